/- ScalarPlain: whatever the arguments, the law returns true, and they read as they did; the library's tables stand as the row lists them. Own text of the prover; nothing else is assumed. -/
import Derived.Test.YtaimiohndbajjaaDoorQl
import Derived.Test.YtaimiohndbajjaaDoorQs
import Derived.Test.YtaimiohndbajjaaDoorTie
import Derived.Test.YtaimiohndbajjaaDoorCards
import Derived.SevenTiedAt
import Derived.Stop.Joined
set_option maxRecDepth 100000
namespace Go.Proofs.YtaimiohndbajjaaDoor
open Go.ChangeShapes Go.WideShapes Go.ChangeAt Go.RowKit
open Go.SV

theorem splain_lifted (os : Os) (started : os.Started) (H : Type) (enc : TypeId × Value → H) :
    ReturnsInHanded {} Tryd.checked os 5 .any (fun w args => (Rows.scalarPlainSpec.pre enc Tryd.prog Tryd.f5 Rows.scalarPlainRow.domain false w args ∧ laidMetH Tryd.prog Rows.scalarPlainRow.laid w) ∧ sizedMet enc Tryd.prog Tryd.f5 (OpenSpec.ofChange Rows.scalarPlainSpec) false w args)
      (Rows.scalarPlainSpec.post enc Tryd.prog Tryd.f5 false true false false) := by
  refine lift_laid (C := Tryd.checked) (X := fun w _ => laidMetH Tryd.prog Rows.scalarPlainRow.laid w) (fun _ _ _ hh h => h.of_heap hh) ownK started (by kernel_rfl) Tryd.func5
    (ChangeSpec.witness_shaped (enc := enc) (C := Tryd.checked) (os := os) (X := fun w _ => laidMetH Tryd.prog Rows.scalarPlainRow.laid w) false (World.laidAll Tryd.prog os Rows.scalarPlainRow.laid) #[.string ⟨#[]⟩] 8 (World.laidAll_os _ _ _)
      (World.shaped_of_ZipB (by kernel_rfl) (by kernel_rfl)) (by kernel_rfl) (by kernel_rfl) (by kernel_rfl)
      (by rw [MakeChecks.laidMetH_plain _ _ _ (by kernel_rfl)]; exact laidMet_laidAll _ (by kernel_rfl) (by kernel_rfl))) ?_
  intro W base args ds gs before hval0 hW hL hsz hsh
  have hval : ∀ (j : Nat) t v, Tryd.f5.params[j]? = some t → args[j]? = some v → Value.okWide Tryd.prog W .any base t v := hval0
  have hW' := hW
  obtain ⟨p, q, hA0, hV, rfl, _, _⟩ := hW
  have hA : DataW.TrodAll enc Tryd.prog W 0 (fun _ => true) true Tryd.f5.params.toList args.toList ds p := hA0
  rw [Tryd.params5] at hA hval
  obtain ⟨v0, d0, rfl, rfl, h0⟩ := trodAll_one hA
  obtain ⟨rfl, rfl⟩ := trodVars_none hV
  have k0 := h0
  have lt0 : ∀ x ∈ p, x.block < W.heap.size := by obtain ⟨m, hm⟩ := k0; exact DataW.trod_lt m _ _ _ hm
  obtain ⟨s0, rfl⟩ := okWide_string Tryd.underlying9 (hval 0 9 v0 rfl rfl)
  obtain ⟨x0, hg0, hr0⟩ := of_arg reads_s (sized_arg (i := 0) hsz (by kernel_rfl) rfl) h0
  have vr0 := hr0.2 0 _ _ rfl rfl
  have tabs := tabsE_of hL hsh
  obtain ⟨H', hd, _⟩ := lawPlain tableP_has tableP_knows tableP_knowsB tableP_knowsT tableP_knowsE tableP_knowsP x0 (by have := hg0; simp only [maxLen] at this; omega) AH.start (by decide)
  have hc := call_of (tableP_ok tabs) (by decide) hd (Laid.start W) (ArgsR.mk1 vr0)
  refine hc.mono fun e W' ⟨⟨E', v', he, hv⟩, bel⟩ => ?_
  have hv' := ret_true hv
  subst hv'
  exact ⟨_, he, _, _, _, [], _, [], hW', trodAll_mk1 (shut_bool Tryd.underlying4 _), trodAll_mk1 (Below.trod laidOut (by kernel_rfl) (of_decide_eq_true (by kernel_rfl)) k0 bel lt0), rfl, bel.frame _, fun h => by cases h⟩

theorem splain_row : Rows.ScalarPlainSaid :=
  OpenClaim.holds_of_wide 5 Tryd.f5 rfl rfl rfl rfl rfl rfl rfl ⟨rfl, rfl, rfl, rfl, rfl⟩ rfl rfl rfl rfl rfl (by kernel_rfl) Tryd.func5 (by kernel_rfl)
    (of_decide_eq_true (by kernel_rfl)) (by unfold Func.isWrapper; first | (rw [if_pos (by decide +kernel)]; kernel_rfl) | (rw [if_neg (by decide +kernel)]; exact ⟨rfl, rfl⟩))
    (fun os started H enc _ => splain_lifted os started H enc)

theorem splain_holds : Rows.ScalarPlainCardSaid :=
  Claim7.holds_tied_plain_at .later [] [.data, .data, .data, .data, .sentinel, .sentinel, .pinned] true (true, "2ade55b18f7600be216183e7bf0caa7f22f4d5f7cda26664a8a51facb2e2df29") true splain_row (fun _ h => by cases h) (by kernel_rfl) (fun _ h => by cases h) scalarPlain_row_tie rfl ⟨rfl, rfl⟩ (by kernel_rfl) rfl
    (fun f fn hf hfn => by
      obtain rfl : f = 5 := Option.some.inj ((show Tryd.prog.funcNamed "grille/grillelaw02.ScalarPlain" = some 5 by kernel_rfl).symm.trans hf) |>.symm
      obtain rfl : fn = Tryd.f5 := (Option.some.inj (Tryd.func5.symm.trans hfn)).symm
      exact ⟨by kernel_rfl, fun j t ht => by
        rw [Tryd.params5] at ht
        have hm : t ∈ [9] := by simpa using Array.mem_of_getElem? ht
        have hall : ([9].all fun u => !Tryd.prog.wantsStandIn u) = true := by kernel_rfl
        exact (show Tryd.prog.wantsStandIn t = false by simpa using List.all_eq_true.1 hall t hm)⟩)
    (by kernel_rfl)
#print axioms splain_holds
end Go.Proofs.YtaimiohndbajjaaDoor
