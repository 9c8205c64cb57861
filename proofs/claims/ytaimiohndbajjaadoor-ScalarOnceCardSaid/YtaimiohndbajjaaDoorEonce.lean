/- ScalarOnce: whatever the arguments, the law returns true, and they read as they did; the library's tables stand as the row lists them. Own text of the prover; nothing else is assumed. -/
import Derived.Test.YtaimiohndbajjaaDoorQl
import Derived.Test.YtaimiohndbajjaaDoorPv
import Derived.Test.YtaimiohndbajjaaDoorTie
import Derived.Test.YtaimiohndbajjaaDoorCards
import Derived.SevenTiedAt
import Derived.Stop.Joined
set_option maxRecDepth 100000
namespace Go.Proofs.YtaimiohndbajjaaDoor
open Go.ChangeShapes Go.WideShapes Go.ChangeAt Go.RowKit
open Go.SV

theorem once_lifted (os : Os) (started : os.Started) (H : Type) (enc : TypeId × Value → H) :
    ReturnsInHanded {} Tryd.checked os 4 .any (fun w args => (Rows.scalarOnceSpec.pre enc Tryd.prog Tryd.f4 Rows.scalarOnceRow.domain false w args ∧ laidMetH Tryd.prog Rows.scalarOnceRow.laid w) ∧ sizedMet enc Tryd.prog Tryd.f4 (OpenSpec.ofChange Rows.scalarOnceSpec) false w args)
      (Rows.scalarOnceSpec.post enc Tryd.prog Tryd.f4 false true false false) := by
  refine lift_laid (C := Tryd.checked) (X := fun w _ => laidMetH Tryd.prog Rows.scalarOnceRow.laid w) (fun _ _ _ hh h => h.of_heap hh) ownK started (by kernel_rfl) Tryd.func4
    (ChangeSpec.witness_shaped (enc := enc) (C := Tryd.checked) (os := os) (X := fun w _ => laidMetH Tryd.prog Rows.scalarOnceRow.laid w) false (World.laidAll Tryd.prog os Rows.scalarOnceRow.laid) #[.string ⟨#[]⟩] 8 (World.laidAll_os _ _ _)
      (World.shaped_of_ZipB (by kernel_rfl) (by kernel_rfl)) (by kernel_rfl) (by kernel_rfl) (by kernel_rfl)
      (by rw [MakeChecks.laidMetH_plain _ _ _ (by kernel_rfl)]; exact laidMet_laidAll _ (by kernel_rfl) (by kernel_rfl))) ?_
  intro W base args ds gs before hval0 hW hL hsz hsh
  have hval : ∀ (j : Nat) t v, Tryd.f4.params[j]? = some t → args[j]? = some v → Value.okWide Tryd.prog W .any base t v := hval0
  have hW' := hW
  obtain ⟨p, q, hA0, hV, rfl, _, _⟩ := hW
  have hA : DataW.TrodAll enc Tryd.prog W 0 (fun _ => true) true Tryd.f4.params.toList args.toList ds p := hA0
  rw [Tryd.params4] at hA hval
  obtain ⟨v0, d0, rfl, rfl, h0⟩ := trodAll_one hA
  obtain ⟨rfl, rfl⟩ := trodVars_none hV
  have k0 := h0
  have lt0 : ∀ x ∈ p, x.block < W.heap.size := by obtain ⟨m, hm⟩ := k0; exact DataW.trod_lt m _ _ _ hm
  obtain ⟨s0, rfl⟩ := okWide_string Tryd.underlying9 (hval 0 9 v0 rfl rfl)
  obtain ⟨x0, hg0, hr0⟩ := of_arg reads_s (sized_arg (i := 0) hsz (by kernel_rfl) rfl) h0
  have vr0 := hr0.2 0 _ _ rfl rfl
  have tabs := tabsE_of hL hsh
  obtain ⟨H', hd, _⟩ := lawOnceS tableE_has tableE_knows tableE_knowsB tableE_knowsT tableE_knowsE x0 (by have := hg0; simp only [maxLen] at this; omega) AH.start (by decide)
  have hc := call_of (tableE_ok tabs) (by decide) hd (Laid.start W) (ArgsR.mk1 vr0)
  refine hc.mono fun e W' ⟨⟨E', v', he, hv⟩, bel⟩ => ?_
  have hv' := ret_true hv
  subst hv'
  exact ⟨_, he, _, _, _, [], _, [], hW', trodAll_mk1 (shut_bool Tryd.underlying4 _), trodAll_mk1 (Below.trod laidOut (by kernel_rfl) (of_decide_eq_true (by kernel_rfl)) k0 bel lt0), rfl, bel.frame _, fun h => by cases h⟩

theorem once_row : Rows.ScalarOnceSaid :=
  OpenClaim.holds_of_wide 4 Tryd.f4 rfl rfl rfl rfl rfl rfl rfl ⟨rfl, rfl, rfl, rfl, rfl⟩ rfl rfl rfl rfl rfl (by kernel_rfl) Tryd.func4 (by kernel_rfl)
    (of_decide_eq_true (by kernel_rfl)) (by unfold Func.isWrapper; first | (rw [if_pos (by decide +kernel)]; kernel_rfl) | (rw [if_neg (by decide +kernel)]; exact ⟨rfl, rfl⟩))
    (fun os started H enc _ => once_lifted os started H enc)

theorem once_holds : Rows.ScalarOnceCardSaid :=
  Claim7.holds_tied_plain_at .later [] [.data, .data, .data, .data, .sentinel, .sentinel, .pinned] true (true, "2ade55b18f7600be216183e7bf0caa7f22f4d5f7cda26664a8a51facb2e2df29") true once_row (fun _ h => by cases h) (by kernel_rfl) (fun _ h => by cases h) scalarOnce_row_tie rfl ⟨rfl, rfl⟩ (by kernel_rfl) rfl
    (fun f fn hf hfn => by
      obtain rfl : f = 4 := Option.some.inj ((show Tryd.prog.funcNamed "grille/grillelaw02.ScalarOnce" = some 4 by kernel_rfl).symm.trans hf) |>.symm
      obtain rfl : fn = Tryd.f4 := (Option.some.inj (Tryd.func4.symm.trans hfn)).symm
      exact ⟨by kernel_rfl, fun j t ht => by
        rw [Tryd.params4] at ht
        have hm : t ∈ [9] := by simpa using Array.mem_of_getElem? ht
        have hall : ([9].all fun u => !Tryd.prog.wantsStandIn u) = true := by kernel_rfl
        exact (show Tryd.prog.wantsStandIn t = false by simpa using List.all_eq_true.1 hall t hm)⟩)
    (by kernel_rfl)
#print axioms once_holds
end Go.Proofs.YtaimiohndbajjaaDoor
