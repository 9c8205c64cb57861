/- LinesIndents: whatever the arguments, the law returns true, and they read as they did; the library's tables stand as the row lists them. Own text of the prover; nothing else is assumed. -/
import Derived.Test.YtmbaaiifdjoibaaGreatDoorQl
import Derived.Test.YtmbaaiifdjoibaaGreatDoorVc
import Derived.Test.YtmbaaiifdjoibaaGreatDoorVb
import Derived.Test.YtmbaaiifdjoibaaGreatDoorTie
import Derived.Test.YtmbaaiifdjoibaaGreatDoorCards
import Derived.SevenTiedAt
import Derived.Stop.Joined
set_option maxRecDepth 100000
namespace Go.Proofs.YtmbaaiifdjoibaaGreatDoor
open Go.ChangeShapes Go.WideShapes Go.ChangeAt Go.RowKit
open Go.SV

theorem indents_lifted (os : Os) (started : os.Started) (H : Type) (enc : TypeId × Value → H) :
    ReturnsInHanded {} Tryz.checked os 3 .any (fun w args => (Rows.linesIndentsSpec.pre enc Tryz.prog Tryz.f3 Rows.linesIndentsRow.domain false w args ∧ laidMetH Tryz.prog Rows.linesIndentsRow.laid w) ∧ sizedMet enc Tryz.prog Tryz.f3 (OpenSpec.ofChange Rows.linesIndentsSpec) false w args)
      (Rows.linesIndentsSpec.post enc Tryz.prog Tryz.f3 false true false false) := by
  refine lift_laid (C := Tryz.checked) (X := fun w _ => laidMetH Tryz.prog Rows.linesIndentsRow.laid w) (fun _ _ _ hh h => h.of_heap hh) ownK started (by kernel_rfl) Tryz.func3
    (ChangeSpec.witness_shaped (enc := enc) (C := Tryz.checked) (os := os) (X := fun w _ => laidMetH Tryz.prog Rows.linesIndentsRow.laid w) false (World.laidAll Tryz.prog os Rows.linesIndentsRow.laid) #[.string ⟨#[]⟩, .int .u8 0] 8 (World.laidAll_os _ _ _)
      (World.shaped_of_ZipB (by kernel_rfl) (by kernel_rfl)) (by kernel_rfl) (by kernel_rfl) (by kernel_rfl)
      (by rw [MakeChecks.laidMetH_plain _ _ _ (by kernel_rfl)]; exact laidMet_laidAll _ (by kernel_rfl) (by kernel_rfl))) ?_
  intro W base args ds gs before hval0 hW hL hsz hsh
  have hval : ∀ (j : Nat) t v, Tryz.f3.params[j]? = some t → args[j]? = some v → Value.okWide Tryz.prog W .any base t v := hval0
  have hW' := hW
  obtain ⟨p, q, hA0, hV, rfl, _, _⟩ := hW
  have hA : DataW.TrodAll enc Tryz.prog W 0 (fun _ => true) true Tryz.f3.params.toList args.toList ds p := hA0
  rw [Tryz.params3] at hA hval
  obtain ⟨v0, v1, d0, d1, p0, p1, rfl, rfl, rfl, h0, h1⟩ := trodAll_two hA
  obtain ⟨rfl, rfl⟩ := trodVars_none hV
  have k0 := h0
  have lt0 : ∀ x ∈ p0, x.block < W.heap.size := by obtain ⟨m, hm⟩ := k0; exact DataW.trod_lt m _ _ _ hm
  obtain ⟨s0, rfl⟩ := okWide_string Tryz.underlying9 (hval 0 9 v0 rfl rfl)
  obtain ⟨x0, hg0, hr0⟩ := of_arg reads_s (sized_arg (i := 0) hsz (by kernel_rfl) rfl) h0
  have vr0 := hr0.2 0 _ _ rfl rfl
  have k1 := h1
  have lt1 : ∀ x ∈ p1, x.block < W.heap.size := by obtain ⟨m, hm⟩ := k1; exact DataW.trod_lt m _ _ _ hm
  obtain ⟨n1, rfl⟩ := okWide_int Tryz.underlying5 (hval 1 5 v1 rfl rfl)
  obtain ⟨x1, hg1, hr1⟩ := of_arg reads_u8 (sized_arg (i := 1) hsz (by kernel_rfl) rfl) h1
  have vr1 := hr1.2 0 _ _ rfl rfl
  have tabs := tabsE_of hL hsh
  obtain ⟨H', hd, _⟩ := lawIndents x0 x1 hg1 AH.start (by decide)
  have hc := call_of (tableV_ok tabs) (by decide) hd (Laid.start W) (ArgsR.mk2 vr0 vr1)
  refine hc.mono fun e W' ⟨⟨E', v', he, hv⟩, bel⟩ => ?_
  have hv' := ret_true hv
  subst hv'
  exact ⟨_, he, _, _, _, [], _, [], hW', trodAll_mk1 (shut_bool Tryz.underlying4 _), trodAll_mk2 (Below.trod laidOut (by kernel_rfl) (of_decide_eq_true (by kernel_rfl)) k0 bel lt0) (Below.trod laidOut (by kernel_rfl) (of_decide_eq_true (by kernel_rfl)) k1 bel lt1), rfl, bel.frame _, fun h => by cases h⟩

theorem indents_row : Rows.LinesIndentsSaid :=
  OpenClaim.holds_of_wide 3 Tryz.f3 rfl rfl rfl rfl rfl rfl rfl ⟨rfl, rfl, rfl, rfl, rfl⟩ rfl rfl rfl rfl rfl (by kernel_rfl) Tryz.func3 (by kernel_rfl)
    (of_decide_eq_true (by kernel_rfl)) (by unfold Func.isWrapper; first | (rw [if_pos (by decide +kernel)]; kernel_rfl) | (rw [if_neg (by decide +kernel)]; exact ⟨rfl, rfl⟩))
    (fun os started H enc _ => indents_lifted os started H enc)

theorem indents_holds : Rows.LinesIndentsCardSaid :=
  Claim7.holds_tied_plain_at .later [] [.data, .data, .data, .data, .sentinel, .sentinel, .pinned] true (true, "7e913ee045fa2023acb8484496fdf7e33c456d1f5fe7fe5fcbed4199d5c96217") true indents_row (fun _ h => by cases h) (by kernel_rfl) (fun _ h => by cases h) linesIndents_row_tie rfl ⟨rfl, rfl⟩ (by kernel_rfl) rfl
    (fun f fn hf hfn => by
      obtain rfl : f = 3 := Option.some.inj ((show Tryz.prog.funcNamed "grille/grillelaw05.LinesIndents" = some 3 by kernel_rfl).symm.trans hf) |>.symm
      obtain rfl : fn = Tryz.f3 := (Option.some.inj (Tryz.func3.symm.trans hfn)).symm
      exact ⟨by kernel_rfl, fun j t ht => by
        rw [Tryz.params3] at ht
        have hm : t ∈ [9, 5] := by simpa using Array.mem_of_getElem? ht
        have hall : ([9, 5].all fun u => !Tryz.prog.wantsStandIn u) = true := by kernel_rfl
        exact (show Tryz.prog.wantsStandIn t = false by simpa using List.all_eq_true.1 hall t hm)⟩)
    (by kernel_rfl)
#print axioms indents_holds
end Go.Proofs.YtmbaaiifdjoibaaGreatDoor
