/- FlattenBack: whatever the arguments, the law returns true, and they read as they did; the library's tables stand as the row lists them. Own text of the prover; nothing else is assumed. -/
import Derived.Test.YtkbkhdgjdikjiaaGreatDoorFh
import Derived.Test.YtkbkhdgjdikjiaaGreatDoorDe
import Derived.Test.YtkbkhdgjdikjiaaGreatDoorTie
import Derived.Test.YtkbkhdgjdikjiaaGreatDoorCards
import Derived.SevenTiedAt
import Derived.Stop.Joined
set_option maxRecDepth 100000
namespace Go.Proofs.YtkbkhdgjdikjiaaGreatDoor
open Go.ChangeShapes Go.WideShapes Go.ChangeAt Go.RowKit
open Go.SV

theorem back_lifted (os : Os) (started : os.Started) (H : Type) (enc : TypeId × Value → H) :
    ReturnsInHanded {} Tryz.checked os 4 .any (fun w args => (Rows.flattenBackSpec.pre enc Tryz.prog Tryz.f4 Rows.flattenBackRow.domain false w args ∧ laidMetH Tryz.prog Rows.flattenBackRow.laid w) ∧ sizedMet enc Tryz.prog Tryz.f4 (OpenSpec.ofChange Rows.flattenBackSpec) false w args)
      (Rows.flattenBackSpec.post enc Tryz.prog Tryz.f4 false true false false) := by
  refine lift_laid (C := Tryz.checked) (X := fun w _ => laidMetH Tryz.prog Rows.flattenBackRow.laid w) (fun _ _ _ hh h => h.of_heap hh) ownK started (by kernel_rfl) Tryz.func4
    (ChangeSpec.witness_shaped (enc := enc) (C := Tryz.checked) (os := os) (X := fun w _ => laidMetH Tryz.prog Rows.flattenBackRow.laid w) false (World.laidAll Tryz.prog os Rows.flattenBackRow.laid) #[.slice none 0 0] 8 (World.laidAll_os _ _ _)
      (World.shaped_of_ZipB (by kernel_rfl) (by kernel_rfl)) (by kernel_rfl) (by kernel_rfl) (by kernel_rfl)
      (by rw [MakeChecks.laidMetH_plain _ _ _ (by kernel_rfl)]; exact laidMet_laidAll _ (by kernel_rfl) (by kernel_rfl))) ?_
  intro W base args ds gs before hval0 hW hL hsz hsh
  have hval : ∀ (j : Nat) t v, Tryz.f4.params[j]? = some t → args[j]? = some v → Value.okWide Tryz.prog W .any base t v := hval0
  have hW' := hW
  obtain ⟨p, q, hA0, hV, rfl, _, _⟩ := hW
  have hA : DataW.TrodAll enc Tryz.prog W 0 (fun _ => true) true Tryz.f4.params.toList args.toList ds p := hA0
  rw [Tryz.params4] at hA hval
  obtain ⟨v0, d0, rfl, rfl, h0⟩ := trodAll_one hA
  obtain ⟨rfl, rfl⟩ := trodVars_none hV
  have k0 := h0
  have lt0 : ∀ x ∈ p, x.block < W.heap.size := by obtain ⟨m, hm⟩ := k0; exact DataW.trod_lt m _ _ _ hm
  obtain ⟨ad0, len0, cap0, rfl⟩ := okWide_slice Tryz.underlying24 (hval 0 24 v0 rfl rfl)
  obtain ⟨G0, hK0, hG0⟩ := reads_gss
  obtain ⟨x0, hg0, hr0⟩ := of_arg hG0 (sized_arg (i := 0) hsz (by kernel_rfl) rfl) h0
  replace hK0 := hK0 _ hg0
  have vr0 := hr0.2 0 _ _ rfl rfl
  have tabs := tabs_of hL hsh
  obtain ⟨H', hd, _⟩ := lawBack table_has table_knows (gssF_is x0) (by have := hK0.1; omega) (fun g hg => (hK0.2 g hg).len) AH.start (by decide)
  have hc := call_of (table_ok tabs) (by decide) hd (Laid.start W) (ArgsR.mk1 vr0)
  refine hc.mono fun e W' ⟨⟨E', v', he, hv⟩, bel⟩ => ?_
  have hv' := ret_true hv
  subst hv'
  exact ⟨_, he, _, _, _, [], _, [], hW', trodAll_mk1 (shut_bool Tryz.underlying4 _), trodAll_mk1 (Below.trod laidOut (by kernel_rfl) (of_decide_eq_true (by kernel_rfl)) k0 bel lt0), rfl, bel.frame _, fun h => by cases h⟩

theorem back_row : Rows.FlattenBackSaid :=
  OpenClaim.holds_of_wide 4 Tryz.f4 rfl rfl rfl rfl rfl rfl rfl ⟨rfl, rfl, rfl, rfl, rfl⟩ rfl rfl rfl rfl rfl (by kernel_rfl) Tryz.func4 (by kernel_rfl)
    (of_decide_eq_true (by kernel_rfl)) (by unfold Func.isWrapper; first | (rw [if_pos (by decide +kernel)]; kernel_rfl) | (rw [if_neg (by decide +kernel)]; exact ⟨rfl, rfl⟩))
    (fun os started H enc _ => back_lifted os started H enc)

theorem back_holds : Rows.FlattenBackCardSaid :=
  Claim7.holds_tied_plain_at .later [] [.data, .data, .data, .data, .pinned] true (true, "0bb2e731af9de0ee65536854979abaaa88e422912021b0223c75907340675d6a") true back_row (fun _ h => by cases h) (by kernel_rfl) (fun _ h => by cases h) flattenBack_row_tie rfl ⟨rfl, rfl⟩ (by kernel_rfl) rfl
    (fun f fn hf hfn => by
      obtain rfl : f = 4 := Option.some.inj ((show Tryz.prog.funcNamed "grille/grillelaw10.FlattenBack" = some 4 by kernel_rfl).symm.trans hf) |>.symm
      obtain rfl : fn = Tryz.f4 := (Option.some.inj (Tryz.func4.symm.trans hfn)).symm
      exact ⟨by kernel_rfl, fun j t ht => by
        rw [Tryz.params4] at ht
        have hm : t ∈ [24] := by simpa using Array.mem_of_getElem? ht
        have hall : ([24].all fun u => !Tryz.prog.wantsStandIn u) = true := by kernel_rfl
        exact (show Tryz.prog.wantsStandIn t = false by simpa using List.all_eq_true.1 hall t hm)⟩)
    (by kernel_rfl)
#print axioms back_holds
end Go.Proofs.YtkbkhdgjdikjiaaGreatDoor
