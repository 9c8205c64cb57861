/- Plain laws of quoted texts: what is read is a text, and is written without breaks. Own text of the prover; nothing is assumed. -/
import Derived.Test.YtaimiohndbajjaaGreatDoorPt
set_option maxRecDepth 100000
namespace Go.SV

theorem letters_ascii : lettersS.all (fun c => decide (c.toNat < 128)) = true := by decide
theorem esc_ascii {l : List UInt8} {r : Int} {k : Nat} (h : escS l = some (r, k)) : ∀ b ∈ l.take k, b.toNat < 128 := by
  cases l with
  | nil => cases h
  | cons c Y =>
    rw [escS] at h
    split at h
    · rename_i hm
      cases hn : numS Y (manyS c) with
      | none => rw [hn] at h; cases h
      | some r' =>
        rw [hn] at h
        simp only [Option.map_some, Option.some.injEq, Prod.mk.injEq] at h
        obtain ⟨_, rfl⟩ := h
        intro b hb
        rw [Nat.add_comm, List.take_succ_cons, List.mem_cons] at hb
        rcases hb with rfl | hb
        · unfold manyS at hm
          split at hm
          · rename_i e; rw [e]; decide
          split at hm
          · rename_i e; rw [e]; decide
          split at hm
          · rename_i e; rw [e]; decide
          · exact absurd rfl hm
        · unfold numS at hn
          split at hn
          · cases hn
          split at hn
          · rename_i ha
            exact (hex_is (List.all_eq_true.1 ha b hb)).1
          · cases hn
    · split at h
      · rename_i e
        simp only [Option.some.injEq, Prod.mk.injEq] at h
        obtain ⟨_, rfl⟩ := h
        intro b hb
        simp only [List.take_succ_cons, List.take_zero, List.mem_singleton] at hb
        rw [hb, e]; decide
      · cases hn : meansS c with
        | none => rw [hn] at h; cases h
        | some r' =>
          rw [hn] at h
          simp only [Option.map_some, Option.some.injEq, Prod.mk.injEq] at h
          obtain ⟨_, rfl⟩ := h
          intro b hb
          simp only [List.take_succ_cons, List.take_zero, List.mem_singleton] at hb
          subst hb
          unfold meansS at hn
          split at hn
          · rename_i h0
            obtain ⟨i, hi⟩ : ∃ i : Nat, Lib.indexByte lettersS b = i := ⟨(Lib.indexByte lettersS b).toNat, by omega⟩
            have := List.all_eq_true.1 letters_ascii b (List.mem_of_getElem? (Lib.indexByte_some hi).1)
            simpa using this
          · cases hn

variable {T : Nat → Option Entry}

end Go.SV
