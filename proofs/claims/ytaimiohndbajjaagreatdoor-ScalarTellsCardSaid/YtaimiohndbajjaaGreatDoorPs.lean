/- Plain laws of quoted texts: they come back. Own text of the prover; nothing is assumed. -/
import Derived.Test.YtaimiohndbajjaaGreatDoorQk
set_option maxRecDepth 100000
namespace Go.SV

/-! ### Characters and their bytes -/
theorem enc_bytes {r : Int} (hr : vRune r = true) : ∀ b ∈ Lib.encodeRune r, (r ≤ 127 ∧ (b.toNat : Int) = r) ∨ 128 ≤ b.toNat := by
  simp only [vRune, decide_eq_true_eq] at hr
  intro b hb
  have : u8v b ∈ (Lib.encodeRune r).map u8v := List.mem_map.2 ⟨b, hb, rfl⟩
  rw [← encZ] at this
  obtain ⟨z, hz, e⟩ := List.mem_map.1 this
  simp only [u8v, AV.int.injEq, true_and] at e
  rw [← e]
  unfold Lib.encodeRuneZ at hz
  split at hz
  · simp at hz; omega
  split at hz
  · simp at hz; omega
  split at hz
  · simp at hz; omega
  split at hz
  · simp at hz; omega
  · simp at hz; omega

/-! ### Letters and digits -/
theorem letterF_mem {r : Int} : ∀ (ms : List Int) (cs : List UInt8), letterF r ms cs ≠ 0 → r ∈ ms := by
  intro ms
  induction ms with
  | nil => intro cs h; exact absurd rfl h
  | cons m ms ih =>
    intro cs h
    cases cs with
    | nil => exact absurd rfl h
    | cons c cs =>
      rw [letterF] at h
      split at h
      · rename_i e; simp [e]
      · simp [ih cs h]
theorem letter_all : meant.all (fun r => decide (manyS (letterS r) = 0 ∧ letterS r ≠ 47 ∧ meansS (letterS r) = some r ∧ (letterS r).toNat < 128 ∧ letterS r ≠ 10 ∧ letterS r ≠ 9)) = true := by kernel_rfl
theorem letter_is {r : Int} (h : letterS r ≠ 0) : manyS (letterS r) = 0 ∧ letterS r ≠ 47 ∧ meansS (letterS r) = some r ∧ (letterS r).toNat < 128 ∧ letterS r ≠ 10 ∧ letterS r ≠ 9 := by
  have := List.all_eq_true.1 letter_all r (letterF_mem _ _ h)
  simpa only [decide_eq_true_eq] using this
/-! ### One character comes back -/
end Go.SV
