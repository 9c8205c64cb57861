/- Plain laws of quoted texts: the whole. Own text of the prover; nothing is assumed. -/
import Derived.Test.YtaimiohndbajjaaDoorPs
set_option maxRecDepth 100000
namespace Go.SV

theorem valid_runes : ∀ (k : Nat) (l : List UInt8), l.length ≤ k → Lib.validD l = true → (∀ r ∈ rl l, vRune r = true) ∧ (rl l).flatMap Lib.encodeRune = l := by
  intro k
  induction k with
  | zero =>
    intro l hl _
    have : l = [] := List.length_eq_zero_iff.1 (by omega)
    subst this
    exact ⟨by simp [rl_nil], rfl⟩
  | succ k ih =>
    intro l hl hv
    by_cases hne : l = []
    · subst hne; exact ⟨by simp [rl_nil], rfl⟩
    obtain ⟨h1, h2, h3⟩ := decode_valid hv hne
    have hw := Lib.decodeL_width l
    have hl0 := List.length_pos_iff.2 hne
    obtain ⟨i1, i2⟩ := ih (l.drop (Lib.decodeL l).2) (by rw [List.length_drop]; omega) h2
    rw [rl_step hne]
    refine ⟨fun r hr => ?_, ?_⟩
    · rcases List.mem_cons.1 hr with rfl | hr
      · exact h1
      · exact i1 r hr
    · rw [List.flatMap_cons, i2]
      exact h3.symm

/-! ### Where they end -/
/-! ### Single quotes -/
end Go.SV
