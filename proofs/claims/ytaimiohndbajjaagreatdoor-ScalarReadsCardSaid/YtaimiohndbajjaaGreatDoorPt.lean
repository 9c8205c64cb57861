/- Plain laws of quoted texts: the whole. Own text of the prover; nothing is assumed. -/
import Derived.Test.YtaimiohndbajjaaGreatDoorPs
set_option maxRecDepth 100000
namespace Go.SV

theorem valid_runes : ∀ (k : Nat) (l : List UInt8), l.length ≤ k → Lib.validD l = true → (∀ r ∈ rl l, vRune r = true) ∧ (rl l).flatMap Lib.encodeRune = l := by
  intro k
  induction k with
  | zero =>
    intro l hl _
    have : l = [] := List.length_eq_zero_iff.1 (by omega)
    subst this
    exact ⟨by simp [rl_nil], rfl⟩
  | succ k ih =>
    intro l hl hv
    by_cases hne : l = []
    · subst hne; exact ⟨by simp [rl_nil], rfl⟩
    obtain ⟨h1, h2, h3⟩ := decode_valid hv hne
    have hw := Lib.decodeL_width l
    have hl0 := List.length_pos_iff.2 hne
    obtain ⟨i1, i2⟩ := ih (l.drop (Lib.decodeL l).2) (by rw [List.length_drop]; omega) h2
    rw [rl_step hne]
    refine ⟨fun r hr => ?_, ?_⟩
    · rcases List.mem_cons.1 hr with rfl | hr
      · exact h1
      · exact i1 r hr
    · rw [List.flatMap_cons, i2]
      exact h3.symm

theorem inner_is (a z : UInt8) (X : List UInt8) : inner (a :: (X ++ [z])) = X := by
  have h1 : (a :: (X ++ [z])).length - 1 = X.length + 1 := by simp
  rw [inner, h1, List.take_succ_cons, List.take_left]
  rfl
/-! ### Where they end -/
/-! ### Single quotes -/
theorem index2_ne {a : UInt8} (h : a ≠ 39) (l : List UInt8) : Lib.index (a :: l) [39, 39] = if Lib.index l [39, 39] == -1 then -1 else Lib.index l [39, 39] + 1 := by
  rw [Lib.index, if_neg]
  simp only [List.isPrefixOf, Bool.and_eq_true, beq_iff_eq, not_and]
  intro e
  exact absurd e.symm h
theorem repl2_ne (q : List UInt8) {a : UInt8} (h : a ≠ 39) (k : Nat) (l : List UInt8) : Lib.replaceK [39, 39] q k (a :: l) = a :: Lib.replaceK [39, 39] q k l := by
  cases k with
  | zero => rfl
  | succ k =>
    have hi := index2_ne h l
    have hge := Lib.index_ge l [39, 39]
    by_cases hm : Lib.index l [39, 39] = -1
    · rw [Lib.replaceK, Lib.replaceK, hi, hm]; rfl
    · have hm' : (Lib.index l [39, 39] == -1) = false := beq_eq_false_iff_ne.2 hm
      rw [hm'] at hi
      obtain ⟨i, hi2⟩ : ∃ i : Nat, Lib.index l [39, 39] = i := ⟨(Lib.index l [39, 39]).toNat, by omega⟩
      rw [Lib.replaceK_hit [39, 39] q k l i hi2, Lib.replaceK_hit [39, 39] q k (a :: l) (i + 1) (by rw [hi, hi2]; rfl), show i + 1 + ([39, 39] : List UInt8).length = (i + ([39, 39] : List UInt8).length) + 1 by simp]
      rfl
theorem index2_eq (l : List UInt8) : Lib.index (39 :: 39 :: l) [39, 39] = (0 : Nat) := by
  rw [Lib.index, if_pos]
  · rfl
  · simp [List.isPrefixOf]
theorem repl2_eq (q : List UInt8) (k : Nat) (l : List UInt8) : Lib.replaceK [39, 39] q (k + 1) (39 :: 39 :: l) = q ++ Lib.replaceK [39, 39] q k l := by
  rw [Lib.replaceK_hit [39, 39] q k _ 0 (index2_eq l)]
  rfl
theorem repl2_back : ∀ (l : List UInt8) (k : Nat), l.count 39 ≤ k → Lib.replaceK [39, 39] [39] k (dbl l) = l := by
  intro l
  induction l with
  | nil => intro k _; cases k <;> rfl
  | cons a l ih =>
    intro k hk
    rw [List.count_cons] at hk
    by_cases h : a = 39
    · subst h
      simp only [beq_self_eq_true, if_true] at hk
      obtain ⟨k, rfl⟩ : ∃ j, k = j + 1 := ⟨k - 1, by omega⟩
      have e : dbl (39 :: l) = 39 :: 39 :: dbl l := rfl
      rw [e, repl2_eq, ih k (by omega)]
      rfl
    · have e : dbl (a :: l) = a :: dbl l := by rw [dbl, List.flatMap_cons, if_neg h]; rfl
      rw [e, repl2_ne _ h, ih k (by simp [h] at hk; exact hk)]
theorem count2_ge : ∀ l : List UInt8, l.count 39 ≤ Lib.count (dbl l) [39, 39] := by
  intro l
  induction l with
  | nil => simp
  | cons a l ih =>
    rw [List.count_cons]
    by_cases h : a = 39
    · subst h
      have e : dbl (39 :: l) = 39 :: 39 :: dbl l := rfl
      rw [e, Lib.count_hit (by simp) (index2_eq (dbl l))]
      show _ ≤ 1 + Lib.count (dbl l) [39, 39]
      simp
      omega
    · have e : dbl (a :: l) = a :: dbl l := by rw [dbl, List.flatMap_cons, if_neg h]; rfl
      have : Lib.count (dbl l) [39, 39] ≤ Lib.count (a :: dbl l) [39, 39] := by
        have hi := index2_ne h (dbl l)
        have hge := Lib.index_ge (dbl l) [39, 39]
        by_cases hm : Lib.index (dbl l) [39, 39] = -1
        · rw [Lib.count_miss hm]; exact Nat.zero_le _
        · have hm' : (Lib.index (dbl l) [39, 39] == -1) = false := beq_eq_false_iff_ne.2 hm
          rw [hm'] at hi
          obtain ⟨i, hi2⟩ : ∃ i : Nat, Lib.index (dbl l) [39, 39] = i := ⟨(Lib.index (dbl l) [39, 39]).toNat, by omega⟩
          rw [Lib.count_hit (by simp) hi2, Lib.count_hit (s := a :: dbl l) (i := i + 1) (by simp) (by rw [hi, hi2]; rfl), show i + 1 + ([39, 39] : List UInt8).length = (i + ([39, 39] : List UInt8).length) + 1 by simp]
          exact Nat.le_refl _
      rw [e]
      simp [h]
      omega
theorem usg_back (s : List UInt8) : usgT (sglT s) = s := by
  have hi : inner (sglT s) = dbl s := by rw [sglT, repl_dbl, inner_is]
  rw [usgT, hi]
  unfold Lib.replaceAll Lib.replace
  rw [if_neg (by decide)]
  refine repl2_back s _ ?_
  rw [Lib.replaceNum, if_pos (.inl (by decide))]
  exact count2_ge s
end Go.SV
