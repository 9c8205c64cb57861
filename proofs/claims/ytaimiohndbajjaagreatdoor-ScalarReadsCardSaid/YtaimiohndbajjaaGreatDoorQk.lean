/- Texts between single quotes: plain laws; the law in the abstract machine. Own text of the prover; nothing is assumed. -/
import Derived.Test.YtaimiohndbajjaaGreatDoorQg
import Derived.Test.YtaimiohndbajjaaGreatDoorRd
set_option maxRecDepth 100000
namespace Go.SV

variable {T : Nat → Option Entry}

/-! ### Quotes doubled -/
def dbl (s : List UInt8) : List UInt8 := s.flatMap fun b => if b = 39 then [39, 39] else [b]
theorem dbl_len (s : List UInt8) : (dbl s).length = s.length + s.count 39 := by
  induction s with
  | nil => rfl
  | cons a l ih =>
    rw [dbl, List.flatMap_cons, List.length_append, show l.flatMap _ = dbl l from rfl, ih, List.count_cons, List.length_cons]
    by_cases h : a = 39
    · simp [h]; omega
    · simp [h]; omega

theorem replK_ne (q : List UInt8) {a : UInt8} (h : a ≠ 39) (k : Nat) (l : List UInt8) : Lib.replaceK [39] q k (a :: l) = a :: Lib.replaceK [39] q k l := by
  cases k with
  | zero => rfl
  | succ k =>
    have hi : Lib.index (a :: l) [39] = if Lib.index l [39] == -1 then -1 else Lib.index l [39] + 1 := by
      rw [Lib.index, if_neg]
      simpa using fun e => h e.symm
    have hge := Lib.index_ge l [39]
    by_cases hm : Lib.index l [39] = -1
    · rw [Lib.replaceK, Lib.replaceK, hi, hm]; rfl
    · have hm' : (Lib.index l [39] == -1) = false := beq_eq_false_iff_ne.2 hm
      rw [hm'] at hi
      obtain ⟨i, hi2⟩ : ∃ i : Nat, Lib.index l [39] = i := ⟨(Lib.index l [39]).toNat, by omega⟩
      rw [Lib.replaceK_hit [39] q k l i hi2, Lib.replaceK_hit [39] q k (a :: l) (i + 1) (by rw [hi, hi2]; rfl)]
      rfl
theorem replK_eq (q : List UInt8) (k : Nat) (l : List UInt8) : Lib.replaceK [39] q (k + 1) (39 :: l) = q ++ Lib.replaceK [39] q k l := by
  have hi : Lib.index (39 :: l) [39] = (0 : Nat) := by
    rw [Lib.index, if_pos]
    · rfl
    · simp
  rw [Lib.replaceK_hit [39] q k _ 0 hi]
  rfl
theorem replK_dbl : ∀ (l : List UInt8) (k : Nat), l.count 39 ≤ k → Lib.replaceK [39] [39, 39] k l = dbl l := by
  intro l
  induction l with
  | nil =>
    intro k _
    cases k with
    | zero => rfl
    | succ k => rfl
  | cons a l ih =>
    intro k hk
    rw [List.count_cons] at hk
    by_cases h : a = 39
    · subst h
      simp only [beq_self_eq_true, if_true] at hk
      obtain ⟨k, rfl⟩ : ∃ j, k = j + 1 := ⟨k - 1, by omega⟩
      rw [replK_eq, ih k (by omega)]
      rfl
    · rw [replK_ne _ h, ih k (by simp [h] at hk; exact hk), dbl, dbl, List.flatMap_cons, if_neg h]
      rfl
theorem repl_dbl (s : List UInt8) : Lib.replaceAll s [39] [39, 39] = dbl s := by
  unfold Lib.replaceAll Lib.replace
  rw [if_neg (by decide)]
  have : Lib.replaceNum s [39] (-1) = s.count 39 := by
    rw [Lib.replaceNum, if_pos (.inl (by decide)), Lib.count_one]
  rw [this]
  exact replK_dbl s _ (Nat.le_refl _)
theorem count_le (s : List UInt8) : s.count 39 ≤ s.length := List.count_le_length
theorem repl_len (s : List UInt8) : (Lib.replaceAll s [39] [39, 39]).length = s.length + s.count 39 := by rw [repl_dbl, dbl_len]

/-! ### The law -/
def goodR (r : Int) : Bool := may r && (!(r == 10) && !(r == 13))
theorem good_odd (r : Int) : goodR r = !oddR r := by
  unfold goodR oddR
  cases may r <;> cases (r == 10) <;> cases (r == 13) <;> rfl
theorem sglOk_all (s : List UInt8) : sglOk s = (Lib.validD s && (rl s).all goodR) := by
  rw [sglOk]
  congr 1
  rw [Bool.eq_iff_iff, Bool.not_eq_true', List.any_eq_false, List.all_eq_true]
  constructor
  · intro h r hr
    rw [good_odd]
    simpa using h r hr
  · intro h r hr
    have := h r hr
    rw [good_odd] at this
    simpa using this

end Go.SV
