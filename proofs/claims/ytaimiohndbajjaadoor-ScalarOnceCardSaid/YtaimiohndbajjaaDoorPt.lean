/- Plain laws of quoted texts: the whole. Own text of the prover; nothing is assumed. -/
import Derived.Test.YtaimiohndbajjaaDoorPs
set_option maxRecDepth 100000
namespace Go.SV

theorem valid_runes : ∀ (k : Nat) (l : List UInt8), l.length ≤ k → Lib.validD l = true → (∀ r ∈ rl l, vRune r = true) ∧ (rl l).flatMap Lib.encodeRune = l := by
  intro k
  induction k with
  | zero =>
    intro l hl _
    have : l = [] := List.length_eq_zero_iff.1 (by omega)
    subst this
    exact ⟨by simp [rl_nil], rfl⟩
  | succ k ih =>
    intro l hl hv
    by_cases hne : l = []
    · subst hne; exact ⟨by simp [rl_nil], rfl⟩
    obtain ⟨h1, h2, h3⟩ := decode_valid hv hne
    have hw := Lib.decodeL_width l
    have hl0 := List.length_pos_iff.2 hne
    obtain ⟨i1, i2⟩ := ih (l.drop (Lib.decodeL l).2) (by rw [List.length_drop]; omega) h2
    rw [rl_step hne]
    refine ⟨fun r hr => ?_, ?_⟩
    · rcases List.mem_cons.1 hr with rfl | hr
      · exact h1
      · exact i1 r hr
    · rw [List.flatMap_cons, i2]
      exact h3.symm

theorem valid_ascii : ∀ (D Y : List UInt8), (∀ b ∈ D, b.toNat < 128) → Lib.validD (D ++ Y) = Lib.validD Y := by
  intro D
  induction D with
  | nil => intro Y _; rfl
  | cons a D ih =>
    intro Y h
    rw [List.cons_append, Lib.validD_cons a _ (h a (by simp)), ih Y fun b hb => h b (by simp [hb])]

theorem valid_qc {r : Int} (hr : vRune r = true) (Y : List UInt8) : Lib.validD (qc r ++ Y) = Lib.validD Y := by
  have dig : ∀ (c : UInt8) (u m : Nat), c.toNat < 128 → Lib.validD ((92 :: c :: hexS u m) ++ Y) = Lib.validD Y := by
    intro c u m hc
    refine valid_ascii _ Y fun b hb => ?_
    simp only [List.mem_cons] at hb
    rcases hb with rfl | rfl | hb
    · decide
    · exact hc
    · obtain ⟨d, hd, rfl⟩ := hexS_mem u m b hb
      exact (hexD_is hd).2.1
  unfold qc
  split
  · rename_i h
    refine valid_ascii _ Y fun b hb => ?_
    simp only [List.mem_cons, List.not_mem_nil, or_false] at hb
    rcases hb with rfl | rfl
    · decide
    · exact (letter_is h).2.2.2.1
  split
  · exact valid_enc hr Y
  split
  · exact dig 120 _ 2 (by decide)
  split
  · exact dig 117 _ 4 (by decide)
  · exact dig 85 _ 8 (by decide)
theorem valid_qs : ∀ (R : List Int) (Y : List UInt8), (∀ r ∈ R, vRune r = true) → Lib.validD (R.flatMap qc ++ Y) = Lib.validD Y := by
  intro R
  induction R with
  | nil => intro Y _; rfl
  | cons r R ih =>
    intro Y h
    rw [List.flatMap_cons, List.append_assoc, valid_qc (h r (by simp)), ih Y fun x hx => h x (by simp [hx])]

theorem quote_is {s : List UInt8} (hv : Lib.validD s = true) : quoteS s = 34 :: ((rl s).flatMap qc ++ [34]) := by rw [quoteS, if_pos hv]
theorem inner_is (a z : UInt8) (X : List UInt8) : inner (a :: (X ++ [z])) = X := by
  have h1 : (a :: (X ++ [z])).length - 1 = X.length + 1 := by simp
  rw [inner, h1, List.take_succ_cons, List.take_left]
  rfl
theorem quote_ok2 {s : List UInt8} (hv : Lib.validD s = true) : unqOk (quoteS s) = true := by
  obtain ⟨hr, _⟩ := valid_runes s.length s (Nat.le_refl _) hv
  rw [quote_is hv]
  have h1 : Lib.validD (34 :: ((rl s).flatMap qc ++ [34])) = true := by
    rw [Lib.validD_cons 34 _ (by decide), valid_qs _ _ hr]
    rfl
  have h2 : (34 :: ((rl s).flatMap qc ++ [34]) : List UInt8).length - 1 = ((rl s).flatMap qc).length + 1 := by simp
  have h3 : (34 :: ((rl s).flatMap qc ++ [34]) : List UInt8)[((rl s).flatMap qc).length + 1]? = some 34 := by simp
  rw [unqOk, h1, h2, h3]
  simp
/-- What was quoted is told again, and digits stand where they should. -/
theorem unq_quote {s : List UInt8} (hv : Lib.validD s = true) : unqS (quoteS s) = some s ∧ unqG (quoteS s).length (inner (quoteS s)) = true := by
  obtain ⟨hr, he⟩ := valid_runes s.length s (Nat.le_refl _) hv
  have hi : inner (quoteS s) = (rl s).flatMap qc := by rw [quote_is hv, inner_is]
  have hl : ((rl s).flatMap qc).length ≤ (quoteS s).length := by rw [quote_is hv]; simp; omega
  obtain ⟨a, b⟩ := qs_back (rl s) (quoteS s).length hr hl
  refine ⟨?_, by rw [hi]; exact b⟩
  rw [unqS, if_pos (quote_ok2 hv), hi, a, he]

/-! ### Where they end -/
theorem quote_len (s : List UInt8) : (quoteS s).length ≤ 10 * s.length + 2 := by
  have h1 : ∀ R : List Int, (R.flatMap qc).length ≤ 10 * R.length := by
    intro R
    induction R with
    | nil => simp
    | cons r R ih =>
      have := qc_len r
      rw [List.flatMap_cons, List.length_append, List.length_cons]
      omega
  have h2 : ∀ (k : Nat) (l : List UInt8), l.length ≤ k → (rl l).length ≤ l.length := by
    intro k
    induction k with
    | zero =>
      intro l hl
      have : l = [] := List.length_eq_zero_iff.1 (by omega)
      subst this
      simp [rl_nil]
    | succ k ih =>
      intro l hl
      by_cases hne : l = []
      · subst hne; simp [rl_nil]
      have hw := Lib.decodeL_width l
      have hl0 := List.length_pos_iff.2 hne
      have := ih (l.drop (Lib.decodeL l).2) (by rw [List.length_drop]; omega)
      rw [rl_step hne, List.length_cons]
      rw [List.length_drop] at this
      omega
  unfold quoteS
  split
  · have := h1 (rl s)
    have := h2 s.length s (Nat.le_refl _)
    simp only [List.length_cons, List.length_append, List.length_nil]
    omega
  · simp

/-! ### Single quotes -/
end Go.SV
