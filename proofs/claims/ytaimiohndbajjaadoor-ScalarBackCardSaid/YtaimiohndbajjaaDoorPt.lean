/- Plain laws of quoted texts: the whole. Own text of the prover; nothing is assumed. -/
import Derived.Test.YtaimiohndbajjaaDoorPs
set_option maxRecDepth 100000
namespace Go.SV

theorem valid_runes : ∀ (k : Nat) (l : List UInt8), l.length ≤ k → Lib.validD l = true → (∀ r ∈ rl l, vRune r = true) ∧ (rl l).flatMap Lib.encodeRune = l := by
  intro k
  induction k with
  | zero =>
    intro l hl _
    have : l = [] := List.length_eq_zero_iff.1 (by omega)
    subst this
    exact ⟨by simp [rl_nil], rfl⟩
  | succ k ih =>
    intro l hl hv
    by_cases hne : l = []
    · subst hne; exact ⟨by simp [rl_nil], rfl⟩
    obtain ⟨h1, h2, h3⟩ := decode_valid hv hne
    have hw := Lib.decodeL_width l
    have hl0 := List.length_pos_iff.2 hne
    obtain ⟨i1, i2⟩ := ih (l.drop (Lib.decodeL l).2) (by rw [List.length_drop]; omega) h2
    rw [rl_step hne]
    refine ⟨fun r hr => ?_, ?_⟩
    · rcases List.mem_cons.1 hr with rfl | hr
      · exact h1
      · exact i1 r hr
    · rw [List.flatMap_cons, i2]
      exact h3.symm

theorem valid_ascii : ∀ (D Y : List UInt8), (∀ b ∈ D, b.toNat < 128) → Lib.validD (D ++ Y) = Lib.validD Y := by
  intro D
  induction D with
  | nil => intro Y _; rfl
  | cons a D ih =>
    intro Y h
    rw [List.cons_append, Lib.validD_cons a _ (h a (by simp)), ih Y fun b hb => h b (by simp [hb])]

theorem valid_qc {r : Int} (hr : vRune r = true) (Y : List UInt8) : Lib.validD (qc r ++ Y) = Lib.validD Y := by
  have dig : ∀ (c : UInt8) (u m : Nat), c.toNat < 128 → Lib.validD ((92 :: c :: hexS u m) ++ Y) = Lib.validD Y := by
    intro c u m hc
    refine valid_ascii _ Y fun b hb => ?_
    simp only [List.mem_cons] at hb
    rcases hb with rfl | rfl | hb
    · decide
    · exact hc
    · obtain ⟨d, hd, rfl⟩ := hexS_mem u m b hb
      exact (hexD_is hd).2.1
  unfold qc
  split
  · rename_i h
    refine valid_ascii _ Y fun b hb => ?_
    simp only [List.mem_cons, List.not_mem_nil, or_false] at hb
    rcases hb with rfl | rfl
    · decide
    · exact (letter_is h).2.2.2.1
  split
  · exact valid_enc hr Y
  split
  · exact dig 120 _ 2 (by decide)
  split
  · exact dig 117 _ 4 (by decide)
  · exact dig 85 _ 8 (by decide)
theorem valid_qs : ∀ (R : List Int) (Y : List UInt8), (∀ r ∈ R, vRune r = true) → Lib.validD (R.flatMap qc ++ Y) = Lib.validD Y := by
  intro R
  induction R with
  | nil => intro Y _; rfl
  | cons r R ih =>
    intro Y h
    rw [List.flatMap_cons, List.append_assoc, valid_qc (h r (by simp)), ih Y fun x hx => h x (by simp [hx])]

theorem quote_is {s : List UInt8} (hv : Lib.validD s = true) : quoteS s = 34 :: ((rl s).flatMap qc ++ [34]) := by rw [quoteS, if_pos hv]
theorem inner_is (a z : UInt8) (X : List UInt8) : inner (a :: (X ++ [z])) = X := by
  have h1 : (a :: (X ++ [z])).length - 1 = X.length + 1 := by simp
  rw [inner, h1, List.take_succ_cons, List.take_left]
  rfl
theorem quote_ok2 {s : List UInt8} (hv : Lib.validD s = true) : unqOk (quoteS s) = true := by
  obtain ⟨hr, _⟩ := valid_runes s.length s (Nat.le_refl _) hv
  rw [quote_is hv]
  have h1 : Lib.validD (34 :: ((rl s).flatMap qc ++ [34])) = true := by
    rw [Lib.validD_cons 34 _ (by decide), valid_qs _ _ hr]
    rfl
  have h2 : (34 :: ((rl s).flatMap qc ++ [34]) : List UInt8).length - 1 = ((rl s).flatMap qc).length + 1 := by simp
  have h3 : (34 :: ((rl s).flatMap qc ++ [34]) : List UInt8)[((rl s).flatMap qc).length + 1]? = some 34 := by simp
  rw [unqOk, h1, h2, h3]
  simp
/-- What was quoted is told again, and digits stand where they should. -/
theorem unq_quote {s : List UInt8} (hv : Lib.validD s = true) : unqS (quoteS s) = some s ∧ unqG (quoteS s).length (inner (quoteS s)) = true := by
  obtain ⟨hr, he⟩ := valid_runes s.length s (Nat.le_refl _) hv
  have hi : inner (quoteS s) = (rl s).flatMap qc := by rw [quote_is hv, inner_is]
  have hl : ((rl s).flatMap qc).length ≤ (quoteS s).length := by rw [quote_is hv]; simp; omega
  obtain ⟨a, b⟩ := qs_back (rl s) (quoteS s).length hr hl
  refine ⟨?_, by rw [hi]; exact b⟩
  rw [unqS, if_pos (quote_ok2 hv), hi, a, he]

/-! ### Where they end -/
theorem endF_plain : ∀ (D Y : List UInt8), (∀ b ∈ D, b ≠ 34 ∧ b ≠ 92) → endF 34 (D ++ Y) = (endF 34 Y).map (· + D.length) := by
  intro D
  induction D with
  | nil => intro Y _; cases h : endF 34 Y <;> simp [h]
  | cons a D ih =>
    intro Y h
    obtain ⟨h1, h2⟩ := h a (by simp)
    rw [List.cons_append, endF_next (by rintro ⟨_, e⟩; exact h2 e) (by rintro ⟨e, _⟩; revert e; decide) h1, ih Y fun b hb => h b (by simp [hb]), map_map2]
    congr 1
    funext n
    simp
    omega
theorem endF_esc (c : UInt8) (Y : List UInt8) : endF 34 (92 :: c :: Y) = (endF 34 Y).map (· + 2) := endF_skip (l := c :: Y) (.inl ⟨rfl, rfl⟩)
theorem endF_qc {r : Int} (hr : vRune r = true) (Y : List UInt8) : endF 34 (qc r ++ Y) = (endF 34 Y).map (· + (qc r).length) := by
  have dig : ∀ (c : UInt8) (u m : Nat), endF 34 ((92 :: c :: hexS u m) ++ Y) = (endF 34 Y).map (· + (92 :: c :: hexS u m).length) := by
    intro c u m
    rw [List.cons_append, List.cons_append, endF_esc, endF_plain _ Y (fun b hb => by
      obtain ⟨d, hd, rfl⟩ := hexS_mem u m b hb
      exact ⟨(hexD_is hd).2.2.1, (hexD_is hd).2.2.2.1⟩), map_map2]
    congr 1
    funext n
    simp
    omega
  unfold qc
  split
  · exact endF_esc _ Y
  rename_i h
  have hz : letterS r = 0 := Decidable.not_not.1 h
  split
  · refine endF_plain _ Y fun b hb => ?_
    obtain ⟨q1, q2, _⟩ := letter_not hz
    have := enc_bytes hr b hb
    constructor <;> rintro rfl
    · rcases this with ⟨_, e⟩ | e
      · exact q1 e.symm
      · revert e; decide
    · rcases this with ⟨_, e⟩ | e
      · exact q2 e.symm
      · revert e; decide
  split
  · exact dig _ _ _
  split
  · exact dig _ _ _
  · exact dig _ _ _
theorem endF_qs : ∀ (R : List Int) (Y : List UInt8), (∀ r ∈ R, vRune r = true) → endF 34 (R.flatMap qc ++ 34 :: Y) = some ((R.flatMap qc).length + 1) := by
  intro R
  induction R with
  | nil => intro Y _; exact endF_one (l := Y) (by decide) (by rintro ⟨e, _⟩; revert e; decide) rfl
  | cons r R ih =>
    intro Y h
    rw [List.flatMap_cons, List.append_assoc, endF_qc (h r (by simp)), ih Y fun x hx => h x (by simp [hx])]
    simp only [Option.map_some, List.length_append]
    congr 1
    omega
theorem end_quote {s : List UInt8} (hv : Lib.validD s = true) (rest : List UInt8) : endS (quoteS s ++ rest) = some (quoteS s).length := by
  obtain ⟨hr, _⟩ := valid_runes s.length s (Nat.le_refl _) hv
  rw [quote_is hv, List.cons_append, endS, if_pos (.inl rfl), List.append_assoc, List.singleton_append, endF_qs _ _ hr]
  simp
theorem quote_len (s : List UInt8) : (quoteS s).length ≤ 10 * s.length + 2 := by
  have h1 : ∀ R : List Int, (R.flatMap qc).length ≤ 10 * R.length := by
    intro R
    induction R with
    | nil => simp
    | cons r R ih =>
      have := qc_len r
      rw [List.flatMap_cons, List.length_append, List.length_cons]
      omega
  have h2 : ∀ (k : Nat) (l : List UInt8), l.length ≤ k → (rl l).length ≤ l.length := by
    intro k
    induction k with
    | zero =>
      intro l hl
      have : l = [] := List.length_eq_zero_iff.1 (by omega)
      subst this
      simp [rl_nil]
    | succ k ih =>
      intro l hl
      by_cases hne : l = []
      · subst hne; simp [rl_nil]
      have hw := Lib.decodeL_width l
      have hl0 := List.length_pos_iff.2 hne
      have := ih (l.drop (Lib.decodeL l).2) (by rw [List.length_drop]; omega)
      rw [rl_step hne, List.length_cons]
      rw [List.length_drop] at this
      omega
  unfold quoteS
  split
  · have := h1 (rl s)
    have := h2 s.length s (Nat.le_refl _)
    simp only [List.length_cons, List.length_append, List.length_nil]
    omega
  · simp

/-! ### Single quotes -/
theorem endF_dbl : ∀ (l Y : List UInt8), endF 39 (dbl l ++ 39 :: 32 :: Y) = some ((dbl l).length + 1) := by
  intro l
  induction l with
  | nil => intro Y; exact endF_one (l := 32 :: Y) (by decide) (by rintro ⟨_, e⟩; revert e; simp [pre]) rfl
  | cons a l ih =>
    intro Y
    by_cases h : a = 39
    · subst h
      have e : dbl (39 :: l) = 39 :: 39 :: dbl l := rfl
      rw [e, List.cons_append, List.cons_append, endF_skip (.inr ⟨rfl, by simp [pre]⟩)]
      show (endF 39 (dbl l ++ 39 :: 32 :: Y)).map (· + 2) = _
      rw [ih]
      simp
    · have e : dbl (a :: l) = a :: dbl l := by rw [dbl, List.flatMap_cons, if_neg h]; rfl
      rw [e, List.cons_append, endF_next (by rintro ⟨q, _⟩; revert q; decide) (by rintro ⟨_, q⟩; simp [pre] at q; exact h q.1) h, ih]
      simp
theorem end_single (s rest : List UInt8) : endS (sglT s ++ [32] ++ rest) = some (sglT s).length := by
  have e : sglT s ++ [32] ++ rest = 39 :: (dbl s ++ 39 :: 32 :: rest) := by rw [sglT, repl_dbl]; simp
  rw [e, endS, if_pos (.inr rfl), endF_dbl, sglT, repl_dbl]
  simp

theorem index2_ne {a : UInt8} (h : a ≠ 39) (l : List UInt8) : Lib.index (a :: l) [39, 39] = if Lib.index l [39, 39] == -1 then -1 else Lib.index l [39, 39] + 1 := by
  rw [Lib.index, if_neg]
  simp only [List.isPrefixOf, Bool.and_eq_true, beq_iff_eq, not_and]
  intro e
  exact absurd e.symm h
theorem repl2_ne (q : List UInt8) {a : UInt8} (h : a ≠ 39) (k : Nat) (l : List UInt8) : Lib.replaceK [39, 39] q k (a :: l) = a :: Lib.replaceK [39, 39] q k l := by
  cases k with
  | zero => rfl
  | succ k =>
    have hi := index2_ne h l
    have hge := Lib.index_ge l [39, 39]
    by_cases hm : Lib.index l [39, 39] = -1
    · rw [Lib.replaceK, Lib.replaceK, hi, hm]; rfl
    · have hm' : (Lib.index l [39, 39] == -1) = false := beq_eq_false_iff_ne.2 hm
      rw [hm'] at hi
      obtain ⟨i, hi2⟩ : ∃ i : Nat, Lib.index l [39, 39] = i := ⟨(Lib.index l [39, 39]).toNat, by omega⟩
      rw [Lib.replaceK_hit [39, 39] q k l i hi2, Lib.replaceK_hit [39, 39] q k (a :: l) (i + 1) (by rw [hi, hi2]; rfl), show i + 1 + ([39, 39] : List UInt8).length = (i + ([39, 39] : List UInt8).length) + 1 by simp]
      rfl
theorem index2_eq (l : List UInt8) : Lib.index (39 :: 39 :: l) [39, 39] = (0 : Nat) := by
  rw [Lib.index, if_pos]
  · rfl
  · simp [List.isPrefixOf]
theorem repl2_eq (q : List UInt8) (k : Nat) (l : List UInt8) : Lib.replaceK [39, 39] q (k + 1) (39 :: 39 :: l) = q ++ Lib.replaceK [39, 39] q k l := by
  rw [Lib.replaceK_hit [39, 39] q k _ 0 (index2_eq l)]
  rfl
theorem repl2_back : ∀ (l : List UInt8) (k : Nat), l.count 39 ≤ k → Lib.replaceK [39, 39] [39] k (dbl l) = l := by
  intro l
  induction l with
  | nil => intro k _; cases k <;> rfl
  | cons a l ih =>
    intro k hk
    rw [List.count_cons] at hk
    by_cases h : a = 39
    · subst h
      simp only [beq_self_eq_true, if_true] at hk
      obtain ⟨k, rfl⟩ : ∃ j, k = j + 1 := ⟨k - 1, by omega⟩
      have e : dbl (39 :: l) = 39 :: 39 :: dbl l := rfl
      rw [e, repl2_eq, ih k (by omega)]
      rfl
    · have e : dbl (a :: l) = a :: dbl l := by rw [dbl, List.flatMap_cons, if_neg h]; rfl
      rw [e, repl2_ne _ h, ih k (by simp [h] at hk; exact hk)]
theorem count2_ge : ∀ l : List UInt8, l.count 39 ≤ Lib.count (dbl l) [39, 39] := by
  intro l
  induction l with
  | nil => simp
  | cons a l ih =>
    rw [List.count_cons]
    by_cases h : a = 39
    · subst h
      have e : dbl (39 :: l) = 39 :: 39 :: dbl l := rfl
      rw [e, Lib.count_hit (by simp) (index2_eq (dbl l))]
      show _ ≤ 1 + Lib.count (dbl l) [39, 39]
      simp
      omega
    · have e : dbl (a :: l) = a :: dbl l := by rw [dbl, List.flatMap_cons, if_neg h]; rfl
      have : Lib.count (dbl l) [39, 39] ≤ Lib.count (a :: dbl l) [39, 39] := by
        have hi := index2_ne h (dbl l)
        have hge := Lib.index_ge (dbl l) [39, 39]
        by_cases hm : Lib.index (dbl l) [39, 39] = -1
        · rw [Lib.count_miss hm]; exact Nat.zero_le _
        · have hm' : (Lib.index (dbl l) [39, 39] == -1) = false := beq_eq_false_iff_ne.2 hm
          rw [hm'] at hi
          obtain ⟨i, hi2⟩ : ∃ i : Nat, Lib.index (dbl l) [39, 39] = i := ⟨(Lib.index (dbl l) [39, 39]).toNat, by omega⟩
          rw [Lib.count_hit (by simp) hi2, Lib.count_hit (s := a :: dbl l) (i := i + 1) (by simp) (by rw [hi, hi2]; rfl), show i + 1 + ([39, 39] : List UInt8).length = (i + ([39, 39] : List UInt8).length) + 1 by simp]
          exact Nat.le_refl _
      rw [e]
      simp [h]
      omega
theorem usg_back (s : List UInt8) : usgT (sglT s) = s := by
  have hi : inner (sglT s) = dbl s := by rw [sglT, repl_dbl, inner_is]
  rw [usgT, hi]
  unfold Lib.replaceAll Lib.replace
  rw [if_neg (by decide)]
  refine repl2_back s _ ?_
  rw [Lib.replaceNum, if_pos (.inl (by decide))]
  exact count2_ge s
theorem usgR_back {s : List UInt8} (h : sglOk s = true) : usgR (sglT s) = .tup [.str s, .int .i64 0] := by
  rw [usgR, usg_back, if_pos ⟨by rw [sglT]; simp, h, rfl⟩]
theorem sgl_len (s : List UInt8) : (sglT s).length = s.length + s.count 39 + 2 := by rw [sglT, repl_dbl]; simp [dbl_len]

end Go.SV
