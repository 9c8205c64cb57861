/- Plain laws of quoted texts: what is read is a text, and is written without breaks. Own text of the prover; nothing is assumed. -/
import Derived.Test.YtaimiohndbajjaaDoorPt
set_option maxRecDepth 100000
namespace Go.SV

theorem valid_pre : ∀ (k : Nat) (X : List UInt8), X.length ≤ k → Lib.validD (X ++ [34]) = true → Lib.validD X = true := by
  intro k
  induction k with
  | zero =>
    intro X hl _
    have : X = [] := List.length_eq_zero_iff.1 (by omega)
    subst this
    rfl
  | succ k ih =>
    intro X hl hv
    by_cases hX : X = []
    · subst hX; rfl
    have hne : X ++ [34] ≠ [] := by simp
    obtain ⟨hr, hv2, he⟩ := decode_valid hv hne
    generalize ((Lib.decodeL (X ++ [34])).1 : Int) = r at hr he
    generalize (X ++ [34]).drop (Lib.decodeL (X ++ [34])).2 = R at hv2 he
    have hD1 : 1 ≤ (Lib.encodeRune r).length := List.length_pos_iff.2 (enc_ne r)
    have hx0 : 0 < X.length := List.length_pos_iff.2 hX
    have hlen := congrArg List.length he
    simp only [List.length_append, List.length_cons, List.length_nil] at hlen
    have hle : (Lib.encodeRune r).length ≤ X.length := by
      rcases Nat.lt_or_ge X.length (Lib.encodeRune r).length with h | h
      · exfalso
        have hR : R = [] := List.length_eq_zero_iff.1 (by omega)
        rw [hR, List.append_nil] at he
        have hm : (34 : UInt8) ∈ Lib.encodeRune r := by rw [← he]; simp
        have hD : Lib.encodeRune (34 : Int) = [34] := by decide
        rcases enc_bytes hr 34 hm with ⟨_, e⟩ | e
        · have : r = 34 := by rw [← e]; rfl
          have h' : X.length < 1 := by rw [this, hD] at h; exact h
          omega
        · revert e; decide
      · exact h
    have h1 : X.take (Lib.encodeRune r).length = Lib.encodeRune r := by
      have := congrArg (List.take (Lib.encodeRune r).length) he
      rw [List.take_left, List.take_append_of_le_length hle] at this
      exact this
    have h2 : R = X.drop (Lib.encodeRune r).length ++ [34] := by
      have := congrArg (List.drop (Lib.encodeRune r).length) he
      rw [List.drop_left, List.drop_append_of_le_length hle] at this
      exact this.symm
    have h3 : X = Lib.encodeRune r ++ X.drop (Lib.encodeRune r).length := by
      conv => lhs; rw [← List.take_append_drop (Lib.encodeRune r).length X, h1]
    rw [h3, valid_enc hr]
    exact ih _ (by rw [List.length_drop]; omega) (by rw [← h2]; exact hv2)

theorem letters_ascii : lettersS.all (fun c => decide (c.toNat < 128)) = true := by decide
theorem esc_ascii {l : List UInt8} {r : Int} {k : Nat} (h : escS l = some (r, k)) : ∀ b ∈ l.take k, b.toNat < 128 := by
  cases l with
  | nil => cases h
  | cons c Y =>
    rw [escS] at h
    split at h
    · rename_i hm
      cases hn : numS Y (manyS c) with
      | none => rw [hn] at h; cases h
      | some r' =>
        rw [hn] at h
        simp only [Option.map_some, Option.some.injEq, Prod.mk.injEq] at h
        obtain ⟨_, rfl⟩ := h
        intro b hb
        rw [Nat.add_comm, List.take_succ_cons, List.mem_cons] at hb
        rcases hb with rfl | hb
        · unfold manyS at hm
          split at hm
          · rename_i e; rw [e]; decide
          split at hm
          · rename_i e; rw [e]; decide
          split at hm
          · rename_i e; rw [e]; decide
          · exact absurd rfl hm
        · unfold numS at hn
          split at hn
          · cases hn
          split at hn
          · rename_i ha
            exact (hex_is (List.all_eq_true.1 ha b hb)).1
          · cases hn
    · split at h
      · rename_i e
        simp only [Option.some.injEq, Prod.mk.injEq] at h
        obtain ⟨_, rfl⟩ := h
        intro b hb
        simp only [List.take_succ_cons, List.take_zero, List.mem_singleton] at hb
        rw [hb, e]; decide
      · cases hn : meansS c with
        | none => rw [hn] at h; cases h
        | some r' =>
          rw [hn] at h
          simp only [Option.map_some, Option.some.injEq, Prod.mk.injEq] at h
          obtain ⟨_, rfl⟩ := h
          intro b hb
          simp only [List.take_succ_cons, List.take_zero, List.mem_singleton] at hb
          subst hb
          unfold meansS at hn
          split at hn
          · rename_i h0
            obtain ⟨i, hi⟩ : ∃ i : Nat, Lib.indexByte lettersS b = i := ⟨(Lib.indexByte lettersS b).toNat, by omega⟩
            have := List.all_eq_true.1 letters_ascii b (List.mem_of_getElem? (Lib.indexByte_some hi).1)
            simpa using this
          · cases hn

theorem unqF_valid : ∀ (k : Nat) (l : List UInt8) (n : Nat) (t : List UInt8), l.length ≤ k → l.length ≤ n → Lib.validD l = true → unqF n l = some t → Lib.validD t = true ∧ t.length ≤ 4 * l.length := by
  intro k
  induction k with
  | zero =>
    intro l n t hl _ _ h
    have : l = [] := List.length_eq_zero_iff.1 (by omega)
    subst this
    have : unqF n [] = some [] := by cases n <;> rfl
    rw [this] at h
    simp only [Option.some.injEq] at h
    subst h
    exact ⟨rfl, by simp⟩
  | succ k ih =>
    intro l n t hl hn hv h
    cases l with
    | nil => exact ih [] n t (by simp) hn hv h
    | cons a l =>
      simp only [List.length_cons] at hl hn ⊢
      by_cases ha : a.toNat < 128
      · rw [Lib.validD_cons a l ha] at hv
        obtain ⟨n, rfl⟩ : ∃ m, n = m + 1 := ⟨n - 1, by omega⟩
        rw [unqF] at h
        split at h
        · cases h
        split at h
        · cases he : escS l with
          | none => rw [he] at h; cases h
          | some p =>
            obtain ⟨r, m⟩ := p
            rw [he] at h
            simp only [Option.bind_some, Option.map_eq_some_iff] at h
            obtain ⟨u, hu, rfl⟩ := h
            obtain ⟨hr, hm1, hm2⟩ := escS_valid he
            have hvd : Lib.validD (l.drop m) = true := by rw [← Lib.validD_ascii m l (esc_ascii he)]; exact hv
            obtain ⟨i1, i2⟩ := ih (l.drop m) n u (by rw [List.length_drop]; omega) (by rw [List.length_drop]; omega) hvd hu
            have := enc_len r
            rw [List.length_drop] at i2
            exact ⟨by rw [valid_enc hr]; exact i1, by rw [List.length_append]; omega⟩
        · simp only [Option.map_eq_some_iff] at h
          obtain ⟨u, hu, rfl⟩ := h
          obtain ⟨i1, i2⟩ := ih l n u (by omega) (by omega) hv hu
          exact ⟨by rw [Lib.validD_cons a u ha]; exact i1, by simp only [List.length_cons]; omega⟩
      · obtain ⟨hr, hv2, he⟩ := decode_valid hv (by simp)
        generalize ((Lib.decodeL (a :: l)).1 : Int) = r at hr he
        generalize (a :: l).drop (Lib.decodeL (a :: l)).2 = R at hv2 he
        have hD1 : 1 ≤ (Lib.encodeRune r).length := List.length_pos_iff.2 (enc_ne r)
        have hlen := congrArg List.length he
        simp only [List.length_append, List.length_cons] at hlen
        have hb : ∀ b ∈ Lib.encodeRune r, b ≠ 34 ∧ b ≠ 10 ∧ b ≠ 92 := by
          have big : ∀ b ∈ Lib.encodeRune r, 128 ≤ b.toNat := by
            intro b hb
            rcases enc_bytes hr b hb with ⟨hr127, _⟩ | e
            · exfalso
              simp only [vRune, decide_eq_true_eq] at hr
              have hm : a ∈ Lib.encodeRune r := by
                cases hD : Lib.encodeRune r with
                | nil => exact absurd hD (enc_ne r)
                | cons x xs =>
                  rw [hD, List.cons_append] at he
                  simp only [List.cons.injEq] at he
                  rw [he.1]; simp
              rcases enc_bytes (by simp only [vRune, decide_eq_true_eq]; exact hr) a hm with ⟨_, e⟩ | e
              · omega
              · have hz : Lib.encodeRune r = [r.toNat.toUInt8] := by rw [Lib.encodeRune, Lib.encodeRuneZ_one (by omega) hr127]; rfl
                rw [hz, List.mem_singleton] at hm
                rw [hm] at e
                have : r.toNat.toUInt8.toNat = r.toNat := by simp; omega
                omega
            · exact e
          intro b hb
          have := big b hb
          refine ⟨?_, ?_, ?_⟩ <;> rintro rfl <;> revert this <;> decide
        obtain ⟨p1, _⟩ := unqF_plain (Lib.encodeRune r) R n hb (by omega)
        rw [he, p1] at h
        simp only [Option.map_eq_some_iff] at h
        obtain ⟨u, hu, rfl⟩ := h
        obtain ⟨i1, i2⟩ := ih R (n - (Lib.encodeRune r).length) u (by omega) (by omega) hv2 hu
        exact ⟨by rw [valid_enc hr]; exact i1, by rw [List.length_append]; omega⟩

/-- What is read between quotes is a text. -/
theorem unq_valid {s t : List UInt8} (h : unqS s = some t) : Lib.validD t = true ∧ t.length ≤ 4 * s.length := by
  unfold unqS at h
  split at h
  · rename_i hok
    simp only [unqOk, Bool.and_eq_true, decide_eq_true_eq] at hok
    obtain ⟨hv, h2, h0, h1⟩ := hok
    have hs : s = 34 :: (inner s ++ [34]) := by
      cases s with
      | nil => simp at h2
      | cons a l =>
        simp only [List.getElem?_cons_zero, Option.some.injEq] at h0
        subst h0
        simp only [List.length_cons] at h2 h1
        have hl : l ≠ [] := by rintro rfl; simp at h2
        have e1 : inner (34 :: l) = l.take (l.length - 1) := by
          rw [inner, List.length_cons, show l.length + 1 - 1 = (l.length - 1) + 1 by omega, List.take_succ_cons]; rfl
        rw [e1]
        congr 1
        have e2 : l[l.length - 1]? = some 34 := by
          rw [show l.length + 1 - 1 = (l.length - 1) + 1 by omega, List.getElem?_cons_succ] at h1
          exact h1
        have e3 : l = l.take (l.length - 1) ++ l.drop (l.length - 1) := (List.take_append_drop _ _).symm
        have hlt : l.length - 1 < l.length := by omega
        have e4 : l.drop (l.length - 1) = [34] := by
          rw [List.drop_eq_getElem_cons hlt, List.drop_eq_nil_of_le (by omega)]
          rw [List.getElem?_eq_getElem hlt] at e2
          rw [Option.some.inj e2]
        rw [e4] at e3
        exact e3
    have hi : (inner s).length ≤ s.length := by rw [inner, List.length_drop, List.length_take]; omega
    have hvi : Lib.validD (inner s) = true := by
      rw [hs, Lib.validD_cons 34 _ (by decide)] at hv
      exact valid_pre _ _ (Nat.le_refl _) hv
    obtain ⟨a, b⟩ := unqF_valid (inner s).length (inner s) s.length t (Nat.le_refl _) hi hvi h
    exact ⟨a, by omega⟩
  · cases h

theorem quote_bytes (s : List UInt8) : ∀ b ∈ quoteS s, b ≠ 10 ∧ b ≠ 9 := by
  intro b hb
  unfold quoteS at hb
  split at hb
  rotate_left
  · cases hb
  rename_i hv
  obtain ⟨hr, _⟩ := valid_runes s.length s (Nat.le_refl _) hv
  simp only [List.mem_cons, List.mem_append, List.mem_flatMap, List.not_mem_nil, or_false] at hb
  rcases hb with rfl | ⟨r, hm, hb⟩ | rfl
  · decide
  · have dig : ∀ (c : UInt8) (u m : Nat), c ≠ 10 ∧ c ≠ 9 → b ∈ 92 :: c :: hexS u m → b ≠ 10 ∧ b ≠ 9 := by
      intro c u m hc hb
      simp only [List.mem_cons] at hb
      rcases hb with rfl | rfl | hb
      · decide
      · exact hc
      · obtain ⟨d, hd, rfl⟩ := hexS_mem u m b hb
        exact ⟨(hexD_is hd).2.2.2.2.1, (hexD_is hd).2.2.2.2.2⟩
    unfold qc at hb
    split at hb
    · rename_i h
      simp only [List.mem_cons, List.not_mem_nil, or_false] at hb
      rcases hb with rfl | rfl
      · decide
      · exact ⟨(letter_is h).2.2.2.2.1, (letter_is h).2.2.2.2.2⟩
    rename_i h
    have hz : letterS r = 0 := Decidable.not_not.1 h
    split at hb
    · obtain ⟨_, _, q3, q4⟩ := letter_not hz
      have := enc_bytes (hr r hm) b hb
      constructor <;> rintro rfl
      · rcases this with ⟨_, e⟩ | e
        · exact q3 e.symm
        · revert e; decide
      · rcases this with ⟨_, e⟩ | e
        · exact q4 e.symm
        · revert e; decide
    split at hb
    · exact dig 120 _ _ (by decide) hb
    split at hb
    · exact dig 117 _ _ (by decide) hb
    · exact dig 85 _ _ (by decide) hb
  · decide
theorem contains_not {q : List UInt8} {c : UInt8} (h : ∀ b ∈ q, b ≠ c) : Lib.contains q [c] = false := by
  rw [Lib.contains, Lib.index_one, decide_eq_false_iff_not]
  intro h0
  obtain ⟨i, hi⟩ : ∃ i : Nat, Lib.indexByte q c = i := ⟨(Lib.indexByte q c).toNat, by omega⟩
  exact h c (List.mem_of_getElem? (Lib.indexByte_some hi).1) rfl

variable {T : Nat → Option Entry}

theorem lawOnceS (hT : Has T) (hK : Knows T) (hB : KnowsB T) (hQ : KnowsT T) (hE : KnowsE T) (s : List UInt8) (hs : s.length < 2 ^ 63) (H : AH) (hp : 0 < H.toks.length) :
    ∃ H', Den.of T 4 [.str s] H = some (.bool true, H') ∧ Grow H H' := by
  refine gr_of (w4_ok hT ?_)
  unfold w4
  refine c_gr (alive2_ok hT hK hB hQ hE H hp) fun H1 g1 => ?_
  refine Stp.go ?_
  refine i_F rfl ?_
  refine Stp.go ?_
  refine Stp.go ?_
  refine i_c (fun h => ⟨rfl, g1⟩) (fun h => ?_)
  refine c_gb g1 (unquote_ok hT hK hB hQ hE s (by omega) H1 (g1.pos hp)) fun H2 g2 => ?_
  cases hu : unqS s with
  | none =>
    rw [unqR_none hu]
    refine g_ext0 ?_
    refine g_ext1 ?_
    refine Stp.go ?_
    refine i_T rfl ?_
    refine Stp.go ?_
    exact ⟨rfl, g2⟩
  | some t =>
    obtain ⟨hv, hl⟩ := unq_valid hu
    rw [show unqR s = .tup [.str t, .int .i64 0] by rw [unqR, hu]]
    refine g_ext0 ?_
    refine g_ext1 ?_
    refine Stp.go ?_
    refine i_F rfl ?_
    refine c_gb g2 (quote_ok hT hK hB t (by omega) H2 (g2.pos hp)) fun H3 g3 => ?_
    have hql := quote_len t
    refine c_gb g3 (unquote_ok hT hK hB hQ hE (quoteS t) (by omega) H3 (g3.pos hp)) fun H4 g4 => ?_
    rw [show unqR (quoteS t) = .tup [.str t, .int .i64 0] by rw [unqR, (unq_quote hv).1]]
    refine g_ext0 ?_
    refine g_ext1 ?_
    refine Stp.go ?_
    refine d_t ?_
    refine i_cT rfl ?_
    refine Stp.go ?_
    refine d_t ?_
    refine i_T rfl ?_
    refine c_eq (hK.contains (quoteS t) [10] H4 (by omega)) ?_
    rw [contains_not fun b hb => (quote_bytes t b hb).1]
    refine Stp.go ?_
    refine d_t ?_
    refine i_T rfl ?_
    refine c_eq (hK.contains (quoteS t) [9] H4 (by omega)) ?_
    rw [contains_not fun b hb => (quote_bytes t b hb).2]
    refine Stp.go ?_
    exact ⟨rfl, g4⟩

end Go.SV
