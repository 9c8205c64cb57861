/- Laws on texts, in the abstract machine: the answers that the document fixes; where quoted texts end. Own text of the prover; nothing is assumed. -/
import Derived.Test.YtaimiohndbajjaaDoorQg
set_option maxRecDepth 100000
namespace Go.SV

variable {T : Nat → Option Entry}

theorem al1 : unqR [34, 97, 92, 110, 92, 120, 52, 49, 34] = .tup [.str [97, 10, 65], .int .i64 0] := by kernel_rfl
theorem al1g : unqG ([34, 97, 92, 110, 92, 120, 52, 49, 34] : List UInt8).length (inner [34, 97, 92, 110, 92, 120, 52, 49, 34]) = true := by kernel_rfl
theorem al2 : sglR [105, 116, 39, 115] = .tup [.str [39, 105, 116, 39, 39, 115, 39], .int .i64 0] := by kernel_rfl
theorem al3 : usgR [39, 105, 116, 39, 39, 115, 39] = .tup [.str [105, 116, 39, 115], .int .i64 0] := by
  have h1 : usgT [39, 105, 116, 39, 39, 115, 39] = [105, 116, 39, 115] := by kernel_rfl
  have h2 : sglOk [105, 116, 39, 115] = true := by kernel_rfl
  have h3 : sglT [105, 116, 39, 115] = [39, 105, 116, 39, 39, 115, 39] := by kernel_rfl
  rw [usgR, h1, if_pos ⟨by decide, h2, h3⟩]
theorem al4 : endR [39, 97, 39, 39, 98, 39, 32, 99] = .tup [.int .i64 6, .int .i64 0] := by kernel_rfl
theorem al5 : unqR [34, 92, 113, 34] = .tup [.str [], .int .i64 10] := by kernel_rfl
theorem al5g : unqG ([34, 92, 113, 34] : List UInt8).length (inner [34, 92, 113, 34]) = true := by kernel_rfl
theorem al6 : quoteS [97, 10] = [34, 97, 92, 110, 34] := by kernel_rfl
theorem al7 : plainT [97, 32, 98] = true := by kernel_rfl
theorem al8 : plainT [97, 58, 32, 98] = false := by kernel_rfl
theorem al9 : (Lib.replaceAll [105, 116, 39, 115] [39] [39, 39]).length < 2 ^ 40 := by
  have : Lib.replaceAll [105, 116, 39, 115] [39] [39, 39] = [105, 116, 39, 39, 115] := by kernel_rfl
  rw [this]; decide

theorem alive2_ok (hT : Has T) (hK : Knows T) (hB : KnowsB T) (hQ : KnowsT T) (H : AH) (hp : 0 < H.toks.length) :
    ∃ H', Den.of T 8 [] H = some (.bool true, H') ∧ Grow H H' := by
  refine gr_of (w8_ok hT ?_)
  unfold w8
  refine c_gr (unquote_ok hT hK hB hQ _ (by decide) (fun _ => al1g) H hp) fun H1 g1 => ?_
  rw [al1]
  refine g_ext0 ?_
  refine g_ext1 ?_
  refine c_gb g1 (single_ok hT hK hQ _ (by decide) al9 H1) fun H2 g2 => ?_
  rw [al2]
  refine g_ext0 ?_
  refine g_ext1 ?_
  refine c_gb g2 (unsingle_ok hT hK hQ _ (by decide) (by rw [show usgT [39, 105, 116, 39, 39, 115, 39] = [105, 116, 39, 115] by kernel_rfl]; decide) (by rw [show usgT [39, 105, 116, 39, 39, 115, 39] = [105, 116, 39, 115] by kernel_rfl]; exact al9) H2) fun H3 g3 => ?_
  rw [al3]
  refine g_ext0 ?_
  refine g_ext1 ?_
  refine c_eq (end_ok hT _ (by decide) _) ?_
  rw [al4]
  refine g_ext0 ?_
  refine g_ext1 ?_
  refine c_gb g3 (unquote_ok hT hK hB hQ _ (by decide) (fun _ => al5g) H3 (g3.pos hp)) fun H4 g4 => ?_
  rw [al5]
  refine g_ext0 ?_
  refine g_ext1 ?_
  refine c_gb g4 (quote_ok hT hK hB _ (by decide) H4 (g4.pos hp)) fun H5 g5 => ?_
  rw [al6]
  refine Stp.go ?_
  refine d_t ?_
  refine i_T rfl ?_
  refine Stp.go ?_
  refine d_t ?_
  refine i_T rfl ?_
  refine Stp.go ?_
  refine d_t ?_
  refine i_T rfl ?_
  refine Stp.go ?_
  refine d_t ?_
  refine i_T rfl ?_
  refine Stp.go ?_
  refine d_t ?_
  refine i_T rfl ?_
  refine Stp.go ?_
  refine d_t ?_
  refine i_T rfl ?_
  refine Stp.go ?_
  refine d_t ?_
  refine i_T rfl ?_
  refine Stp.go ?_
  refine d_t ?_
  refine i_T rfl ?_
  refine Stp.go ?_
  refine d_t ?_
  refine i_T rfl ?_
  refine Stp.go ?_
  refine d_t ?_
  refine i_T rfl ?_
  refine c_gb g5 (plainT_ok hT hK _ (by decide) H5) fun H6 g6 => ?_
  rw [al7]
  refine d_t ?_
  refine i_T rfl ?_
  refine c_gb g6 (plainT_ok hT hK _ (by decide) H6) fun H7 g7 => ?_
  rw [al8]
  refine Stp.go ?_
  exact ⟨rfl, g7⟩

/-! ### Ends -/
theorem endF_spec (q : UInt8) (hq : q = 34 ∨ q = 39) : ∀ (k : Nat) (l : List UInt8) (n : Nat), l.length ≤ k → endF q l = some n → 1 ≤ n ∧ n ≤ l.length ∧ l[n - 1]? = some q ∧ endF q (l.take n) = some n := by
  intro k
  induction k with
  | zero =>
    intro l n hl h
    cases l with
    | nil => cases h
    | cons => simp at hl
  | succ k ih =>
    intro l n hl h
    match l, h with
    | [a], h =>
      rw [endF] at h
      split at h
      · rename_i ha
        simp only [Option.some.injEq] at h
        subst h
        subst ha
        refine ⟨by decide, by simp, rfl, ?_⟩
        show endF a [a] = some 1
        rw [endF, if_pos rfl]
      · cases h
    | a :: b :: l, h =>
      rw [endF] at h
      split at h
      · rename_i hs
        cases hr : endF q l with
        | none => rw [hr] at h; cases h
        | some m =>
          rw [hr] at h
          simp only [Option.map_some, Option.some.injEq] at h
          subst h
          obtain ⟨h1, h2, h3, h4⟩ := ih l m (by simp at hl; omega) hr
          refine ⟨by omega, by simp; omega, ?_, ?_⟩
          · rw [show m + 2 - 1 = (m - 1) + 2 by omega]
            exact h3
          · show endF q (a :: b :: l.take m) = _
            rw [endF, if_pos hs, h4]; rfl
      · rename_i hs
        split at h
        · rename_i ha
          simp only [Option.some.injEq] at h
          subst h
          subst ha
          refine ⟨by decide, by simp, rfl, ?_⟩
          show endF a [a] = some 1
          rw [endF, if_pos rfl]
        · rename_i ha
          cases hr : endF q (b :: l) with
          | none => rw [hr] at h; cases h
          | some m =>
            rw [hr] at h
            simp only [Option.map_some, Option.some.injEq] at h
            subst h
            obtain ⟨h1, h2, h3, h4⟩ := ih (b :: l) m (by simp at hl ⊢; omega) hr
            refine ⟨by omega, by simp at h2 ⊢; omega, ?_, ?_⟩
            · rw [show m + 1 - 1 = (m - 1) + 1 by omega]
              exact h3
            · obtain ⟨m, rfl⟩ : ∃ j, m = j + 1 := ⟨m - 1, by omega⟩
              have e1 : (b :: l).take (m + 1) = b :: l.take m := rfl
              rw [e1] at h4
              show endF q (a :: b :: l.take m) = _
              rw [endF, if_neg hs, if_neg ha, h4]; rfl

theorem endS_spec {s : List UInt8} {n : Nat} (h : endS s = some n) : 2 ≤ n ∧ n ≤ s.length ∧ (∃ q, s[0]? = some q ∧ (q = 34 ∨ q = 39) ∧ s[n - 1]? = some q) ∧ endS (s.take n) = some n := by
  cases s with
  | nil => cases h
  | cons q l =>
    rw [endS] at h
    split at h
    · rename_i hq
      cases hr : endF q l with
      | none => rw [hr] at h; cases h
      | some m =>
        rw [hr] at h
        simp only [Option.map_some, Option.some.injEq] at h
        subst h
        obtain ⟨h1, h2, h3, h4⟩ := endF_spec q hq l.length l m (Nat.le_refl _) hr
        refine ⟨by omega, by simp; omega, ⟨q, rfl, hq, ?_⟩, ?_⟩
        · rw [show m + 1 - 1 = (m - 1) + 1 by omega]
          exact h3
        · show endS (q :: l.take m) = _
          rw [endS, if_pos hq, h4]; rfl
    · cases h

theorem lawEnds (hT : Has T) (hK : Knows T) (hB : KnowsB T) (hQ : KnowsT T) (s : List UInt8) (hs : s.length < 2 ^ 63) (H : AH) (hp : 0 < H.toks.length) :
    ∃ H', Den.of T 7 [.str s] H = some (.bool true, H') ∧ Grow H H' := by
  refine gr_of (w7_ok hT ?_)
  unfold w7
  refine c_gr (alive2_ok hT hK hB hQ H hp) fun H1 g1 => ?_
  refine Stp.go ?_
  refine i_F rfl ?_
  refine Stp.go ?_
  refine Stp.go ?_
  refine i_c (fun h => ?_) (fun h => ?_)
  · exact ⟨rfl, g1⟩
  refine c_eq (end_ok hT s (by omega) _) ?_
  cases he : endS s with
  | none =>
    rw [endR, he]
    refine g_ext0 ?_
    refine g_ext1 ?_
    refine Stp.go ?_
    refine i_T rfl ?_
    refine Stp.go ?_
    exact ⟨rfl, g1⟩
  | some n =>
    obtain ⟨h1, h2, ⟨q, h3, h4, h5⟩, h6⟩ := endS_spec he
    rw [endR, he]
    refine g_ext0 ?_
    refine g_ext1 ?_
    refine Stp.go ?_
    refine i_F rfl ?_
    refine g_upto (by omega) ?_
    rw [Int.toNat_natCast]
    refine c_eq (end_ok hT (s.take n) (by rw [List.length_take]; omega) _) ?_
    rw [endR, h6]
    refine g_ext0 ?_
    refine g_ext1 ?_
    refine Stp.go ?_
    refine d_t ?_
    refine i_cT (by omega) ?_
    refine Stp.go ?_
    refine Stp.go ?_
    refine d_t ?_
    refine i_cT (by omega) ?_
    refine g_byte (b := q) (by decide) h3 ?_
    refine g_sub64 (by omega) ?_
    refine g_byte (b := q) (by omega) (by rw [show ((n : Int) - 1).toNat = n - 1 by omega]; exact h5) ?_
    refine Stp.go ?_
    refine d_t ?_
    refine i_cT rfl ?_
    have last : dP (.bool ((n : Int) == n)) true (gP (aBin .eql (.int .i64 0) (.int .i64 0)) fun x => x = .bool true ∧ Grow H H1) (AV.bool false = .bool true ∧ Grow H H1) := by
      refine d_t ?_
      refine i_cT rfl ?_
      refine Stp.go ?_
      exact ⟨rfl, g1⟩
    refine g_byte (b := q) (by decide) h3 ?_
    refine Stp.go ?_
    refine d_f ?_
    refine i_c (fun h7 => ?_) (fun h7 => ?_)
    · refine d_t ?_
      refine i_T rfl ?_
      refine Stp.go ?_
      exact last
    · have hq : q = 39 := h4.resolve_left fun e => h7 (by rw [e]; rfl)
      subst hq
      refine g_byte (b := 39) (by decide) h3 ?_
      refine Stp.go ?_
      refine d_t ?_
      refine i_cT rfl ?_
      refine Stp.go ?_
      exact last

end Go.SV
