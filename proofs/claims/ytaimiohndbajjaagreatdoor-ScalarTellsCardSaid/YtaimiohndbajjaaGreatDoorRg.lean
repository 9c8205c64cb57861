/- Contracts: the document's words for single quotes, for texts without any, and where a quoted text ends. Own text of the prover; nothing is assumed. -/
import Derived.Test.YtaimiohndbajjaaGreatDoorRf
import Derived.Test.YtaimiohndbajjaaGreatDoorPx
import Derived.Test.YtaimiohndbajjaaGreatDoorQd
set_option maxRecDepth 100000
namespace Go.SV

variable {T : Nat → Option Entry}

theorem goodR_may (r : Int) : goodR r = (may r && (!(r == 10) && !(r == 13))) := rfl

theorem rsingle_ok (hT : Has T) (s : List UInt8) (hs : s.length < 2 ^ 30) (H : AH) (hp : 0 < H.toks.length) : ∃ H', Den.of T 7 [.str s] H = some (sglR s, H') ∧ Grow H H' := by
  refine gr_of (w7_ok hT ?_)
  unfold w7
  refine c_i (chars_all hT s (by omega) H hp) ?_
  rintro _ H1 ⟨⟨row, rfl, hrow⟩, g1⟩
  refine g_ext0 ?_
  refine g_ext1 ?_
  have hsg : sglOk s = (Lib.validD s && (if Lib.validD s = true then rl s else []).all goodR) := by
    rw [sglOk_all]
    cases hv : Lib.validD s <;> simp
  have hR : AllR (if Lib.validD s = true then rl s else []) := by
    by_cases hv : Lib.validD s = true
    · rw [if_pos hv]; exact rl_all hv
    · rw [if_neg hv]; intro x hx; cases hx
  have hRl : (if Lib.validD s = true then rl s else []).length ≤ s.length := by
    by_cases hv : Lib.validD s = true
    · rw [if_pos hv]; exact rl_le hv
    · rw [if_neg hv]; simp
  have hT2 : Lib.validD s = true → txt (39 :: (sglI (if Lib.validD s = true then rl s else []) ++ [39])) = sglT s := by
    intro hv
    rw [if_pos hv]; exact sgl_rl hv
  have hN : Lib.validD s = false → (if Lib.validD s = true then rl s else []) = [] := fun hv => by rw [hv]; rfl
  generalize (if Lib.validD s = true then rl s else []) = L at *
  have tl : ∀ {α : Type} (l : List α) (x : α), (l ++ [x])[l.length]? = some x := fun l x => by simp
  refine sP_i (v := .sl H1.toks.length 1 [.int .i64 39]) (H := ⟨H1.obs, H1.toks ++ [(1, 1, 0)]⟩) (by simp [aLit, elemsOk, AV.def?, AV.cells, AV.isCell]) ?_
  have g2 : Grow H1 ⟨H1.obs, H1.toks ++ [(1, 1, 0)]⟩ := ⟨⟨[], by simp⟩, ⟨_, rfl⟩⟩
  have t2 : Tok H1 ⟨H1.obs, H1.toks ++ [(1, 1, 0)]⟩ 1 (.sl H1.toks.length 1 [.int .i64 39]) ([39].map (AV.int .i64)) := .inr ⟨_, 0, rfl, Nat.le_refl _, by simp⟩
  generalize (⟨H1.obs, H1.toks ++ [(1, 1, 0)]⟩ : AH) = H2 at *
  have bad : ∀ {H' : AH}, sglOk s = false → Grow H H' → AV.tup [.str [], .int .i64 10] = sglR s ∧ Grow H H' := fun h hg => ⟨by rw [sglR, h]; rfl, hg⟩
  refine l2 (fun m x y H' => ∃ (i : Nat) (acc : List Int), y = .int .i64 i ∧ i ≤ L.length ∧ Tok H1 H' 1 x (acc.map (AV.int .i64)) ∧ Grow H1 H' ∧ m = L.length - i ∧ acc.length ≤ 1 + 2 * i ∧ 39 :: sglI L = acc ++ sglI (L.drop i) ∧ L.all goodR = (L.drop i).all goodR) L.length
    ⟨0, [39], rfl, Nat.zero_le _, t2, g2, rfl, by simp, rfl, rfl⟩ ?_
  rintro m x _ H3 ⟨i, acc, rfl, hi, ht, hg, hm, hal, he, hgd⟩
  have hp1 := g1.pos hp
  refine g_lenW hrow ?_
  refine Stp.go ?_
  refine i_c (fun h => ?_) (fun h => ?_)
  · have hlt : i < L.length := by omega
    have hvs : Lib.validD s = true := by
      cases hv : Lib.validD s with
      | true => rfl
      | false => rw [hN hv] at hlt; exact absurd hlt (by simp)
    have hgi := List.getElem?_eq_getElem hlt
    rw [List.drop_eq_getElem_cons hlt, sglI_cons] at he
    rw [List.drop_eq_getElem_cons hlt, List.all_cons] at hgd
    generalize L[i] = c at *
    refine j1 (fun z H' => z = .bool (!goodR c) ∧ H3 = H') ?_ ?_
    rotate_left
    · intro j hj
      refine g_atIn hrow hgi ?_
      refine g_ldv ?_
      refine c_eq (rmay_ok hT c H3) ?_
      refine Stp.go ?_
      refine d_f ?_
      refine i_not ?_
      refine i_i (fun h1 => ?_) (fun h1 => ?_)
      rotate_left
      · exact hj _ _ ⟨by rw [goodR_may, h1]; rfl, rfl⟩
      refine g_atIn hrow hgi ?_
      refine g_ldv ?_
      refine Stp.go ?_
      refine d_f ?_
      refine i_c (fun h2 => hj _ _ ⟨by rw [goodR_may, h1, h2]; rfl, rfl⟩) (fun h2 => ?_)
      refine g_atIn hrow hgi ?_
      refine g_ldv ?_
      refine Stp.go ?_
      refine hj _ _ ⟨?_, rfl⟩
      rw [goodR_may, h1, beq_eq_false_iff_ne.2 h2]
      cases (c == 13) <;> rfl
    rintro _ _ ⟨rfl, rfl⟩
    refine i_not ?_
    refine i_i (fun h1 => ?_) (fun h1 => ?_)
    rotate_left
    · exact bad (by rw [hsg, hgd, h1, Bool.false_and, Bool.and_false]) (g1.trans hg)
    rw [h1, Bool.true_and] at hgd
    refine j1 (fun z H' => Tok H1 H' 1 z ((acc ++ (if c = 39 then [39] else [])).map (AV.int .i64)) ∧ Grow H1 H') ?_ ?_
    · rintro z H4 ⟨ht4, hg4⟩
      refine g_atIn hrow hgi ?_
      refine g_ldv ?_
      refine s_lit rfl ?_
      have hl4 : (acc ++ (if c = 39 then [39] else [] : List Int)).length ≤ acc.length + 1 := by
        rw [List.length_append]; split <;> simp
      refine s_app ht4 hg4 hp1 (by simp) rfl (by simp only [List.length_map, List.length_cons, List.length_nil]; omega) fun w' H5 ht5 hg5 _ => ?_
      refine g_add64 (by omega) ?_
      refine ⟨L.length - (i + 1), by omega, i + 1, acc ++ (if c = 39 then [39] else []) ++ [c], by congr 1, by omega, by rw [List.map_append (l₂ := [c])]; exact ht5, hg5, rfl, by rw [List.length_append]; simp only [List.length_cons, List.length_nil]; omega, ?_, hgd⟩
      rw [he]
      by_cases h39 : c = 39
      · rw [if_pos h39, if_pos h39, h39]; simp
      · rw [if_neg h39, if_neg h39]; simp
    · intro j hj
      refine g_atIn hrow hgi ?_
      refine g_ldv ?_
      refine Stp.go ?_
      refine i_c (fun h2 => ?_) (fun h2 => ?_)
      · refine s_lit rfl ?_
        refine s_app ht hg hp1 (by simp) rfl (by simp only [List.length_map, List.length_cons, List.length_nil]; omega) fun w' H5 ht5 hg5 _ => ?_
        refine hj _ _ ⟨?_, hg5⟩
        rw [if_pos h2, List.map_append]; exact ht5
      · refine hj _ _ ⟨?_, hg⟩
        rw [if_neg h2, List.append_nil]; exact ht
  · rw [List.drop_eq_nil_of_le (by omega)] at he hgd
    refine Stp.go ?_
    refine i_not ?_
    refine i_i (fun hv => ?_) (fun hv => bad (by rw [hsg, hv]; rfl) (g1.trans hg))
    refine s_lit rfl ?_
    refine s_app ht hg hp1 (by simp) rfl (by simp only [List.length_map, List.length_cons, List.length_nil]; omega) fun w' H5 ht5 hg5 _ => ?_
    have e : acc ++ [39] = 39 :: (sglI L ++ [39]) := by
      rw [show sglI [] = [] from rfl, List.append_nil] at he
      rw [← he]; rfl
    have ht6 : Tok H1 H5 1 w' ((39 :: (sglI L ++ [39])).map (AV.int .i64)) := by rw [← e, List.map_append]; exact ht5
    have hall : AllR (39 :: (sglI L ++ [39])) := (AllR.one (r := 39) (by decide)).app ((sglI_all hR).app (AllR.one (by decide)))
    have hlen : (39 :: (sglI L ++ [39])).length < 2 ^ 40 := by
      rw [← e, List.length_append]; simp only [List.length_cons, List.length_nil]; omega
    refine c_gb hg5 (rtext_ok hT ht6.rowI hall hlen H5 (hg5.pos hp1)) fun H6 g6 => ?_
    rw [hT2 hv]
    exact ⟨by rw [sglR, hsg, hv, hgd]; rfl, g1.trans g6⟩

/-! ### Without quotes -/
theorem inS_cons (r : Int) (b : UInt8) (l : List UInt8) : inS r (b :: l) = (((b.toNat : Int) == r) || inS r l) := rfl
theorem rin_ok (hT : Has T) (r : Int) (l : List UInt8) (hl : l.length < 2 ^ 60) (H : AH) : Den.of T 37 [.int .i64 r, .str l] H = some (.bool (inS r l), H) := by
  refine eq_of (w37_ok hT ?_)
  unfold w37
  refine l1 (fun m x H' => ∃ i : Nat, x = .int .i64 i ∧ i ≤ l.length ∧ m = l.length - i ∧ H = H' ∧ inS r l = inS r (l.drop i)) l.length ⟨0, rfl, Nat.zero_le _, rfl, rfl, rfl⟩ ?_
  rintro m _ _ ⟨i, rfl, hi, hm, rfl, he⟩
  refine Stp.go ?_
  refine Stp.go ?_
  refine i_c (fun h => ?_) (fun h => ?_)
  · have hlt : i < l.length := by omega
    have hgi := List.getElem?_eq_getElem hlt
    rw [List.drop_eq_getElem_cons hlt, inS_cons] at he
    generalize l[i] = b at *
    have hb := b.toNat_lt
    refine g_byte (b := b) (by omega) (by rw [Int.toNat_natCast]; exact hgi) ?_
    refine g_cv64 (by omega) ?_
    refine Stp.go ?_
    refine i_c (fun h2 => ?_) (fun h2 => ?_)
    · exact ⟨by rw [he, beq_iff_eq.2 h2, Bool.true_or], rfl⟩
    · refine g_add64 (by omega) ?_
      exact ⟨l.length - (i + 1), by omega, i + 1, by congr 1, by omega, rfl, rfl, by rw [he, beq_eq_false_iff_ne.2 h2, Bool.false_or]⟩
  · rw [List.drop_eq_nil_of_le (by omega)] at he
    exact ⟨by rw [he]; rfl, rfl⟩

theorem rplain2_ok (hT : Has T) (s : List UInt8) (hs : s.length < 2 ^ 30) (H : AH) (hp : 0 < H.toks.length) : ∃ H', Den.of T 11 [.str s] H = some (.bool (plainD s), H') ∧ Grow H H' := by
  refine gr_of (w11_ok hT ?_)
  unfold w11
  refine c_i (chars_all hT s (by omega) H hp) ?_
  rintro _ H1 ⟨⟨row, rfl, hrow⟩, g1⟩
  refine g_ext0 ?_
  refine g_ext1 ?_
  refine g_lenW hrow ?_
  cases hv : Lib.validD s with
  | false =>
    refine j1 (fun x H' => x = .bool true ∧ H1 = H') ?_ ?_
    · rintro _ _ ⟨rfl, rfl⟩
      refine i_T rfl ?_
      exact ⟨by rw [plainD, hv]; rfl, g1⟩
    · intro j hj
      refine Stp.go ?_
      refine d_f ?_
      refine i_T rfl ?_
      exact hj _ _ ⟨rfl, rfl⟩
  | true =>
  rw [hv, if_pos rfl] at hrow
  rw [if_pos rfl]
  have hrl := rl_le hv
  have hP : plainD s = (match rl s with
    | [] => false
    | a :: l => !((a == 32) || decide ((a :: l).getLast? = some 32) || inS a firstR || decide (s = [45, 45, 45]) || decide (s = [46, 46, 46])) && !badR 0 (a :: l)) := by
    rw [plainD, hv, Bool.true_and]; cases rl s <;> rfl
  generalize rl s = L at *
  cases L with
  | nil =>
    refine j1 (fun x H' => x = .bool true ∧ H1 = H') ?_ ?_
    · rintro _ _ ⟨rfl, rfl⟩
      refine i_T rfl ?_
      exact ⟨by rw [hP], g1⟩
    · intro j hj
      refine Stp.go ?_
      refine d_f ?_
      refine i_F rfl ?_
      refine Stp.go ?_
      refine d_f ?_
      refine i_T rfl ?_
      exact hj _ _ ⟨rfl, rfl⟩
  | cons a l =>
  simp only at hP
  have hla : ((a :: l).length : Int) = l.length + 1 := by simp
  generalize hB : ((a == 32) || decide ((a :: l).getLast? = some 32) || inS a firstR || decide (s = [45, 45, 45]) || decide (s = [46, 46, 46])) = B at hP
  refine j1 (fun x H' => x = .bool B ∧ H1 = H') ?_ ?_
  rotate_left
  · intro j hj
    refine Stp.go ?_
    refine d_f ?_
    refine i_F rfl ?_
    refine Stp.go ?_
    refine d_f ?_
    refine i_cF (by omega) ?_
    refine g_atI hrow (by decide) rfl ?_
    refine g_ldv ?_
    refine Stp.go ?_
    refine d_f ?_
    refine i_c (fun h => hj _ _ ⟨by rw [← hB, h]; rfl, rfl⟩) (fun h1 => ?_)
    rw [beq_eq_false_iff_ne.2 h1, Bool.false_or] at hB
    refine g_sub64 (by omega) ?_
    have hgl : (a :: l)[(a :: l).length - 1]? = (a :: l).getLast? := (List.getLast?_eq_getElem?).symm
    have hlt : (a :: l).length - 1 < (a :: l).length := by simp
    rw [List.getElem?_eq_getElem hlt] at hgl
    rw [← hgl] at hB
    have hgz := List.getElem?_eq_getElem hlt
    generalize (a :: l)[(a :: l).length - 1] = z at *
    refine g_atI hrow (by omega) (by rw [show (((a :: l).length : Int) - 1).toNat = (a :: l).length - 1 by omega]; exact hgz) ?_
    refine g_ldv ?_
    refine Stp.go ?_
    refine d_f ?_
    refine i_c (fun h => hj _ _ ⟨by rw [← hB, h]; simp, rfl⟩) (fun h2 => ?_)
    rw [decide_eq_false (show ¬ some z = some 32 by simp [h2]), Bool.false_or] at hB
    refine g_atI hrow (by decide) rfl ?_
    refine g_ldv ?_
    refine c_eq (rin_ok hT a firstR (by decide) H1) ?_
    refine d_f ?_
    refine i_i (fun h => hj _ _ ⟨by rw [← hB, h]; rfl, rfl⟩) (fun h3 => ?_)
    rw [h3, Bool.false_or] at hB
    refine Stp.go ?_
    refine d_f ?_
    refine i_str (fun h => hj _ _ ⟨by rw [← hB, decide_eq_true h]; rfl, rfl⟩) (fun h4 => ?_)
    rw [decide_eq_false h4, Bool.false_or] at hB
    refine Stp.go ?_
    refine hj _ _ ⟨?_, rfl⟩
    rw [← hB, beq_dec]
  rintro _ _ ⟨rfl, rfl⟩
  refine i_i (fun h => ⟨by rw [hP, h]; rfl, g1⟩) (fun h => ?_)
  rw [h, Bool.not_false, Bool.true_and] at hP
  have ha35 : a ≠ 35 := by
    rintro rfl
    rw [h] at hB
    have : inS 35 firstR = true := by decide
    rw [this] at hB
    simp at hB
  generalize hL : a :: l = L at *
  have hL0 : L[0]? = some a := by rw [← hL]; rfl
  refine l1 (fun m x H' => ∃ (i : Nat) (p : Int), x = .int .i64 i ∧ i ≤ L.length ∧ H1 = H' ∧ m = L.length - i ∧ badR 0 L = badR p (L.drop i) ∧ ((i = 0 ∧ p = 0) ∨ (1 ≤ i ∧ L[i - 1]? = some p))) L.length ⟨0, 0, rfl, Nat.zero_le _, rfl, rfl, rfl, .inl ⟨rfl, rfl⟩⟩ ?_
  rintro m _ _ ⟨i, p, rfl, hi, rfl, hm, he, hpr⟩
  refine Stp.go ?_
  refine i_c (fun h1 => ?_) (fun h1 => ?_)
  rotate_left
  · rw [List.drop_eq_nil_of_le (by omega), badR] at he
    exact ⟨by rw [hP, he]; rfl, g1⟩
  have hlt : i < L.length := by omega
  have hgi := List.getElem?_eq_getElem hlt
  rw [List.drop_eq_getElem_cons hlt, badR] at he
  generalize L[i] = c at *
  refine j1 (fun x H' => x = .bool (!may c || inS c never) ∧ H1 = H') ?_ ?_
  rotate_left
  · intro j hj
    refine g_atIn hrow hgi ?_
    refine g_ldv ?_
    refine c_eq (rmay_ok hT c H1) ?_
    refine Stp.go ?_
    refine d_f ?_
    refine i_not ?_
    refine i_i (fun h2 => ?_) (fun h2 => ?_)
    rotate_left
    · exact hj _ _ ⟨by rw [h2]; rfl, rfl⟩
    refine g_atIn hrow hgi ?_
    refine g_ldv ?_
    refine c_eq (rin_ok hT c never (by decide) H1) ?_
    exact hj _ _ ⟨by rw [h2]; rfl, rfl⟩
  rintro _ _ ⟨rfl, rfl⟩
  refine i_i (fun h2 => ⟨by rw [hP, he, h2]; rfl, g1⟩) (fun h2 => ?_)
  rw [h2, Bool.false_or] at he
  have hnx : (decide (L.drop (i + 1) = []) || decide ((L.drop (i + 1)).head? = some 32)) = decide (i + 1 = L.length ∨ L[i + 1]? = some 32) := by
    rw [List.head?_drop, Bool.eq_iff_iff, Bool.or_eq_true, decide_eq_true_iff, decide_eq_true_iff, decide_eq_true_iff, List.drop_eq_nil_iff]
    constructor
    · rintro (h | h)
      · exact .inl (by omega)
      · exact .inr h
    · rintro (h | h)
      · exact .inl (by omega)
      · exact .inr h
  rw [hnx] at he
  generalize hw : (((c == 58) && decide (i + 1 = L.length ∨ L[i + 1]? = some 32)) || ((c == 35) && (p == 32))) = W at he
  refine j1 (fun x H' => x = .bool W ∧ H1 = H') ?_ ?_
  · rintro _ _ ⟨rfl, rfl⟩
    refine i_i (fun h3 => ⟨by rw [hP, he, h3]; rfl, g1⟩) (fun h3 => ?_)
    rw [h3, Bool.false_or] at he
    refine g_add64 (by omega) ?_
    exact ⟨L.length - (i + 1), by omega, i + 1, c, by congr 1, by omega, rfl, rfl, he, .inr ⟨by omega, by rw [Nat.add_sub_cancel]; exact hgi⟩⟩
  · intro j hj
    have rest : ((c == 58) && decide (i + 1 = L.length ∨ L[i + 1]? = some 32)) = false → gP (aIdxAddr 1 row (.int .i64 (i : Int))) fun x88 => gP (aLoad none x88 H1) fun x89 => gP (aBin .eql x89 (.int .i64 35)) fun x90 => dP x90 true (gP (aBin .sub (.int .i64 (i : Int)) (.int .i64 1)) fun x94 => gP (aIdxAddr 1 row x94) fun x95 => gP (aLoad none x95 H1) fun x96 => gP (aBin .eql x96 (.int .i64 32)) fun x97 => j x97 H1) (j (.bool false) H1) := by
      intro h0
      rw [h0, Bool.false_or] at hw
      refine g_atIn hrow hgi ?_
      refine g_ldv ?_
      refine Stp.go ?_
      refine d_t ?_
      refine i_c (fun h3 => ?_) (fun h3 => ?_)
      · rcases hpr with ⟨hi0, _⟩ | ⟨hi1, hpi⟩
        · subst hi0
          rw [hL0] at hgi
          exact absurd ((Option.some.inj hgi).trans h3) ha35
        · refine g_sub64 (by omega) ?_
          refine g_atI hrow (by omega) (by rw [show ((i : Int) - 1).toNat = i - 1 by omega]; exact hpi) ?_
          refine g_ldv ?_
          refine Stp.go ?_
          refine hj _ _ ⟨?_, rfl⟩
          rw [← hw, h3]; rfl
      · refine hj _ _ ⟨?_, rfl⟩
        rw [← hw, beq_eq_false_iff_ne.2 h3]; rfl
    refine g_atIn hrow hgi ?_
    refine g_ldv ?_
    refine Stp.go ?_
    refine d_t ?_
    refine i_c (fun h3 => ?_) (fun h3 => ?_)
    rotate_left
    · exact rest (by rw [beq_eq_false_iff_ne.2 h3]; rfl)
    have hc : (c == 58) = true := beq_iff_eq.2 h3
    refine g_add64 (by omega) ?_
    refine Stp.go ?_
    refine d_f ?_
    refine i_c (fun h4 => ?_) (fun h4 => ?_)
    · refine d_f ?_
      refine i_T rfl ?_
      refine hj _ _ ⟨?_, rfl⟩
      rw [← hw, hc, decide_eq_true (.inl (by omega))]; rfl
    refine g_add64 (by omega) ?_
    have hlt2 : i + 1 < L.length := by omega
    have hg2 := List.getElem?_eq_getElem hlt2
    generalize L[i + 1] = c2 at *
    refine g_atI hrow (by omega) (by rw [show ((i : Int) + 1).toNat = i + 1 by omega]; exact hg2) ?_
    refine g_ldv ?_
    refine Stp.go ?_
    refine d_f ?_
    refine i_c (fun h5 => ?_) (fun h5 => ?_)
    · refine hj _ _ ⟨?_, rfl⟩
      rw [← hw, hc, decide_eq_true (.inr (by rw [hg2, h5]))]; rfl
    · refine rest ?_
      rw [hc, Bool.true_and, decide_eq_false]
      rintro (h6 | h6)
      · omega
      · rw [hg2] at h6; exact h5 (Option.some.inj h6)

/-! ### Where it ends -/
end Go.SV
