/- Contracts: the document's words for single quotes, for texts without any, and where a quoted text ends. Own text of the prover; nothing is assumed. -/
import Derived.Test.YtaimiohndbajjaaGreatDoorRf
import Derived.Test.YtaimiohndbajjaaGreatDoorPx
import Derived.Test.YtaimiohndbajjaaGreatDoorQd
set_option maxRecDepth 100000
namespace Go.SV

variable {T : Nat → Option Entry}

theorem goodR_may (r : Int) : goodR r = (may r && (!(r == 10) && !(r == 13))) := rfl

theorem rsingle_ok (hT : Has T) (s : List UInt8) (hs : s.length < 2 ^ 30) (H : AH) (hp : 0 < H.toks.length) : ∃ H', Den.of T 7 [.str s] H = some (sglR s, H') ∧ Grow H H' := by
  refine gr_of (w7_ok hT ?_)
  unfold w7
  refine c_i (chars_all hT s (by omega) H hp) ?_
  rintro _ H1 ⟨⟨row, rfl, hrow⟩, g1⟩
  refine g_ext0 ?_
  refine g_ext1 ?_
  have hsg : sglOk s = (Lib.validD s && (if Lib.validD s = true then rl s else []).all goodR) := by
    rw [sglOk_all]
    cases hv : Lib.validD s <;> simp
  have hR : AllR (if Lib.validD s = true then rl s else []) := by
    by_cases hv : Lib.validD s = true
    · rw [if_pos hv]; exact rl_all hv
    · rw [if_neg hv]; intro x hx; cases hx
  have hRl : (if Lib.validD s = true then rl s else []).length ≤ s.length := by
    by_cases hv : Lib.validD s = true
    · rw [if_pos hv]; exact rl_le hv
    · rw [if_neg hv]; simp
  have hT2 : Lib.validD s = true → txt (39 :: (sglI (if Lib.validD s = true then rl s else []) ++ [39])) = sglT s := by
    intro hv
    rw [if_pos hv]; exact sgl_rl hv
  have hN : Lib.validD s = false → (if Lib.validD s = true then rl s else []) = [] := fun hv => by rw [hv]; rfl
  generalize (if Lib.validD s = true then rl s else []) = L at *
  have tl : ∀ {α : Type} (l : List α) (x : α), (l ++ [x])[l.length]? = some x := fun l x => by simp
  refine sP_i (v := .sl H1.toks.length 1 [.int .i64 39]) (H := ⟨H1.obs, H1.toks ++ [(1, 1, 0)]⟩) (by simp [aLit, elemsOk, AV.def?, AV.cells, AV.isCell]) ?_
  have g2 : Grow H1 ⟨H1.obs, H1.toks ++ [(1, 1, 0)]⟩ := ⟨⟨[], by simp⟩, ⟨_, rfl⟩⟩
  have t2 : Tok H1 ⟨H1.obs, H1.toks ++ [(1, 1, 0)]⟩ 1 (.sl H1.toks.length 1 [.int .i64 39]) ([39].map (AV.int .i64)) := .inr ⟨_, 0, rfl, Nat.le_refl _, by simp⟩
  generalize (⟨H1.obs, H1.toks ++ [(1, 1, 0)]⟩ : AH) = H2 at *
  have bad : ∀ {H' : AH}, sglOk s = false → Grow H H' → AV.tup [.str [], .int .i64 10] = sglR s ∧ Grow H H' := fun h hg => ⟨by rw [sglR, h]; rfl, hg⟩
  refine l2 (fun m x y H' => ∃ (i : Nat) (acc : List Int), y = .int .i64 i ∧ i ≤ L.length ∧ Tok H1 H' 1 x (acc.map (AV.int .i64)) ∧ Grow H1 H' ∧ m = L.length - i ∧ acc.length ≤ 1 + 2 * i ∧ 39 :: sglI L = acc ++ sglI (L.drop i) ∧ L.all goodR = (L.drop i).all goodR) L.length
    ⟨0, [39], rfl, Nat.zero_le _, t2, g2, rfl, by simp, rfl, rfl⟩ ?_
  rintro m x _ H3 ⟨i, acc, rfl, hi, ht, hg, hm, hal, he, hgd⟩
  have hp1 := g1.pos hp
  refine g_lenW hrow ?_
  refine Stp.go ?_
  refine i_c (fun h => ?_) (fun h => ?_)
  · have hlt : i < L.length := by omega
    have hvs : Lib.validD s = true := by
      cases hv : Lib.validD s with
      | true => rfl
      | false => rw [hN hv] at hlt; exact absurd hlt (by simp)
    have hgi := List.getElem?_eq_getElem hlt
    rw [List.drop_eq_getElem_cons hlt, sglI_cons] at he
    rw [List.drop_eq_getElem_cons hlt, List.all_cons] at hgd
    generalize L[i] = c at *
    refine j1 (fun z H' => z = .bool (!goodR c) ∧ H3 = H') ?_ ?_
    rotate_left
    · intro j hj
      refine g_atIn hrow hgi ?_
      refine g_ldv ?_
      refine c_eq (rmay_ok hT c H3) ?_
      refine Stp.go ?_
      refine d_f ?_
      refine i_not ?_
      refine i_i (fun h1 => ?_) (fun h1 => ?_)
      rotate_left
      · exact hj _ _ ⟨by rw [goodR_may, h1]; rfl, rfl⟩
      refine g_atIn hrow hgi ?_
      refine g_ldv ?_
      refine Stp.go ?_
      refine d_f ?_
      refine i_c (fun h2 => hj _ _ ⟨by rw [goodR_may, h1, h2]; rfl, rfl⟩) (fun h2 => ?_)
      refine g_atIn hrow hgi ?_
      refine g_ldv ?_
      refine Stp.go ?_
      refine hj _ _ ⟨?_, rfl⟩
      rw [goodR_may, h1, beq_eq_false_iff_ne.2 h2]
      cases (c == 13) <;> rfl
    rintro _ _ ⟨rfl, rfl⟩
    refine i_not ?_
    refine i_i (fun h1 => ?_) (fun h1 => ?_)
    rotate_left
    · exact bad (by rw [hsg, hgd, h1, Bool.false_and, Bool.and_false]) (g1.trans hg)
    rw [h1, Bool.true_and] at hgd
    refine j1 (fun z H' => Tok H1 H' 1 z ((acc ++ (if c = 39 then [39] else [])).map (AV.int .i64)) ∧ Grow H1 H') ?_ ?_
    · rintro z H4 ⟨ht4, hg4⟩
      refine g_atIn hrow hgi ?_
      refine g_ldv ?_
      refine s_lit rfl ?_
      have hl4 : (acc ++ (if c = 39 then [39] else [] : List Int)).length ≤ acc.length + 1 := by
        rw [List.length_append]; split <;> simp
      refine s_app ht4 hg4 hp1 (by simp) rfl (by simp only [List.length_map, List.length_cons, List.length_nil]; omega) fun w' H5 ht5 hg5 _ => ?_
      refine g_add64 (by omega) ?_
      refine ⟨L.length - (i + 1), by omega, i + 1, acc ++ (if c = 39 then [39] else []) ++ [c], by congr 1, by omega, by rw [List.map_append (l₂ := [c])]; exact ht5, hg5, rfl, by rw [List.length_append]; simp only [List.length_cons, List.length_nil]; omega, ?_, hgd⟩
      rw [he]
      by_cases h39 : c = 39
      · rw [if_pos h39, if_pos h39, h39]; simp
      · rw [if_neg h39, if_neg h39]; simp
    · intro j hj
      refine g_atIn hrow hgi ?_
      refine g_ldv ?_
      refine Stp.go ?_
      refine i_c (fun h2 => ?_) (fun h2 => ?_)
      · refine s_lit rfl ?_
        refine s_app ht hg hp1 (by simp) rfl (by simp only [List.length_map, List.length_cons, List.length_nil]; omega) fun w' H5 ht5 hg5 _ => ?_
        refine hj _ _ ⟨?_, hg5⟩
        rw [if_pos h2, List.map_append]; exact ht5
      · refine hj _ _ ⟨?_, hg⟩
        rw [if_neg h2, List.append_nil]; exact ht
  · rw [List.drop_eq_nil_of_le (by omega)] at he hgd
    refine Stp.go ?_
    refine i_not ?_
    refine i_i (fun hv => ?_) (fun hv => bad (by rw [hsg, hv]; rfl) (g1.trans hg))
    refine s_lit rfl ?_
    refine s_app ht hg hp1 (by simp) rfl (by simp only [List.length_map, List.length_cons, List.length_nil]; omega) fun w' H5 ht5 hg5 _ => ?_
    have e : acc ++ [39] = 39 :: (sglI L ++ [39]) := by
      rw [show sglI [] = [] from rfl, List.append_nil] at he
      rw [← he]; rfl
    have ht6 : Tok H1 H5 1 w' ((39 :: (sglI L ++ [39])).map (AV.int .i64)) := by rw [← e, List.map_append]; exact ht5
    have hall : AllR (39 :: (sglI L ++ [39])) := (AllR.one (r := 39) (by decide)).app ((sglI_all hR).app (AllR.one (by decide)))
    have hlen : (39 :: (sglI L ++ [39])).length < 2 ^ 40 := by
      rw [← e, List.length_append]; simp only [List.length_cons, List.length_nil]; omega
    refine c_gb hg5 (rtext_ok hT ht6.rowI hall hlen H5 (hg5.pos hp1)) fun H6 g6 => ?_
    rw [hT2 hv]
    exact ⟨by rw [sglR, hsg, hv, hgd]; rfl, g1.trans g6⟩

theorem runsingle_ok (hT : Has T) (s : List UInt8) (hs : s.length < 2 ^ 20) (H : AH) (hp : 0 < H.toks.length) : ∃ H', Den.of T 15 [.str s] H = some (usgD s, H') ∧ Grow H H' := by
  refine gr_of (w15_ok hT ?_)
  unfold w15
  refine c_i (chars_all hT s (by omega) H hp) ?_
  rintro _ H1 ⟨⟨row, rfl, hrow⟩, g1⟩
  refine g_ext0 ?_
  refine g_ext1 ?_
  refine j1 (fun x H' => x = .bool (!(Lib.validD s && decide (2 ≤ (rl s).length))) ∧ H1 = H') ?_ ?_
  rotate_left
  · intro j hj
    refine Stp.go ?_
    refine d_f ?_
    refine i_not ?_
    refine i_i (fun hv => ?_) (fun hv => ?_)
    rotate_left
    · exact hj _ _ ⟨by rw [hv]; rfl, rfl⟩
    rw [if_pos hv] at hrow
    refine g_lenW hrow ?_
    refine Stp.go ?_
    refine hj _ _ ⟨?_, rfl⟩
    rw [hv, Bool.true_and]
    congr 1
    rw [Bool.eq_iff_iff, decide_eq_true_iff, Bool.not_eq_true', decide_eq_false_iff_not]
    omega
  rintro _ _ ⟨rfl, rfl⟩
  have bad : ∀ {H' : AH}, ¬ (Lib.validD s = true ∧ 2 ≤ (rl s).length ∧ sglOk (usgC s) = true ∧ sglT (usgC s) = s) → Grow H H' → AV.tup [.str [], .int .i64 10] = usgD s ∧ Grow H H' := fun h hg => ⟨by rw [usgD, if_neg h], hg⟩
  refine i_not ?_
  refine i_i (fun hok => ?_) (fun hok => bad (fun h => by rw [h.1, decide_eq_true h.2.1] at hok; cases hok) g1)
  rw [Bool.and_eq_true, decide_eq_true_iff] at hok
  obtain ⟨hv, h2⟩ := hok
  rw [if_pos hv] at hrow
  have hR := rl_all hv
  have hrl := rl_le hv
  have hC : usgC s = txt (unI (rl s).length (innerI (rl s))) := rfl
  have hp1 := g1.pos hp
  have fin : sglOk (usgC s) = true → sglT (usgC s) = s → usgD s = .tup [.str (usgC s), .int .i64 0] := fun a b => by rw [usgD, if_pos ⟨hv, h2, a, b⟩]
  generalize rl s = L at *
  refine g_lenW hrow ?_
  refine g_sub64 (by omega) ?_
  rw [show ((L.length : Int) - 1) = ((L.length - 1 : Nat) : Int) by omega]
  refine g_slcM (i := 1) hrow (by omega) (by omega) fun w hw => ?_
  replace hw : RowOf 1 IsI w (innerI L) := hw
  have hin : AllR (innerI L) := fun x hx => hR x (List.mem_of_mem_take (List.mem_of_mem_drop hx))
  have hil : (innerI L).length ≤ L.length := by simp only [innerI, List.length_drop, List.length_take]; omega
  generalize innerI L = M at *
  refine l2 (fun m x y H' => ∃ (i f : Nat) (acc : List Int), y = .int .i64 i ∧ i ≤ M.length + 1 ∧ Tok H1 H' 1 x (acc.map (AV.int .i64)) ∧ Grow H1 H' ∧ m = M.length + 1 - i ∧ acc.length ≤ i ∧ AllR acc ∧ (M.drop i).length ≤ f ∧ unI L.length M = acc ++ unI f (M.drop i)) (M.length + 1)
    ⟨0, L.length, [], rfl, Nat.zero_le _, Tok.nil H1 H1 1, .refl _, rfl, Nat.le_refl _, (fun x hx => by cases hx), hil, rfl⟩ ?_
  rintro m x _ H3 ⟨i, f, acc, rfl, hi, ht, hg, hm, hal, haa, hf, he⟩
  refine g_lenW hw ?_
  refine Stp.go ?_
  refine i_c (fun h => ?_) (fun h => ?_)
  · have hlt : i < M.length := by omega
    have hgi := List.getElem?_eq_getElem hlt
    have hci := hin _ (List.getElem_mem hlt)
    rw [List.drop_eq_getElem_cons hlt] at he hf
    generalize M[i] = c at *
    simp only [List.length_cons] at hf
    obtain ⟨f, rfl⟩ : ∃ g, f = g + 1 := ⟨f - 1, by omega⟩
    rw [unI] at he
    refine j2 (fun a b H' => ∃ k : Nat, b = .int .i64 k ∧ i ≤ k ∧ k ≤ M.length ∧ Tok H1 H' 1 a ((acc ++ [c]).map (AV.int .i64)) ∧ Grow H1 H' ∧ (M.drop (k + 1)).length ≤ f ∧ unI L.length M = (acc ++ [c]) ++ unI f (M.drop (k + 1))) ?_ ?_
    · rintro a _ H4 ⟨k, rfl, hk1, hk2, ht4, hg4, hf4, he4⟩
      refine g_add64 (by omega) ?_
      exact ⟨M.length + 1 - (k + 1), by omega, k + 1, f, acc ++ [c], by congr 1, by omega, ht4, hg4, rfl, by rw [List.length_append]; simp only [List.length_cons, List.length_nil]; omega, haa.app (AllR.one hci), hf4, he4⟩
    · intro j hj
      refine g_atIn hw hgi ?_
      refine g_ldv ?_
      refine s_lit rfl ?_
      refine s_app ht hg hp1 (by simp) rfl (by simp only [List.length_map, List.length_cons, List.length_nil]; omega) fun w' H5 ht5 hg5 _ => ?_
      have ht6 : Tok H1 H5 1 w' ((acc ++ [c]).map (AV.int .i64)) := by rw [List.map_append]; exact ht5
      refine g_atIn hw hgi ?_
      refine g_ldv ?_
      refine Stp.go ?_
      refine i_c (fun h3 => ?_) (fun h3 => ?_)
      · refine g_add64 (by omega) ?_
        rw [if_pos h3] at he
        refine hj _ _ _ ⟨i + 1, by congr 1, by omega, by omega, ht6, hg5, ?_, ?_⟩
        · rw [List.length_drop] at hf ⊢; omega
        · rw [he, List.drop_drop]; simp
      · rw [if_neg h3] at he
        exact hj _ _ _ ⟨i, rfl, Nat.le_refl _, by omega, ht6, hg5, by omega, by rw [he]; simp⟩
  · rw [List.drop_eq_nil_of_le (by omega)] at he
    have e1 : unI f [] = [] := by cases f <;> rfl
    rw [e1, List.append_nil] at he
    rw [he] at hC
    have hlc : acc.length < 2 ^ 21 := by omega
    refine c_gb hg (rtext_ok hT ht.rowI haa (by omega) H3 (hg.pos hp1)) fun H4 g4 => ?_
    rw [← hC]
    have hcl : (usgC s).length < 2 ^ 30 := by
      have := (txt_len acc).2
      rw [← hC] at this
      omega
    refine c_gb g4 (rsingle_ok hT (usgC s) hcl H4 (g4.pos hp1)) fun H5 g5 => ?_
    by_cases hok : sglOk (usgC s) = true
    rotate_left
    · have e2 : sglR (usgC s) = .tup [.str [], .int .i64 10] := by rw [sglR, if_neg hok]
      rw [e2]
      refine g_ext0 ?_
      refine g_ext1 ?_
      refine j1 (fun z H' => z = .bool true ∧ H5 = H') ?_ ?_
      · rintro _ _ ⟨rfl, rfl⟩
        refine i_T rfl ?_
        exact bad (fun h => hok h.2.2.1) (g1.trans g5)
      · intro j hj
        refine Stp.go ?_
        refine d_f ?_
        refine i_T rfl ?_
        exact hj _ _ ⟨rfl, rfl⟩
    have e2 : sglR (usgC s) = .tup [.str (sglT (usgC s)), .int .i64 0] := by rw [sglR, if_pos hok]
    rw [e2]
    refine g_ext0 ?_
    refine g_ext1 ?_
    refine j1 (fun z H' => z = .bool (!(sglT (usgC s) == s)) ∧ H5 = H') ?_ ?_
    rotate_left
    · intro j hj
      refine Stp.go ?_
      refine d_f ?_
      refine i_F rfl ?_
      refine g_sne ?_
      exact hj _ _ ⟨rfl, rfl⟩
    rintro _ _ ⟨rfl, rfl⟩
    refine i_not ?_
    refine i_str (fun h6 => ?_) (fun h6 => bad (fun h => h6 h.2.2.2) (g1.trans g5))
    have ht7 : RowOf 1 IsI x acc := ht.rowI
    refine c_gb g5 (rtext_ok hT ht7 haa (by omega) H5 (g5.pos hp1)) fun H6 g6 => ?_
    rw [← hC]
    exact ⟨(fin hok h6).symm, g1.trans g6⟩

/-! ### Without quotes -/
/-! ### Where it ends -/
theorem rend_ok (hT : Has T) (s : List UInt8) (hs : s.length < 2 ^ 40) (H : AH) : Den.of T 17 [.str s] H = some (endR s, H) := by
  refine eq_of (w17_ok hT ?_)
  unfold w17
  cases s with
  | nil =>
    refine j1 (fun x H' => x = .bool true ∧ H = H') ?_ ?_
    · rintro _ _ ⟨rfl, rfl⟩
      refine i_T rfl ?_
      exact ⟨rfl, rfl⟩
    · intro j hj
      refine Stp.go ?_
      refine d_f ?_
      refine i_T rfl ?_
      exact hj _ _ ⟨rfl, rfl⟩
  | cons q l =>
    have eb : ∀ (a b : UInt8), ((a.toNat : Int) = (b.toNat : Int)) ↔ a = b := fun a b => ⟨fun e => UInt8.toNat_inj.1 (by omega), fun e => by rw [e]⟩
    have e34 : ∀ a : UInt8, ((a.toNat : Int) = 34) ↔ a = 34 := fun a => eb a 34
    have e39 : ∀ a : UInt8, ((a.toNat : Int) = 39) ↔ a = 39 := fun a => eb a 39
    have e92 : ∀ a : UInt8, ((a.toNat : Int) = 92) ↔ a = 92 := fun a => eb a 92
    refine j1 (fun x H' => x = .bool (decide (¬ (q = 34 ∨ q = 39))) ∧ H = H') ?_ ?_
    rotate_left
    · intro j hj
      refine Stp.go ?_
      refine d_f ?_
      refine i_F rfl ?_
      refine g_byte (b := q) (by decide) rfl ?_
      refine g_neq ?_
      refine d_t ?_
      refine i_not ?_
      refine i_c (fun h => ?_) (fun h => ?_)
      · refine hj _ _ ⟨?_, rfl⟩
        rw [decide_eq_false]
        exact fun hn => hn (.inl ((e34 q).1 h))
      · refine g_byte (b := q) (by decide) rfl ?_
        refine g_neq ?_
        refine hj _ _ ⟨?_, rfl⟩
        congr 1
        rw [Bool.eq_iff_iff]
        have h34 : ¬ q = 34 := fun e => h ((e34 q).2 e)
        by_cases h39 : q = 39
        · simp [h39]
        · have : ¬ ((q.toNat : Int) = 39) := fun e => h39 ((e39 q).1 e)
          simp [h34, h39, this]
    rintro _ _ ⟨rfl, rfl⟩
    refine i_c (fun h => ?_) (fun h => ?_)
    · exact ⟨by rw [endR, endS, if_neg h], rfl⟩
    have hq : q = 34 ∨ q = 39 := Decidable.not_not.1 h
    have hS : endS (q :: l) = (endF q l).map (· + 1) := by rw [endS, if_pos hq]
    have hlen : (q :: l).length = l.length + 1 := rfl
    refine l1 (fun m x H' => ∃ i : Nat, x = .int .i64 i ∧ 1 ≤ i ∧ i ≤ (q :: l).length + 1 ∧ H = H' ∧ m = (q :: l).length + 1 - i ∧ endS (q :: l) = (endF q ((q :: l).drop i)).map (· + i)) (l.length + 1) ⟨1, rfl, by decide, by omega, rfl, by omega, hS⟩ ?_
    rintro m _ _ ⟨i, rfl, hi1, hi2, rfl, hm, he⟩
    refine Stp.go ?_
    refine Stp.go ?_
    refine i_c (fun h2 => ?_) (fun h2 => ?_)
    rotate_left
    · rw [List.drop_eq_nil_of_le (by omega)] at he
      refine ⟨?_, rfl⟩
      rw [endR, he]; rfl
    have hlt : i < (q :: l).length := by omega
    have hg := List.getElem?_eq_getElem hlt
    have hd := List.drop_eq_getElem_cons hlt
    generalize (q :: l)[i] = c at hg hd
    have hdd : ((q :: l).drop (i + 1)).drop 1 = (q :: l).drop (i + 2) := by rw [List.drop_drop]
    have hpre : (pre [39, 39] ((q :: l).drop i) = true) ↔ (c = 39 ∧ (q :: l)[i + 1]? = some 39) := by
      rw [hd, pre, show (q :: l)[i + 1]? = ((q :: l).drop (i + 1))[0]? by rw [List.getElem?_drop]]
      cases (q :: l).drop (i + 1) with
      | nil => simp
      | cons y ys => simp
    refine j1 (fun x H' => ∃ k : Nat, x = .int .i64 k ∧ i ≤ k ∧ k ≤ (q :: l).length ∧ H = H' ∧ endS (q :: l) = (endF q ((q :: l).drop (k + 1))).map (· + (k + 1))) ?_ ?_
    · rintro _ _ ⟨k, rfl, hk1, hk2, rfl, hk⟩
      refine g_add64 (by omega) ?_
      exact ⟨(q :: l).length + 1 - (k + 1), by omega, k + 1, by congr 1, by omega, by omega, rfl, rfl, hk⟩
    intro j hj
    have skip : ((q = 34 ∧ c = 92) ∨ (q = 39 ∧ pre [39, 39] ((q :: l).drop i) = true)) → ∀ H', H = H' → gP (aBin .add (.int .i64 i) (.int .i64 1)) fun x => j x H' := by
      rintro hs H' rfl
      refine g_add64 (by omega) ?_
      refine hj _ _ ⟨i + 1, by congr 1, by omega, by omega, rfl, ?_⟩
      rw [he, hd]
      rw [hd] at hs
      rw [endF_skip hs, hdd, map_map2]
    refine j1 (fun x H' => x = .bool (decide (q = 34 ∧ c = 92)) ∧ H = H') ?_ ?_
    rotate_left
    · intro j2 hj2
      refine g_byte (b := q) (by decide) rfl ?_
      refine Stp.go ?_
      refine d_t ?_
      refine i_c (fun h3 => ?_) (fun h3 => ?_)
      · have h3' := (e34 q).1 h3
        refine g_byte (b := c) (by omega) (by rw [Int.toNat_natCast]; exact hg) ?_
        refine Stp.go ?_
        refine hj2 _ _ ⟨?_, rfl⟩
        congr 1
        rw [Bool.eq_iff_iff, beq_iff_eq, e92, decide_eq_true_iff]
        simp [h3']
      · exact hj2 _ _ ⟨by rw [decide_eq_false]; exact fun e => h3 ((e34 q).2 e.1), rfl⟩
    rintro _ _ ⟨rfl, rfl⟩
    refine i_c (fun h3 => skip (.inl h3) _ rfl) (fun h3 => ?_)
    refine j1 (fun x H' => x = .bool (decide (q = 39 ∧ pre [39, 39] ((q :: l).drop i) = true)) ∧ H = H') ?_ ?_
    rotate_left
    · intro j2 hj2
      have no : ¬ (q = 39 ∧ pre [39, 39] ((q :: l).drop i) = true) → j2 (.bool false) H := fun h => hj2 _ _ ⟨by rw [decide_eq_false h], rfl⟩
      refine g_byte (b := q) (by decide) rfl ?_
      refine Stp.go ?_
      refine d_t ?_
      refine i_c (fun h4 => ?_) (fun h4 => no fun e => h4 ((e39 q).2 e.1))
      have h4' := (e39 q).1 h4
      refine g_byte (b := c) (by omega) (by rw [Int.toNat_natCast]; exact hg) ?_
      refine Stp.go ?_
      refine d_t ?_
      refine i_c (fun h5 => ?_) (fun h5 => no fun e => h5 ((e39 c).2 (hpre.1 e.2).1))
      have h5' := (e39 c).1 h5
      refine g_add64 (by omega) ?_
      refine Stp.go ?_
      refine Stp.go ?_
      refine d_t ?_
      refine i_c (fun h6 => ?_) (fun h6 => no fun e => ?_)
      rotate_left
      · have h7 := (hpre.1 e.2).2
        rw [List.getElem?_eq_none (by omega)] at h7
        cases h7
      refine g_add64 (by omega) ?_
      have hlt2 : i + 1 < (q :: l).length := by omega
      have hg2 := List.getElem?_eq_getElem hlt2
      generalize (q :: l)[i + 1] = y at hg2
      refine g_byte (b := y) (by omega) (by rw [show ((i : Int) + 1).toNat = i + 1 by omega]; exact hg2) ?_
      refine Stp.go ?_
      refine hj2 _ _ ⟨?_, rfl⟩
      congr 1
      rw [Bool.eq_iff_iff, beq_iff_eq, e39, decide_eq_true_iff, hpre, hg2]
      simp [h4', h5']
    rintro _ _ ⟨rfl, rfl⟩
    refine i_c (fun h4 => skip (.inr h4) _ rfl) (fun h4 => ?_)
    rw [hd] at h4
    refine g_byte (b := c) (by omega) (by rw [Int.toNat_natCast]; exact hg) ?_
    refine g_byte (b := q) (by decide) rfl ?_
    refine Stp.go ?_
    refine i_c (fun h5 => ?_) (fun h5 => ?_)
    · refine g_add64 (by omega) ?_
      refine ⟨?_, rfl⟩
      have h5' := (eb c q).1 h5
      rw [hd, endF_one h3 h4 h5'] at he
      rw [endR, he]
      simp only [Option.map_some]
      congr 3
      omega
    · refine hj _ _ ⟨i, rfl, by omega, by omega, rfl, ?_⟩
      rw [he, hd, endF_next h3 h4 (fun e => h5 ((eb c q).2 e)), map_map2]

end Go.SV
