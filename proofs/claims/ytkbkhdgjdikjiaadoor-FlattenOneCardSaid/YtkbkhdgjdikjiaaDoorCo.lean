/- Contracts: how many nodes events have, how deep they are; the law of one event for each node. Own text of the prover; nothing is assumed. -/
import Derived.Test.YtkbkhdgjdikjiaaDoorCn
import Derived.Test.YtkbkhdgjdikjiaaDoorPb
set_option maxRecDepth 100000
namespace Go.SV

variable {T : Nat → Option Entry}

theorem isNode_ok (hT : Has T) (e : Ev) (H : AH) : ∃ H', Den.of T 45 [encE e] H = some (.bool (isNode e), H') ∧ Grow H H' := by
  refine gr_of (w45_ok hT ?_)
  unfold w45
  refine s_box rfl rfl ?_
  have c := Holds.push H (encE e).cells
  have g1 := Grow.push H (.cells (encE e).cells)
  generalize H.push (.cells (encE e).cells) = H1 at *
  generalize H.obs.length = b at *
  (repeat' (first | (first | with_reducible refine Stp.go ?_ | (with_reducible refine i_cT ?_ ?_; · (first | assumption | decide | exact rfl)) | (with_reducible refine i_cF ?_ ?_; · (first | assumption | decide | exact rfl)) | (with_reducible refine i_T ?_ ?_; · first | assumption | with_reducible exact rfl) | (with_reducible refine i_F ?_ ?_; · first | assumption | with_reducible exact rfl) | (with_reducible refine g_add64 ?_ ?_; · omega) | (with_reducible refine g_sub64 ?_ ?_; · omega) | with_reducible refine g_add ?_ | with_reducible refine g_sub ?_ | (with_reducible refine g_mul64 ?_ ?_; · omega) | with_reducible refine g_mul ?_ | (with_reducible refine g_rem ?_ ?_; · decide) | (with_reducible refine g_quo ?_ ?_; · decide) | (with_reducible refine g_cv64 ?_ ?_; · omega) | with_reducible refine g_cv ?_ | refine j_i ?_) | refine g_h1 c rfl ?_ | (first | with_reducible refine i_c (fun h => ?_) (fun h => ?_) | with_reducible refine i_i (fun h => ?_) (fun h => ?_))))
  all_goals refine ⟨?_, g1⟩
  all_goals congr 1
  all_goals unfold isNode
  all_goals simp [*]

theorem nodes_ok (hT : Has T) {v : AV} {l : List Ev} (hv : RowOf 5 IsEv v l) (hl : l.length < 2 ^ 60) (H : AH) :
    ∃ H', Den.of T 17 [v] H = some (.int .i64 (cntN l), H') ∧ Grow H H' := by
  refine gr_of (w17_ok hT ?_)
  unfold w17
  refine g_lenW hv ?_
  refine l2 (fun m a c H' => ∃ (i n : Nat), a = .int .i64 n ∧ c = .int .i64 i ∧ i ≤ l.length ∧ n ≤ i ∧ Grow H H' ∧ cntN l = n + cntN (l.drop i) ∧ m = l.length - i) l.length ⟨0, 0, rfl, rfl, Nat.zero_le _, Nat.le_refl _, .refl _, by simp, rfl⟩ ?_
  rintro m _ _ H1 ⟨i, n, rfl, rfl, hi, hn, g1, he, hm⟩
  (repeat (first | with_reducible refine Stp.go ?_ | (with_reducible refine i_cT ?_ ?_; · (first | assumption | decide | exact rfl)) | (with_reducible refine i_cF ?_ ?_; · (first | assumption | decide | exact rfl)) | (with_reducible refine i_T ?_ ?_; · first | assumption | with_reducible exact rfl) | (with_reducible refine i_F ?_ ?_; · first | assumption | with_reducible exact rfl) | (with_reducible refine g_add64 ?_ ?_; · omega) | (with_reducible refine g_sub64 ?_ ?_; · omega) | with_reducible refine g_add ?_ | with_reducible refine g_sub ?_ | (with_reducible refine g_mul64 ?_ ?_; · omega) | with_reducible refine g_mul ?_ | (with_reducible refine g_rem ?_ ?_; · decide) | (with_reducible refine g_quo ?_ ?_; · decide) | (with_reducible refine g_cv64 ?_ ?_; · omega) | with_reducible refine g_cv ?_))
  refine i_c (fun h => ?_) (fun h => ?_)
  rotate_left
  · rw [List.drop_eq_nil_of_le (by omega)] at he
    simp only [cntN, List.filter_nil, List.length_nil, Nat.add_zero] at he
    exact ⟨by rw [show cntN l = n from he], g1⟩
  have hlt : i < l.length := by omega
  rw [List.drop_eq_getElem_cons hlt] at he
  have hge : l[i]? = some l[i] := List.getElem?_eq_getElem hlt
  generalize l[i] = e at *
  refine j1 (fun a H' => a = .int .i64 ((n + (if isN e = true then 1 else 0) : Nat) : Int) ∧ Grow H H') ?_ ?_
  · rintro _ H2 ⟨rfl, g2⟩
    (repeat (first | with_reducible refine Stp.go ?_ | (with_reducible refine i_cT ?_ ?_; · (first | assumption | decide | exact rfl)) | (with_reducible refine i_cF ?_ ?_; · (first | assumption | decide | exact rfl)) | (with_reducible refine i_T ?_ ?_; · first | assumption | with_reducible exact rfl) | (with_reducible refine i_F ?_ ?_; · first | assumption | with_reducible exact rfl) | (with_reducible refine g_add64 ?_ ?_; · omega) | (with_reducible refine g_sub64 ?_ ?_; · omega) | with_reducible refine g_add ?_ | with_reducible refine g_sub ?_ | (with_reducible refine g_mul64 ?_ ?_; · omega) | with_reducible refine g_mul ?_ | (with_reducible refine g_rem ?_ ?_; · decide) | (with_reducible refine g_quo ?_ ?_; · decide) | (with_reducible refine g_cv64 ?_ ?_; · omega) | with_reducible refine g_cv ?_))
    refine ⟨l.length - (i + 1), by omega, i + 1, _, rfl, by congr 1, by omega, by split <;> omega, g2, ?_, rfl⟩
    rw [he]
    simp only [cntN, List.filter_cons]
    split
    · rename_i h; simp only [h, if_true, List.length_cons]; omega
    · rename_i h; simp only [h, if_false, Nat.add_zero]
  intro j hj
  refine g_atn hv hge fun x hx => ?_
  cases hx
  refine g_ldv5 ?_
  refine a_i ?_
  refine h_top (c' := (encE e).cells) rfl rfl rfl (by simp) rfl ?_
  have c := Holds.push H1 (encE e).cells
  replace g1 := g1.trans (.push _ (.cells (encE e).cells))
  generalize H1.push (.cells (encE e).cells) = H4 at *
  generalize H1.obs.length = b at *
  refine j1 (fun a H' => a = .bool (isN e) ∧ Grow H H') ?_ ?_
  · rintro _ H5 ⟨rfl, g5⟩
    (repeat' (first | (first | with_reducible refine Stp.go ?_ | (with_reducible refine i_cT ?_ ?_; · (first | assumption | decide | exact rfl)) | (with_reducible refine i_cF ?_ ?_; · (first | assumption | decide | exact rfl)) | (with_reducible refine i_T ?_ ?_; · first | assumption | with_reducible exact rfl) | (with_reducible refine i_F ?_ ?_; · first | assumption | with_reducible exact rfl) | (with_reducible refine g_add64 ?_ ?_; · omega) | (with_reducible refine g_sub64 ?_ ?_; · omega) | with_reducible refine g_add ?_ | with_reducible refine g_sub ?_ | (with_reducible refine g_mul64 ?_ ?_; · omega) | with_reducible refine g_mul ?_ | (with_reducible refine g_rem ?_ ?_; · decide) | (with_reducible refine g_quo ?_ ?_; · decide) | (with_reducible refine g_cv64 ?_ ?_; · omega) | with_reducible refine g_cv ?_ | refine j_i ?_) | (first | with_reducible refine i_c (fun h => ?_) (fun h => ?_) | with_reducible refine i_i (fun h => ?_) (fun h => ?_))))
    · exact hj _ _ ⟨by rw [if_pos h]; rfl, g5⟩
    · exact hj _ _ ⟨by rw [if_neg (by simp [h])]; rfl, g5⟩
  · intro j' hj'
    refine g_hN c rfl ?_
    refine c_gr (isNode_ok hT e H4) fun H6 g6 => ?_
    (repeat' (first | (first | with_reducible refine Stp.go ?_ | (with_reducible refine i_cT ?_ ?_; · (first | assumption | decide | exact rfl)) | (with_reducible refine i_cF ?_ ?_; · (first | assumption | decide | exact rfl)) | (with_reducible refine i_T ?_ ?_; · first | assumption | with_reducible exact rfl) | (with_reducible refine i_F ?_ ?_; · first | assumption | with_reducible exact rfl) | (with_reducible refine g_add64 ?_ ?_; · omega) | (with_reducible refine g_sub64 ?_ ?_; · omega) | with_reducible refine g_add ?_ | with_reducible refine g_sub ?_ | (with_reducible refine g_mul64 ?_ ?_; · omega) | with_reducible refine g_mul ?_ | (with_reducible refine g_rem ?_ ?_; · decide) | (with_reducible refine g_quo ?_ ?_; · decide) | (with_reducible refine g_cv64 ?_ ?_; · omega) | with_reducible refine g_cv ?_ | refine j_i ?_) | refine g_h1 (c.grow g6) rfl ?_ | (first | with_reducible refine i_c (fun h => ?_) (fun h => ?_) | with_reducible refine i_i (fun h => ?_) (fun h => ?_))))
    · exact hj' _ _ ⟨by simp [isN, h], g1.trans g6⟩
    · refine hj' _ _ ⟨?_, g1.trans g6⟩
      congr 1
      unfold isN
      rw [h, Bool.false_or]

theorem depth_ok (hT : Has T) {v : AV} {l : List Ev} (hv : RowOf 5 IsEv v l) (hl : l.length < 2 ^ 60) (H : AH) :
    ∃ H', Den.of T 18 [v] H = some (.int .i64 (depthGo l 0 0), H') ∧ Grow H H' := by
  refine gr_of (w18_ok hT ?_)
  unfold w18
  refine g_lenW hv ?_
  refine l3 (fun m a c d H' => ∃ (i : Nat) (dp mx : Int), a = .int .i64 dp ∧ c = .int .i64 mx ∧ d = .int .i64 i ∧ i ≤ l.length ∧ -(i : Int) ≤ dp ∧ dp ≤ i ∧ 0 ≤ mx ∧ mx ≤ i ∧ Grow H H' ∧ depthGo l 0 0 = depthGo (l.drop i) dp mx ∧ m = l.length - i) l.length
    ⟨0, 0, 0, rfl, rfl, rfl, Nat.zero_le _, by omega, by omega, by omega, by omega, .refl _, rfl, rfl⟩ ?_
  rintro m _ _ _ H1 ⟨i, dp, mx, rfl, rfl, rfl, hi, b1, b2, b3, b4, g1, he, hm⟩
  (repeat (first | with_reducible refine Stp.go ?_ | (with_reducible refine i_cT ?_ ?_; · (first | assumption | decide | exact rfl)) | (with_reducible refine i_cF ?_ ?_; · (first | assumption | decide | exact rfl)) | (with_reducible refine i_T ?_ ?_; · first | assumption | with_reducible exact rfl) | (with_reducible refine i_F ?_ ?_; · first | assumption | with_reducible exact rfl) | (with_reducible refine g_add64 ?_ ?_; · omega) | (with_reducible refine g_sub64 ?_ ?_; · omega) | with_reducible refine g_add ?_ | with_reducible refine g_sub ?_ | (with_reducible refine g_mul64 ?_ ?_; · omega) | with_reducible refine g_mul ?_ | (with_reducible refine g_rem ?_ ?_; · decide) | (with_reducible refine g_quo ?_ ?_; · decide) | (with_reducible refine g_cv64 ?_ ?_; · omega) | with_reducible refine g_cv ?_))
  refine i_c (fun h => ?_) (fun h => ?_)
  rotate_left
  · rw [List.drop_eq_nil_of_le (by omega)] at he
    exact ⟨by rw [he]; rfl, g1⟩
  have hlt : i < l.length := by omega
  rw [List.drop_eq_getElem_cons hlt] at he
  refine g_atn hv (List.getElem?_eq_getElem hlt) fun x hx => ?_
  generalize l[i] = e at *
  cases hx
  refine g_ldv5 ?_
  refine a_i ?_
  refine h_top (c' := (encE e).cells) rfl rfl rfl (by simp) rfl ?_
  have c := Holds.push H1 (encE e).cells
  replace g1 := g1.trans (.push _ (.cells (encE e).cells))
  generalize H1.push (.cells (encE e).cells) = H3 at *
  generalize H1.obs.length = b at *
  have hs : dStep dp e.kind = dp + 1 ∨ dStep dp e.kind = dp - 1 ∨ dStep dp e.kind = dp := by
    unfold dStep
    split
    · exact .inl rfl
    · split
      · exact .inr (.inl rfl)
      · exact .inr (.inr rfl)
  refine j1 (fun a H' => a = .int .i64 (dStep dp e.kind) ∧ H3 = H') ?_ ?_
  · rintro _ _ ⟨rfl, rfl⟩
    refine gP_i (v := .int .i64 (max mx (dStep dp e.kind))) ?_ ?_
    · simp only [aFold, aMin, if_true, Option.bind_some]
      congr 2
      split <;> omega
    (repeat (first | with_reducible refine Stp.go ?_ | (with_reducible refine i_cT ?_ ?_; · (first | assumption | decide | exact rfl)) | (with_reducible refine i_cF ?_ ?_; · (first | assumption | decide | exact rfl)) | (with_reducible refine i_T ?_ ?_; · first | assumption | with_reducible exact rfl) | (with_reducible refine i_F ?_ ?_; · first | assumption | with_reducible exact rfl) | (with_reducible refine g_add64 ?_ ?_; · omega) | (with_reducible refine g_sub64 ?_ ?_; · omega) | with_reducible refine g_add ?_ | with_reducible refine g_sub ?_ | (with_reducible refine g_mul64 ?_ ?_; · omega) | with_reducible refine g_mul ?_ | (with_reducible refine g_rem ?_ ?_; · decide) | (with_reducible refine g_quo ?_ ?_; · decide) | (with_reducible refine g_cv64 ?_ ?_; · omega) | with_reducible refine g_cv ?_))
    refine ⟨l.length - (i + 1), by omega, i + 1, _, _, rfl, rfl, by congr 1, by omega, by omega, by omega, by omega, by omega, g1, ?_, rfl⟩
    rw [he, depthGo]
  intro j hj
  (repeat (first | (first | with_reducible refine Stp.go ?_ | (with_reducible refine i_cT ?_ ?_; · (first | assumption | decide | exact rfl)) | (with_reducible refine i_cF ?_ ?_; · (first | assumption | decide | exact rfl)) | (with_reducible refine i_T ?_ ?_; · first | assumption | with_reducible exact rfl) | (with_reducible refine i_F ?_ ?_; · first | assumption | with_reducible exact rfl) | (with_reducible refine g_add64 ?_ ?_; · omega) | (with_reducible refine g_sub64 ?_ ?_; · omega) | with_reducible refine g_add ?_ | with_reducible refine g_sub ?_ | (with_reducible refine g_mul64 ?_ ?_; · omega) | with_reducible refine g_mul ?_ | (with_reducible refine g_rem ?_ ?_; · decide) | (with_reducible refine g_quo ?_ ?_; · decide) | (with_reducible refine g_cv64 ?_ ?_; · omega) | with_reducible refine g_cv ?_) | refine g_h1 c rfl ?_))
  refine j1 (fun a H' => a = .bool (decide (e.kind = 2 ∨ e.kind = 4)) ∧ H3 = H') ?_ ?_
  · rintro _ _ ⟨rfl, rfl⟩
    (first | with_reducible refine i_c (fun h => ?_) (fun h => ?_) | with_reducible refine i_i (fun h => ?_) (fun h => ?_))
    · (repeat (first | with_reducible refine Stp.go ?_ | (with_reducible refine i_cT ?_ ?_; · (first | assumption | decide | exact rfl)) | (with_reducible refine i_cF ?_ ?_; · (first | assumption | decide | exact rfl)) | (with_reducible refine i_T ?_ ?_; · first | assumption | with_reducible exact rfl) | (with_reducible refine i_F ?_ ?_; · first | assumption | with_reducible exact rfl) | (with_reducible refine g_add64 ?_ ?_; · omega) | (with_reducible refine g_sub64 ?_ ?_; · omega) | with_reducible refine g_add ?_ | with_reducible refine g_sub ?_ | (with_reducible refine g_mul64 ?_ ?_; · omega) | with_reducible refine g_mul ?_ | (with_reducible refine g_rem ?_ ?_; · decide) | (with_reducible refine g_quo ?_ ?_; · decide) | (with_reducible refine g_cv64 ?_ ?_; · omega) | with_reducible refine g_cv ?_))
      exact hj _ _ ⟨by rw [dStep, if_pos h], rfl⟩
    have n1 := h
    refine j1 (fun a H' => a = .bool (decide (e.kind = 3 ∨ e.kind = 5)) ∧ H3 = H') ?_ ?_
    · rintro _ _ ⟨rfl, rfl⟩
      (first | with_reducible refine i_c (fun h => ?_) (fun h => ?_) | with_reducible refine i_i (fun h => ?_) (fun h => ?_))
      · (repeat (first | with_reducible refine Stp.go ?_ | (with_reducible refine i_cT ?_ ?_; · (first | assumption | decide | exact rfl)) | (with_reducible refine i_cF ?_ ?_; · (first | assumption | decide | exact rfl)) | (with_reducible refine i_T ?_ ?_; · first | assumption | with_reducible exact rfl) | (with_reducible refine i_F ?_ ?_; · first | assumption | with_reducible exact rfl) | (with_reducible refine g_add64 ?_ ?_; · omega) | (with_reducible refine g_sub64 ?_ ?_; · omega) | with_reducible refine g_add ?_ | with_reducible refine g_sub ?_ | (with_reducible refine g_mul64 ?_ ?_; · omega) | with_reducible refine g_mul ?_ | (with_reducible refine g_rem ?_ ?_; · decide) | (with_reducible refine g_quo ?_ ?_; · decide) | (with_reducible refine g_cv64 ?_ ?_; · omega) | with_reducible refine g_cv ?_))
        exact hj _ _ ⟨by rw [dStep, if_neg n1, if_pos h], rfl⟩
      · exact hj _ _ ⟨by rw [dStep, if_neg n1, if_neg h], rfl⟩
    · intro j' hj'
      (repeat' (first | (first | with_reducible refine Stp.go ?_ | (with_reducible refine i_cT ?_ ?_; · (first | assumption | decide | exact rfl)) | (with_reducible refine i_cF ?_ ?_; · (first | assumption | decide | exact rfl)) | (with_reducible refine i_T ?_ ?_; · first | assumption | with_reducible exact rfl) | (with_reducible refine i_F ?_ ?_; · first | assumption | with_reducible exact rfl) | (with_reducible refine g_add64 ?_ ?_; · omega) | (with_reducible refine g_sub64 ?_ ?_; · omega) | with_reducible refine g_add ?_ | with_reducible refine g_sub ?_ | (with_reducible refine g_mul64 ?_ ?_; · omega) | with_reducible refine g_mul ?_ | (with_reducible refine g_rem ?_ ?_; · decide) | (with_reducible refine g_quo ?_ ?_; · decide) | (with_reducible refine g_cv64 ?_ ?_; · omega) | with_reducible refine g_cv ?_ | refine j_i ?_) | (first | with_reducible refine i_c (fun h => ?_) (fun h => ?_) | with_reducible refine i_i (fun h => ?_) (fun h => ?_))))
      all_goals refine hj' _ _ ⟨?_, rfl⟩
      all_goals congr 1
      all_goals simp [*]
      all_goals rw [Bool.eq_iff_iff]
      all_goals simp
  · intro j' hj'
    (repeat' (first | (first | with_reducible refine Stp.go ?_ | (with_reducible refine i_cT ?_ ?_; · (first | assumption | decide | exact rfl)) | (with_reducible refine i_cF ?_ ?_; · (first | assumption | decide | exact rfl)) | (with_reducible refine i_T ?_ ?_; · first | assumption | with_reducible exact rfl) | (with_reducible refine i_F ?_ ?_; · first | assumption | with_reducible exact rfl) | (with_reducible refine g_add64 ?_ ?_; · omega) | (with_reducible refine g_sub64 ?_ ?_; · omega) | with_reducible refine g_add ?_ | with_reducible refine g_sub ?_ | (with_reducible refine g_mul64 ?_ ?_; · omega) | with_reducible refine g_mul ?_ | (with_reducible refine g_rem ?_ ?_; · decide) | (with_reducible refine g_quo ?_ ?_; · decide) | (with_reducible refine g_cv64 ?_ ?_; · omega) | with_reducible refine g_cv ?_ | refine j_i ?_) | (first | with_reducible refine i_c (fun h => ?_) (fun h => ?_) | with_reducible refine i_i (fun h => ?_) (fun h => ?_))))
    all_goals refine hj' _ _ ⟨?_, rfl⟩
    all_goals congr 1
    all_goals simp [*]
    all_goals rw [Bool.eq_iff_iff]
    all_goals simp


theorem tell_len {g : List Nd} (hr : rightG g = true) (hg : OkG g) : (tellG g).out.length < 2 ^ 31 := by
  obtain ⟨hgl, _⟩ := rightG_kids hr
  have hol := order_len g
  have hop := order_pos hr
  have hnl : (normal g).length ≤ 2000 := by rw [normal_len]; omega
  have hnp : 0 < (normal g).length := by rw [normal_len]; exact hop
  have tl := told_of (names := namesG (normal g)) (normal_kids hr) (fun n hn => ((normal_ok2 hg).2 n hn).1) ((normal g).length + 1) ⟨[], 0, 0, 0⟩ 0 (by simp only [hasG, decide_eq_true_eq]; omega) (Nat.zero_le _) (Nat.le_refl _) (Nat.zero_le _)
  have := tl.out
  simp only [List.length_nil] at this
  unfold tellG
  omega

/-- The law: of each node that is met there is one event, and an alias for each time more. -/
theorem lawOne (hT : Has T) (hK : Knows T) {v : AV} {g : List Nd} (hv : IsG v g) (hl : g.length < 2 ^ 63) (H : AH) (hp : 0 < H.toks.length) :
    ∃ H', Den.of T 4 [v] H = some (.bool true, H') ∧ Grow H H' := by
  refine gr_of (w4_ok hT ?_)
  unfold w4
  refine c_gr (alive_ok hT hK H hp) fun H1 g1 => ?_
  (repeat (first | with_reducible refine Stp.go ?_ | (with_reducible refine i_cT ?_ ?_; · (first | assumption | decide | exact rfl)) | (with_reducible refine i_cF ?_ ?_; · (first | assumption | decide | exact rfl)) | (with_reducible refine i_T ?_ ?_; · first | assumption | with_reducible exact rfl) | (with_reducible refine i_F ?_ ?_; · first | assumption | with_reducible exact rfl) | (with_reducible refine g_add64 ?_ ?_; · omega) | (with_reducible refine g_sub64 ?_ ?_; · omega) | with_reducible refine g_add ?_ | with_reducible refine g_sub ?_ | (with_reducible refine g_mul64 ?_ ?_; · omega) | with_reducible refine g_mul ?_ | (with_reducible refine g_rem ?_ ?_; · decide) | (with_reducible refine g_quo ?_ ?_; · decide) | (with_reducible refine g_cv64 ?_ ?_; · omega) | with_reducible refine g_cv ?_))
  refine c_gb g1 (heavy_ok hT hv hl H1) fun H2 g2 => ?_
  refine i_i (fun hh => ?_) (fun hh => ?_)
  · exact ⟨rfl, g2⟩
  obtain ⟨hg, hgl, hsm⟩ := light hh
  refine c_i (theirs_ok hT hv hg H2 (g2.pos hp)) ?_
  rintro v2 H3 ⟨hv2, g3'⟩
  have g3 := g2.trans g3'
  refine s_lit (by have := hv2.def; have := hv2.cells; have := hv2.cell; simp [elemsOk, *]) ?_
  refine c_i (events_ok hT hK (rowG11 0 hv2) (by simp) (fun g' hg' => by simp only [List.mem_singleton] at hg'; rw [hg']; exact hg) H3 (g3.pos hp)) ?_
  rintro _ H5 ⟨⟨ov, rfl, hov⟩, g5'⟩
  have g5 := g3.trans g5'
  have hkl : ∀ n ∈ g, n.kids.length < 2 ^ 20 := fun n hn => (hg.2 n hn).1
  have hev : (eventsG [g] = ([], 5)) ∨ (eventsG [g] = ([], 13)) ∨ (rightG g = true ∧ (tellG g).most ≤ 40 ∧ eventsG [g] = (docE g, 0)) := by
    unfold eventsG
    by_cases h1 : [g].all rightG = true
    · rw [if_pos h1]
      by_cases h2 : [g].any (fun g => decide (40 < (tellG g).most)) = true
      · rw [if_pos h2]; exact .inr (.inl rfl)
      · rw [if_neg h2]
        refine .inr (.inr ⟨by simpa using h1, by simpa using h2, by simp⟩)
    · rw [if_neg h1]; exact .inl rfl
  (repeat (first | with_reducible refine Stp.go ?_ | (with_reducible refine i_cT ?_ ?_; · (first | assumption | decide | exact rfl)) | (with_reducible refine i_cF ?_ ?_; · (first | assumption | decide | exact rfl)) | (with_reducible refine i_T ?_ ?_; · first | assumption | with_reducible exact rfl) | (with_reducible refine i_F ?_ ?_; · first | assumption | with_reducible exact rfl) | (with_reducible refine g_add64 ?_ ?_; · omega) | (with_reducible refine g_sub64 ?_ ?_; · omega) | with_reducible refine g_add ?_ | with_reducible refine g_sub ?_ | (with_reducible refine g_mul64 ?_ ?_; · omega) | with_reducible refine g_mul ?_ | (with_reducible refine g_rem ?_ ?_; · decide) | (with_reducible refine g_quo ?_ ?_; · decide) | (with_reducible refine g_cv64 ?_ ?_; · omega) | with_reducible refine g_cv ?_))
  refine i_c (fun h => ?_) (fun h => ?_)
  rotate_left
  · have he : (eventsG [g]).1 = [] := by
      rcases hev with e | e | ⟨_, _, e⟩
      · rw [e]
      · rw [e]
      · rw [e] at h; exact absurd rfl h
    rw [he] at hov
    (repeat (first | (first | with_reducible refine Stp.go ?_ | (with_reducible refine i_cT ?_ ?_; · (first | assumption | decide | exact rfl)) | (with_reducible refine i_cF ?_ ?_; · (first | assumption | decide | exact rfl)) | (with_reducible refine i_T ?_ ?_; · first | assumption | with_reducible exact rfl) | (with_reducible refine i_F ?_ ?_; · first | assumption | with_reducible exact rfl) | (with_reducible refine g_add64 ?_ ?_; · omega) | (with_reducible refine g_sub64 ?_ ?_; · omega) | with_reducible refine g_add ?_ | with_reducible refine g_sub ?_ | (with_reducible refine g_mul64 ?_ ?_; · omega) | with_reducible refine g_mul ?_ | (with_reducible refine g_rem ?_ ?_; · decide) | (with_reducible refine g_quo ?_ ?_; · decide) | (with_reducible refine g_cv64 ?_ ?_; · omega) | with_reducible refine g_cv ?_) | refine g_lenW hov ?_))
    exact ⟨rfl, g5⟩
  obtain ⟨hr, hm, he⟩ : rightG g = true ∧ (tellG g).most ≤ 40 ∧ eventsG [g] = (docE g, 0) := by
    rcases hev with e | e | e
    · rw [e] at h; exact absurd h (by decide)
    · rw [e] at h; exact absurd h (by decide)
    · exact e
  rw [he] at hov
  refine c_i (normal_ok hT hK hv2 hg H5 (g5.pos hp)) ?_
  rintro nv H6 ⟨hnv, g6'⟩
  have g6 := g5.trans g6'
  have hol := order_len g
  have hnl : (normal g).length ≤ 120 := by rw [normal_len]; omega
  have hnk := (normal_ok2 hg).2
  refine g_lenW hnv ?_
  refine l2 (fun m a c H' => ∃ (i : Nat), a = .int .i64 (sumTo (normal g) i) ∧ c = .int .i64 i ∧ i ≤ (normal g).length ∧ sumTo (normal g) i ≤ i * 2 ^ 20 ∧ Grow H H' ∧ m = (normal g).length - i) (normal g).length ⟨0, rfl, rfl, Nat.zero_le _, by simp [sumTo], g6, rfl⟩ ?_
  rintro m _ _ H7 ⟨i, rfl, rfl, hi, hs, g7, hm2⟩
  (repeat (first | with_reducible refine Stp.go ?_ | (with_reducible refine i_cT ?_ ?_; · (first | assumption | decide | exact rfl)) | (with_reducible refine i_cF ?_ ?_; · (first | assumption | decide | exact rfl)) | (with_reducible refine i_T ?_ ?_; · first | assumption | with_reducible exact rfl) | (with_reducible refine i_F ?_ ?_; · first | assumption | with_reducible exact rfl) | (with_reducible refine g_add64 ?_ ?_; · omega) | (with_reducible refine g_sub64 ?_ ?_; · omega) | with_reducible refine g_add ?_ | with_reducible refine g_sub ?_ | (with_reducible refine g_mul64 ?_ ?_; · omega) | with_reducible refine g_mul ?_ | (with_reducible refine g_rem ?_ ?_; · decide) | (with_reducible refine g_quo ?_ ?_; · decide) | (with_reducible refine g_cv64 ?_ ?_; · omega) | with_reducible refine g_cv ?_))
  refine i_c (fun h7 => ?_) (fun h7 => ?_)
  · have hlt : i < (normal g).length := by omega
    have hge : (normal g)[i]? = some (normal g)[i] := List.getElem?_eq_getElem hlt
    have hss := sumTo_succ hge
    have hkn := (hnk _ (List.getElem_mem hlt)).1
    generalize (normal g)[i] = nd at *
    refine g_atn hnv hge fun x hx => ?_
    have hok := hx.ok
    obtain ⟨kv, rfl, hkv⟩ := hx
    refine g_ldv4 ?_
    refine a_i ?_
    refine h_top (c' := [AV.int IntKind.i64 nd.kind, AV.str nd.tag, AV.str nd.text, kv]) hok.1 hok.2.1 hok.2.2 (by simp) rfl ?_
    have cb := Holds.push H7 [AV.int IntKind.i64 nd.kind, AV.str nd.tag, AV.str nd.text, kv]
    replace g7 := g7.trans (.push _ (.cells [AV.int IntKind.i64 nd.kind, AV.str nd.tag, AV.str nd.text, kv]))
    generalize H7.push (.cells [AV.int IntKind.i64 nd.kind, AV.str nd.tag, AV.str nd.text, kv]) = H9 at *
    generalize H7.obs.length = b at *
    (repeat (first | (first | with_reducible refine Stp.go ?_ | (with_reducible refine i_cT ?_ ?_; · (first | assumption | decide | exact rfl)) | (with_reducible refine i_cF ?_ ?_; · (first | assumption | decide | exact rfl)) | (with_reducible refine i_T ?_ ?_; · first | assumption | with_reducible exact rfl) | (with_reducible refine i_F ?_ ?_; · first | assumption | with_reducible exact rfl) | (with_reducible refine g_add64 ?_ ?_; · omega) | (with_reducible refine g_sub64 ?_ ?_; · omega) | with_reducible refine g_add ?_ | with_reducible refine g_sub ?_ | (with_reducible refine g_mul64 ?_ ?_; · omega) | with_reducible refine g_mul ?_ | (with_reducible refine g_rem ?_ ?_; · decide) | (with_reducible refine g_quo ?_ ?_; · decide) | (with_reducible refine g_cv64 ?_ ?_; · omega) | with_reducible refine g_cv ?_) | refine g_h1 cb rfl ?_ | refine g_lenW hkv ?_))
    exact ⟨(normal g).length - (i + 1), by omega, i + 1, by rw [hss]; congr 1, by congr 1, by omega, by omega, g7, rfl⟩
  have hi2 : i = (normal g).length := by omega
  subst hi2
  have hdl : (docE g).length < 2 ^ 60 := by have := tell_len hr hg; simp only [docE, List.length_cons, List.length_append, List.length_nil]; omega
  refine c_gb g7 (nodes_ok hT hov hdl H7) fun H10 g10 => ?_
  have hc := doc_cnt hr
  have hst : sumTo (normal g) (normal g).length = ((normal g).map fun n => n.kids.length).sum := by simp [sumTo]
  rw [← hst] at hc
  (repeat (first | with_reducible refine Stp.go ?_ | (with_reducible refine i_cT ?_ ?_; · (first | assumption | decide | exact rfl)) | (with_reducible refine i_cF ?_ ?_; · (first | assumption | decide | exact rfl)) | (with_reducible refine i_T ?_ ?_; · first | assumption | with_reducible exact rfl) | (with_reducible refine i_F ?_ ?_; · first | assumption | with_reducible exact rfl) | (with_reducible refine g_add64 ?_ ?_; · omega) | (with_reducible refine g_sub64 ?_ ?_; · omega) | with_reducible refine g_add ?_ | with_reducible refine g_sub ?_ | (with_reducible refine g_mul64 ?_ ?_; · omega) | with_reducible refine g_mul ?_ | (with_reducible refine g_rem ?_ ?_; · decide) | (with_reducible refine g_quo ?_ ?_; · decide) | (with_reducible refine g_cv64 ?_ ?_; · omega) | with_reducible refine g_cv ?_))
  refine i_cT (by rw [hc]; omega) ?_
  refine c_gb g10 (depth_ok hT hov hdl H10) fun H11 g11 => ?_
  refine c_gb g11 (deep_ok hT hK hv2 hg H11 (g11.pos hp)) fun H12 g12 => ?_
  (repeat (first | with_reducible refine Stp.go ?_ | (with_reducible refine i_cT ?_ ?_; · (first | assumption | decide | exact rfl)) | (with_reducible refine i_cF ?_ ?_; · (first | assumption | decide | exact rfl)) | (with_reducible refine i_T ?_ ?_; · first | assumption | with_reducible exact rfl) | (with_reducible refine i_F ?_ ?_; · first | assumption | with_reducible exact rfl) | (with_reducible refine g_add64 ?_ ?_; · omega) | (with_reducible refine g_sub64 ?_ ?_; · omega) | with_reducible refine g_add ?_ | with_reducible refine g_sub ?_ | (with_reducible refine g_mul64 ?_ ?_; · omega) | with_reducible refine g_mul ?_ | (with_reducible refine g_rem ?_ ?_; · decide) | (with_reducible refine g_quo ?_ ?_; · decide) | (with_reducible refine g_cv64 ?_ ?_; · omega) | with_reducible refine g_cv ?_))
  refine ⟨?_, g12⟩
  rw [doc_depth hr, deepG, if_pos hr]
  simp

end Go.SV
