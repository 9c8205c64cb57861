/- Contracts: rows of events that may be. Own text of the prover; nothing is assumed. -/
import Derived.Test.YtkbkhdgjdikjiaaGreatDoorPh
set_option maxRecDepth 100000
namespace Go.SV

variable {T : Nat → Option Entry}

theorem isNode_ok (hT : Has T) (e : Ev) (H : AH) : ∃ H', Den.of T 74 [encE e] H = some (.bool (isNode e), H') ∧ Grow H H' := by
  refine gr_of (w74_ok hT ?_)
  unfold w74
  refine s_box rfl rfl ?_
  have c := Holds.push H (encE e).cells
  have g1 := Grow.push H (.cells (encE e).cells)
  generalize H.push (.cells (encE e).cells) = H1 at *
  generalize H.obs.length = b at *
  (repeat' (first | (first | (with_reducible first | refine Stp.go ?_ | (refine i_cT ?_ ?_; · first | assumption | decide | exact rfl) | (refine i_cF ?_ ?_; · first | assumption | decide | exact rfl) | (refine i_T ?_ ?_; · first | assumption | exact rfl) | (refine i_F ?_ ?_; · first | assumption | exact rfl) | (refine Sts.go ?_ ?_; · first | omega | decide) | refine Stu.go ?_) | refine j_i ?_) | refine g_h1 c rfl ?_ | (with_reducible first | refine i_c (fun h => ?_) (fun h => ?_) | refine i_i (fun h => ?_) (fun h => ?_))))
  all_goals refine ⟨?_, g1⟩
  all_goals congr 1
  all_goals unfold isNode
  all_goals simp [*]

theorem depth_ok (hT : Has T) {v : AV} {l : List Ev} (hv : RowOf 5 IsEv v l) (hl : l.length < 2 ^ 60) (H : AH) :
    ∃ H', Den.of T 47 [v] H = some (.int .i64 (depthGo l 0 0), H') ∧ Grow H H' := by
  refine gr_of (w47_ok hT ?_)
  unfold w47
  refine g_lenW hv ?_
  refine l3 (fun m a c d H' => ∃ (i : Nat) (dp mx : Int), a = .int .i64 dp ∧ c = .int .i64 mx ∧ d = .int .i64 i ∧ i ≤ l.length ∧ -(i : Int) ≤ dp ∧ dp ≤ i ∧ 0 ≤ mx ∧ mx ≤ i ∧ Grow H H' ∧ depthGo l 0 0 = depthGo (l.drop i) dp mx ∧ m = l.length - i) l.length
    ⟨0, 0, 0, rfl, rfl, rfl, Nat.zero_le _, by omega, by omega, by omega, by omega, .refl _, rfl, rfl⟩ ?_
  rintro m _ _ _ H1 ⟨i, dp, mx, rfl, rfl, rfl, hi, b1, b2, b3, b4, g1, he, hm⟩
  (repeat (with_reducible first | refine Stp.go ?_ | (refine i_cT ?_ ?_; · first | assumption | decide | exact rfl) | (refine i_cF ?_ ?_; · first | assumption | decide | exact rfl) | (refine i_T ?_ ?_; · first | assumption | exact rfl) | (refine i_F ?_ ?_; · first | assumption | exact rfl) | (refine Sts.go ?_ ?_; · first | omega | decide) | refine Stu.go ?_))
  refine i_c (fun h => ?_) (fun h => ?_)
  rotate_left
  · rw [List.drop_eq_nil_of_le (by omega)] at he
    exact ⟨by rw [he]; rfl, g1⟩
  have hlt : i < l.length := by omega
  rw [List.drop_eq_getElem_cons hlt] at he
  refine g_atn hv (List.getElem?_eq_getElem hlt) fun x hx => ?_
  generalize l[i] = e at *
  cases hx
  refine g_ldv5 ?_
  refine a_i ?_
  refine h_top (c' := (encE e).cells) rfl rfl rfl (by simp) rfl ?_
  have c := Holds.push H1 (encE e).cells
  replace g1 := g1.trans (.push _ (.cells (encE e).cells))
  generalize H1.push (.cells (encE e).cells) = H3 at *
  generalize H1.obs.length = b at *
  have hs : dStep dp e.kind = dp + 1 ∨ dStep dp e.kind = dp - 1 ∨ dStep dp e.kind = dp := by
    unfold dStep
    split
    · exact .inl rfl
    · split
      · exact .inr (.inl rfl)
      · exact .inr (.inr rfl)
  refine j1 (fun a H' => a = .int .i64 (dStep dp e.kind) ∧ H3 = H') ?_ ?_
  · rintro _ _ ⟨rfl, rfl⟩
    refine gP_i (v := .int .i64 (max mx (dStep dp e.kind))) ?_ ?_
    · simp only [aFold, aMin, if_true, Option.bind_some]
      congr 2
      split <;> omega
    (repeat (with_reducible first | refine Stp.go ?_ | (refine i_cT ?_ ?_; · first | assumption | decide | exact rfl) | (refine i_cF ?_ ?_; · first | assumption | decide | exact rfl) | (refine i_T ?_ ?_; · first | assumption | exact rfl) | (refine i_F ?_ ?_; · first | assumption | exact rfl) | (refine Sts.go ?_ ?_; · first | omega | decide) | refine Stu.go ?_))
    refine ⟨l.length - (i + 1), by omega, i + 1, _, _, rfl, rfl, by congr 1, by omega, by omega, by omega, by omega, by omega, g1, ?_, rfl⟩
    rw [he, depthGo]
  intro j hj
  (repeat (first | (with_reducible first | refine Stp.go ?_ | (refine i_cT ?_ ?_; · first | assumption | decide | exact rfl) | (refine i_cF ?_ ?_; · first | assumption | decide | exact rfl) | (refine i_T ?_ ?_; · first | assumption | exact rfl) | (refine i_F ?_ ?_; · first | assumption | exact rfl) | (refine Sts.go ?_ ?_; · first | omega | decide) | refine Stu.go ?_) | refine g_h1 c rfl ?_))
  refine j1 (fun a H' => a = .bool (decide (e.kind = 2 ∨ e.kind = 4)) ∧ H3 = H') ?_ ?_
  · rintro _ _ ⟨rfl, rfl⟩
    (with_reducible first | refine i_c (fun h => ?_) (fun h => ?_) | refine i_i (fun h => ?_) (fun h => ?_))
    · (repeat (with_reducible first | refine Stp.go ?_ | (refine i_cT ?_ ?_; · first | assumption | decide | exact rfl) | (refine i_cF ?_ ?_; · first | assumption | decide | exact rfl) | (refine i_T ?_ ?_; · first | assumption | exact rfl) | (refine i_F ?_ ?_; · first | assumption | exact rfl) | (refine Sts.go ?_ ?_; · first | omega | decide) | refine Stu.go ?_))
      exact hj _ _ ⟨by rw [dStep, if_pos h], rfl⟩
    have n1 := h
    refine j1 (fun a H' => a = .bool (decide (e.kind = 3 ∨ e.kind = 5)) ∧ H3 = H') ?_ ?_
    · rintro _ _ ⟨rfl, rfl⟩
      (with_reducible first | refine i_c (fun h => ?_) (fun h => ?_) | refine i_i (fun h => ?_) (fun h => ?_))
      · (repeat (with_reducible first | refine Stp.go ?_ | (refine i_cT ?_ ?_; · first | assumption | decide | exact rfl) | (refine i_cF ?_ ?_; · first | assumption | decide | exact rfl) | (refine i_T ?_ ?_; · first | assumption | exact rfl) | (refine i_F ?_ ?_; · first | assumption | exact rfl) | (refine Sts.go ?_ ?_; · first | omega | decide) | refine Stu.go ?_))
        exact hj _ _ ⟨by rw [dStep, if_neg n1, if_pos h], rfl⟩
      · exact hj _ _ ⟨by rw [dStep, if_neg n1, if_neg h], rfl⟩
    · intro j' hj'
      (repeat' (first | (first | (with_reducible first | refine Stp.go ?_ | (refine i_cT ?_ ?_; · first | assumption | decide | exact rfl) | (refine i_cF ?_ ?_; · first | assumption | decide | exact rfl) | (refine i_T ?_ ?_; · first | assumption | exact rfl) | (refine i_F ?_ ?_; · first | assumption | exact rfl) | (refine Sts.go ?_ ?_; · first | omega | decide) | refine Stu.go ?_) | refine j_i ?_) | (with_reducible first | refine i_c (fun h => ?_) (fun h => ?_) | refine i_i (fun h => ?_) (fun h => ?_))))
      all_goals refine hj' _ _ ⟨?_, rfl⟩
      all_goals congr 1
      all_goals simp [*]
      all_goals rw [Bool.eq_iff_iff]
      all_goals simp
  · intro j' hj'
    (repeat' (first | (first | (with_reducible first | refine Stp.go ?_ | (refine i_cT ?_ ?_; · first | assumption | decide | exact rfl) | (refine i_cF ?_ ?_; · first | assumption | decide | exact rfl) | (refine i_T ?_ ?_; · first | assumption | exact rfl) | (refine i_F ?_ ?_; · first | assumption | exact rfl) | (refine Sts.go ?_ ?_; · first | omega | decide) | refine Stu.go ?_) | refine j_i ?_) | (with_reducible first | refine i_c (fun h => ?_) (fun h => ?_) | refine i_i (fun h => ?_) (fun h => ?_))))
    all_goals refine hj' _ _ ⟨?_, rfl⟩
    all_goals congr 1
    all_goals simp [*]
    all_goals rw [Bool.eq_iff_iff]
    all_goals simp



/-! ### Names, and events alone -/
theorem strangeN_ok (hT : Has T) (r : Int) (H : AH) : Den.of T 117 [.int .i32 r] H = some (.bool (strangeN r), H) := by
  refine eq_of (w117_ok hT ?_)
  unfold w117
  (repeat' (first | (first | (with_reducible first | refine Stp.go ?_ | (refine i_cT ?_ ?_; · first | assumption | decide | exact rfl) | (refine i_cF ?_ ?_; · first | assumption | decide | exact rfl) | (refine i_T ?_ ?_; · first | assumption | exact rfl) | (refine i_F ?_ ?_; · first | assumption | exact rfl) | (refine Sts.go ?_ ?_; · first | omega | decide) | refine Stu.go ?_) | refine j_i ?_) | (with_reducible first | refine i_c (fun h => ?_) (fun h => ?_) | refine i_i (fun h => ?_) (fun h => ?_))))
  all_goals refine ⟨?_, rfl⟩
  all_goals congr 1
  all_goals unfold strangeN
  all_goals rw [Bool.eq_iff_iff]
  all_goals simp
  all_goals omega

theorem nameL_ok (hT : Has T) (s : List UInt8) (H : AH) : ∃ H', Den.of T 73 [.str s] H = some (.bool (nameL s), H') ∧ Grow H H' := by
  refine gr_of (w73_ok hT ?_)
  unfold w73
  have hc := fun H => containsFunc_ok hT s 117 strangeN (by decide) (strangeN_ok hT) H
  (repeat' (first | (first | (with_reducible first | refine Stp.go ?_ | (refine i_cT ?_ ?_; · first | assumption | decide | exact rfl) | (refine i_cF ?_ ?_; · first | assumption | decide | exact rfl) | (refine i_T ?_ ?_; · first | assumption | exact rfl) | (refine i_F ?_ ?_; · first | assumption | exact rfl) | (refine Sts.go ?_ ?_; · first | omega | decide) | refine Stu.go ?_) | refine j_i ?_) | (with_reducible refine c_gr (hc _) ?_; refine fun _ _ => ?_) | (with_reducible first | refine i_c (fun h => ?_) (fun h => ?_) | refine i_i (fun h => ?_) (fun h => ?_))))
  all_goals refine ⟨?_, by first | exact .refl _ | assumption⟩
  all_goals unfold nameL
  all_goals first
    | (have h40 : s.length ≤ 40 := by omega
       have hne : s ≠ [] := by assumption
       rw [decide_eq_true h40, decide_eq_true hne]; simp [*])
    | (have h40 : ¬ s.length ≤ 40 := by omega
       rw [decide_eq_false h40]; simp)
    | simp [*]

theorem rightE_ok (hT : Has T) (hK : Knows T) (e : Ev) (hl : e.text.length < 2 ^ 60) (H : AH) : ∃ H', Den.of T 45 [encE e] H = some (.bool (rightE e), H') ∧ Grow H H' := by
  refine gr_of (w45_ok hT ?_)
  unfold w45
  refine s_box rfl rfl ?_
  have c := Holds.push H (encE e).cells
  have g1 := Grow.push H (.cells (encE e).cells)
  generalize H.push (.cells (encE e).cells) = H1 at *
  generalize H.obs.length = b at *
  refine j1 (fun x H' => x = .bool (decide (e.kind < 0 ∨ 7 < e.kind ∨ Lib.validD e.text = false)) ∧ H1 = H') ?_ ?_
  rotate_left
  · intro j hj
    (repeat (first | (with_reducible first | refine Stp.go ?_ | (refine i_cT ?_ ?_; · first | assumption | decide | exact rfl) | (refine i_cF ?_ ?_; · first | assumption | decide | exact rfl) | (refine i_T ?_ ?_; · first | assumption | exact rfl) | (refine i_F ?_ ?_; · first | assumption | exact rfl) | (refine Sts.go ?_ ?_; · first | omega | decide) | refine Stu.go ?_) | refine g_h1 c rfl ?_))
    refine i_c (fun h1 => ?_) (fun h1 => ?_)
    · exact hj _ _ ⟨by rw [decide_eq_true (.inl h1)], rfl⟩
    (repeat (first | (with_reducible first | refine Stp.go ?_ | (refine i_cT ?_ ?_; · first | assumption | decide | exact rfl) | (refine i_cF ?_ ?_; · first | assumption | decide | exact rfl) | (refine i_T ?_ ?_; · first | assumption | exact rfl) | (refine i_F ?_ ?_; · first | assumption | exact rfl) | (refine Sts.go ?_ ?_; · first | omega | decide) | refine Stu.go ?_) | refine g_h1 c rfl ?_))
    refine i_c (fun h2 => ?_) (fun h2 => ?_)
    · exact hj _ _ ⟨by rw [decide_eq_true (.inr (.inl h2))], rfl⟩
    (repeat (first | (with_reducible first | refine Stp.go ?_ | (refine i_cT ?_ ?_; · first | assumption | decide | exact rfl) | (refine i_cF ?_ ?_; · first | assumption | decide | exact rfl) | (refine i_T ?_ ?_; · first | assumption | exact rfl) | (refine i_F ?_ ?_; · first | assumption | exact rfl) | (refine Sts.go ?_ ?_; · first | omega | decide) | refine Stu.go ?_) | refine g_h1 c rfl ?_))
    refine c_eq (hK.valid e.text H1 hl) ?_
    (repeat (with_reducible first | refine Stp.go ?_ | (refine i_cT ?_ ?_; · first | assumption | decide | exact rfl) | (refine i_cF ?_ ?_; · first | assumption | decide | exact rfl) | (refine i_T ?_ ?_; · first | assumption | exact rfl) | (refine i_F ?_ ?_; · first | assumption | exact rfl) | (refine Sts.go ?_ ?_; · first | omega | decide) | refine Stu.go ?_))
    refine hj _ _ ⟨?_, rfl⟩
    congr 1
    rw [Bool.eq_iff_iff]
    have h2' : ¬ 7 < e.kind := h2
    simp [h1, h2']
  rintro _ _ ⟨rfl, rfl⟩
  refine i_c (fun h1 => ?_) (fun h1 => ?_)
  · exact ⟨by rw [rightE, if_pos h1], g1⟩
  (repeat (first | (with_reducible first | refine Stp.go ?_ | (refine i_cT ?_ ?_; · first | assumption | decide | exact rfl) | (refine i_cF ?_ ?_; · first | assumption | decide | exact rfl) | (refine i_T ?_ ?_; · first | assumption | exact rfl) | (refine i_F ?_ ?_; · first | assumption | exact rfl) | (refine Sts.go ?_ ?_; · first | omega | decide) | refine Stu.go ?_) | refine g_h1 c rfl ?_))
  refine i_c (fun h2 => ?_) (fun h2 => ?_)
  · have he : rightE e = (nameL e.anchor && (e.tag == [] && (e.text == [] && !e.plain))) := by rw [rightE, if_neg h1, if_pos h2]
    rw [he]
    refine Stp.go ?_
    refine g_h1 c rfl ?_
    refine c_gr (nameL_ok hT e.anchor H1) fun H2 g2 => ?_
    have g3 := g1.trans g2
    replace c := c.grow g2
    refine d_t ?_
    refine i_i (fun h => ?_) (fun h => ?_)
    rotate_left
    · exact ⟨by rw [h]; rfl, g3⟩
    rw [h, Bool.true_and]
    (repeat (first | (with_reducible first | refine Stp.go ?_ | (refine i_cT ?_ ?_; · first | assumption | decide | exact rfl) | (refine i_cF ?_ ?_; · first | assumption | decide | exact rfl) | (refine i_T ?_ ?_; · first | assumption | exact rfl) | (refine i_F ?_ ?_; · first | assumption | exact rfl) | (refine Sts.go ?_ ?_; · first | omega | decide) | refine Stu.go ?_) | refine g_h1 c rfl ?_))
    refine i_c (fun h => ?_) (fun h => ?_)
    rotate_left
    · exact ⟨by rw [beq_eq_false_iff_ne.2 h]; rfl, g3⟩
    rw [beq_iff_eq.2 h, Bool.true_and]
    (repeat (first | (with_reducible first | refine Stp.go ?_ | (refine i_cT ?_ ?_; · first | assumption | decide | exact rfl) | (refine i_cF ?_ ?_; · first | assumption | decide | exact rfl) | (refine i_T ?_ ?_; · first | assumption | exact rfl) | (refine i_F ?_ ?_; · first | assumption | exact rfl) | (refine Sts.go ?_ ?_; · first | omega | decide) | refine Stu.go ?_) | refine g_h1 c rfl ?_))
    refine i_c (fun h => ?_) (fun h => ?_)
    rotate_left
    · exact ⟨by rw [beq_eq_false_iff_ne.2 h]; rfl, g3⟩
    rw [beq_iff_eq.2 h, Bool.true_and]
    (repeat (first | (with_reducible first | refine Stp.go ?_ | (refine i_cT ?_ ?_; · first | assumption | decide | exact rfl) | (refine i_cF ?_ ?_; · first | assumption | decide | exact rfl) | (refine i_T ?_ ?_; · first | assumption | exact rfl) | (refine i_F ?_ ?_; · first | assumption | exact rfl) | (refine Sts.go ?_ ?_; · first | omega | decide) | refine Stu.go ?_) | refine g_h1 c rfl ?_))
    exact ⟨rfl, g3⟩
  refine g_hN c rfl ?_
  refine c_gr (isNode_ok hT e H1) fun H2 g2 => ?_
  have g3 := g1.trans g2
  replace c := c.grow g2
  (repeat (with_reducible first | refine Stp.go ?_ | (refine i_cT ?_ ?_; · first | assumption | decide | exact rfl) | (refine i_cF ?_ ?_; · first | assumption | decide | exact rfl) | (refine i_T ?_ ?_; · first | assumption | exact rfl) | (refine i_F ?_ ?_; · first | assumption | exact rfl) | (refine Sts.go ?_ ?_; · first | omega | decide) | refine Stu.go ?_))
  refine i_i (fun h3 => ?_) (fun h3 => ?_)
  rotate_left
  · have he : rightE e = decide (e = ⟨e.kind, [], [], [], false⟩) := by rw [rightE, if_neg h1, if_neg h2, if_pos h3]
    rw [he]
    refine g_hN c rfl ?_
    refine Stp.go ?_
    refine g_h1 c rfl ?_
    refine gP_i (v := encE ⟨e.kind, [], [], [], false⟩) rfl ?_
    refine s_eqE ?_
    exact ⟨rfl, g3⟩
  refine j1 (fun x H' => x = .bool (decide (e.kind ≠ 6 ∧ (e.text ≠ [] ∨ e.plain = true))) ∧ H2 = H') ?_ ?_
  rotate_left
  · intro j hj
    (repeat (first | (with_reducible first | refine Stp.go ?_ | (refine i_cT ?_ ?_; · first | assumption | decide | exact rfl) | (refine i_cF ?_ ?_; · first | assumption | decide | exact rfl) | (refine i_T ?_ ?_; · first | assumption | exact rfl) | (refine i_F ?_ ?_; · first | assumption | exact rfl) | (refine Sts.go ?_ ?_; · first | omega | decide) | refine Stu.go ?_) | refine g_h1 c rfl ?_))
    refine i_c (fun h => ?_) (fun h => ?_)
    · exact hj _ _ ⟨by rw [decide_eq_false]; exact fun k => k.1 h, rfl⟩
    (repeat (first | (with_reducible first | refine Stp.go ?_ | (refine i_cT ?_ ?_; · first | assumption | decide | exact rfl) | (refine i_cF ?_ ?_; · first | assumption | decide | exact rfl) | (refine i_T ?_ ?_; · first | assumption | exact rfl) | (refine i_F ?_ ?_; · first | assumption | exact rfl) | (refine Sts.go ?_ ?_; · first | omega | decide) | refine Stu.go ?_) | refine g_h1 c rfl ?_))
    refine i_c (fun h4 => ?_) (fun h4 => ?_)
    · (repeat (first | (with_reducible first | refine Stp.go ?_ | (refine i_cT ?_ ?_; · first | assumption | decide | exact rfl) | (refine i_cF ?_ ?_; · first | assumption | decide | exact rfl) | (refine i_T ?_ ?_; · first | assumption | exact rfl) | (refine i_F ?_ ?_; · first | assumption | exact rfl) | (refine Sts.go ?_ ?_; · first | omega | decide) | refine Stu.go ?_) | refine g_h1 c rfl ?_))
      refine hj _ _ ⟨?_, rfl⟩
      congr 1
      rw [Bool.eq_iff_iff]
      simp [h, h4]
    · exact hj _ _ ⟨by rw [decide_eq_true ⟨h, .inl h4⟩], rfl⟩
  rintro _ _ ⟨rfl, rfl⟩
  refine i_c (fun h4 => ?_) (fun h4 => ?_)
  · exact ⟨by rw [rightE, if_neg h1, if_neg h2, if_neg (by rw [h3]; decide), if_pos h4], g3⟩
  have he : rightE e = ((e.anchor == [] || nameL e.anchor) && (e.tag == [] || tagRight e.tag)) := by rw [rightE, if_neg h1, if_neg h2, if_neg (by rw [h3]; decide), if_neg h4]
  rw [he]
  (repeat (first | (with_reducible first | refine Stp.go ?_ | (refine i_cT ?_ ?_; · first | assumption | decide | exact rfl) | (refine i_cF ?_ ?_; · first | assumption | decide | exact rfl) | (refine i_T ?_ ?_; · first | assumption | exact rfl) | (refine i_F ?_ ?_; · first | assumption | exact rfl) | (refine Sts.go ?_ ?_; · first | omega | decide) | refine Stu.go ?_) | refine g_h1 c rfl ?_))
  refine i_c (fun h => ?_) (fun h => ?_)
  · rw [beq_iff_eq.2 h, Bool.true_or, Bool.true_and]
    (repeat (first | (with_reducible first | refine Stp.go ?_ | (refine i_cT ?_ ?_; · first | assumption | decide | exact rfl) | (refine i_cF ?_ ?_; · first | assumption | decide | exact rfl) | (refine i_T ?_ ?_; · first | assumption | exact rfl) | (refine i_F ?_ ?_; · first | assumption | exact rfl) | (refine Sts.go ?_ ?_; · first | omega | decide) | refine Stu.go ?_) | refine g_h1 c rfl ?_))
    refine i_c (fun h => ?_) (fun h => ?_)
    · exact ⟨by rw [beq_iff_eq.2 h]; rfl, g3⟩
    rw [beq_eq_false_iff_ne.2 h, Bool.false_or]
    refine Stp.go ?_
    refine g_h1 c rfl ?_
    refine c_gb g3 (tagRight_ok hT e.tag H2) fun H5 g5 => ?_
    exact ⟨rfl, g5⟩
  · rw [beq_eq_false_iff_ne.2 h, Bool.false_or]
    refine Stp.go ?_
    refine g_h1 c rfl ?_
    refine c_gr (nameL_ok hT e.anchor H2) fun H4 g4 => ?_
    have g5 := g3.trans g4
    replace c := c.grow g4
    refine d_t ?_
    refine i_i (fun h => ?_) (fun h => ?_)
    rotate_left
    · exact ⟨by rw [h]; rfl, g5⟩
    rw [h, Bool.true_and]
    (repeat (first | (with_reducible first | refine Stp.go ?_ | (refine i_cT ?_ ?_; · first | assumption | decide | exact rfl) | (refine i_cF ?_ ?_; · first | assumption | decide | exact rfl) | (refine i_T ?_ ?_; · first | assumption | exact rfl) | (refine i_F ?_ ?_; · first | assumption | exact rfl) | (refine Sts.go ?_ ?_; · first | omega | decide) | refine Stu.go ?_) | refine g_h1 c rfl ?_))
    refine i_c (fun h => ?_) (fun h => ?_)
    · exact ⟨by rw [beq_iff_eq.2 h]; rfl, g5⟩
    rw [beq_eq_false_iff_ne.2 h, Bool.false_or]
    refine Stp.go ?_
    refine g_h1 c rfl ?_
    refine c_gb g5 (tagRight_ok hT e.tag H4) fun H5 g5 => ?_
    exact ⟨rfl, g5⟩

end Go.SV
