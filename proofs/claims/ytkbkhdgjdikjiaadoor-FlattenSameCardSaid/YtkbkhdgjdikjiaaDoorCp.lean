/- Contracts: limits, the lesser ones, whether they may be, whether bytes keep within them. Own text of the prover; nothing is assumed. -/
import Derived.Test.YtkbkhdgjdikjiaaDoorCn
set_option maxRecDepth 100000
namespace Go.SV

variable {T : Nat → Option Entry}

structure Lim where
  i : Int
  o : Int
  d : Int
  n : Int
  p : Int
deriving DecidableEq

abbrev li5 (a b c d e : Int) : List AV := [.int .i64 a, .int .i64 b, .int .i64 c, .int .i64 d, .int .i64 e]
abbrev lc (l : Lim) : List AV := li5 l.i l.o l.d l.n l.p
def encL (l : Lim) : AV := .agg (lc l)
def leastL (a b : Lim) : Lim := ⟨min a.i b.i, min a.o b.o, min a.d b.d, min a.n b.n, min a.p b.p⟩
def dfltL : Lim := ⟨20000, 20000, 10, 2000, 40⟩
def rightL (l : Lim) : Bool := decide (0 ≤ l.i ∧ 0 ≤ l.o ∧ 0 ≤ l.d ∧ 0 ≤ l.n ∧ 0 ≤ l.p ∧ l.i ≤ 20000 ∧ l.o ≤ 20000 ∧ l.n ≤ 2000 ∧ l.p ≤ 40)

theorem encL_def (l : Lim) : (encL l).def? = true := rfl
theorem encL_cell (l : Lim) : (lc l).all AV.isCell = true := rfl

theorem g_min {κ : IntKind} {a b : Int} {k : AV → Prop} (h : k (.int κ (min a b))) : gP (aFold false (.int κ a) [.int κ b]) k := by
  refine gP_i (v := .int κ (min a b)) ?_ h
  simp only [aFold, aMin, Option.bind_some, Bool.false_eq_true, if_false]
  congr 2
  split <;> omega
theorem g_max {κ : IntKind} {a b : Int} {k : AV → Prop} (h : k (.int κ (max a b))) : gP (aFold true (.int κ a) [.int κ b]) k := by
  refine gP_i (v := .int κ (max a b)) ?_ h
  simp only [aFold, aMin, Option.bind_some, if_true]
  congr 2
  split <;> omega
theorem g_min1 {κ : IntKind} {a b : Int} {l : List AV} {k : AV → Prop} (h : gP (aFold false (.int κ (min a b)) l) k) : gP (aFold false (.int κ a) (.int κ b :: l)) k := by
  obtain ⟨v, hv, hk⟩ := h
  refine ⟨v, ?_, hk⟩
  rw [← hv]
  simp only [aFold, aMin, Option.bind_some, Bool.false_eq_true, if_false]
  congr 2
  split <;> omega
instance {κ : IntKind} {a b : Int} {k : AV → Prop} : Stp (gP (aFold false (.int κ a) [.int κ b]) k) (k (.int κ (min a b))) := ⟨g_min⟩
instance {κ : IntKind} {a b : Int} {k : AV → Prop} : Stp (gP (aFold true (.int κ a) [.int κ b]) k) (k (.int κ (max a b))) := ⟨g_max⟩
instance {a b c d e : Int} {k : AV → Prop} : Stp (gP ((aBuild [.int .i64 0, .int .i64 0, .int .i64 0, .int .i64 0, .int .i64 0] [(0, 1, .int .i64 a), (1, 1, .int .i64 b), (2, 1, .int .i64 c), (3, 1, .int .i64 d), (4, 1, .int .i64 e)]).map .agg) k) (k (encL ⟨a, b, c, d, e⟩)) := ⟨fun h => gP_i rfl h⟩

theorem cells_lim (a b : Lim) : cellsEq [.int, .int, .int, .int, .int] (lc a) (lc b) = some (decide (a = b)) := by
  simp only [lc, cellsEq, cellEq, if_true, Option.bind_some, Option.some.injEq]
  rw [Bool.eq_iff_iff]
  obtain ⟨a1, a2, a3, a4, a5⟩ := a
  obtain ⟨b1, b2, b3, b4, b5⟩ := b
  simp
theorem s_eqL {a b : Lim} {neg : Bool} {H : AH} {k : AV → AH → Prop} (h : k (.bool (if neg = true then !decide (a = b) else decide (a = b))) H) : sP (aop [] (.eqAgg [.int, .int, .int, .int, .int] neg (.cst (encL a)) (.cst (encL b))) H) k := by
  refine sP_i (v := .bool (if neg = true then !decide (a = b) else decide (a = b))) (H := H) ?_ h
  simp only [aop, Opd.ev, encL, cells_lim, Option.map_some]

theorem Holds.same {H1 H2 : AH} {b o : Nat} {c : List AV} {n : Option Nat} (h1 : Holds H1 b c) (h2 : Holds H2 b c) : sameR (.load n (.cst (.ptr b o))) H1 H2 := same_ld fun d hd => by
  simp only [blkOf, Option.some.injEq] at hd
  subst hd
  rw [h1.2, h2.2]

theorem Holds.lt {H : AH} {b : Nat} {c : List AV} (h : Holds H b c) : b < H.obs.length := h.1
theorem Holds.kept {H : AH} {b : Nat} {c : List AV} (h : Holds H b c) : keptP (.ptr b 0) c H := fun d hd => by cases hd; exact h.2
theorem g_h5 {H : AH} {b o : Nat} {c d : List AV} {k : AV → Prop} (hc : Holds H b c) (hl : o + 5 ≤ c.length) (hd : (c.drop o).take 5 = d) (h : k (.agg d)) : gP (aLoad (some 5) (.ptr b o) H) k := g_ldN hc.2 hl (by rw [hd]; exact h)
theorem g_arr {n s b o : Nat} {i : Int} {κ : IntKind} {k : AV → Prop} (hi : 0 ≤ i ∧ i < n) (h : k (.ptr b (o + i.toNat * s))) : gP (aIdxAddrArr n s (.ptr b o) (.int κ i)) k := gP_i (by simp only [aIdxAddrArr, if_pos hi]) h
theorem put_holds {H : AH} {b c : Nat} {o : AObj} {l : List AV} (h : Holds H c l) (hb : b < H.obs.length) (hn : c ≠ b) : Holds (H.put b o) c l := ⟨by rw [put_len]; exact h.1, by rw [put_get hb, if_neg hn]; exact h.2⟩

theorem default_ok (hT : Has T) (H : AH) : ∃ H', Den.of T 34 [] H = some (encL dfltL, H') ∧ Grow H H' := by
  refine gr_of (w34_ok hT ?_)
  unfold w34
  refine a_i ?_
  refine gP_i (v := encL dfltL) rfl ?_
  refine h_top (c' := lc dfltL) rfl rfl rfl (by simp) rfl ?_
  refine g_ln5 ?_
  exact ⟨rfl, .push _ _⟩
theorem rdefault_ok (hT : Has T) (H : AH) : ∃ H', Den.of T 35 [] H = some (encL dfltL, H') ∧ Grow H H' := by
  refine gr_of (w35_ok hT ?_)
  unfold w35
  refine a_i ?_
  refine gP_i (v := encL dfltL) rfl ?_
  refine h_top (c' := lc dfltL) rfl rfl rfl (by simp) rfl ?_
  refine g_ln5 ?_
  exact ⟨rfl, .push _ _⟩

theorem least_ok (hT : Has T) (a b : Lim) (H : AH) : ∃ H', Den.of T 29 [encL a, encL b] H = some (encL (leastL a b), H') ∧ Grow H H' := by
  refine gr_of (w29_ok hT ?_)
  unfold w29
  refine s_box rfl rfl ?_
  have c1 := Holds.push H (encL a).cells
  have le1 := Grow.len (.refl H)
  have g1 := Grow.trans (.refl H) (.push H (.cells (encL a).cells))
  generalize H.push (.cells (encL a).cells) = H1 at *
  generalize hb1 : H.obs.length = b1 at *
  refine s_box rfl rfl ?_
  have q2_c1 := Holds.lt c1
  replace c1 := Holds.pushed c1 (.cells (encL b).cells)
  have c2 := Holds.push H1 (encL b).cells
  have le2 := Grow.len g1
  have g2 := Grow.trans g1 (.push H1 (.cells (encL b).cells))
  generalize H1.push (.cells (encL b).cells) = H2 at *
  generalize hb2 : H1.obs.length = b2 at *
  refine a_i ?_
  have q3_c1 := Holds.lt c1
  have q3_c2 := Holds.lt c2
  replace c1 := Holds.pushed c1 (.cells [AV.int .i64 0, AV.int .i64 0, AV.int .i64 0, AV.int .i64 0, AV.int .i64 0])
  replace c2 := Holds.pushed c2 (.cells [AV.int .i64 0, AV.int .i64 0, AV.int .i64 0, AV.int .i64 0, AV.int .i64 0])
  have c3 := Holds.push H2 [AV.int .i64 0, AV.int .i64 0, AV.int .i64 0, AV.int .i64 0, AV.int .i64 0]
  have le3 := Grow.len g2
  have g3 := Grow.trans g2 (.push H2 (.cells [AV.int .i64 0, AV.int .i64 0, AV.int .i64 0, AV.int .i64 0, AV.int .i64 0]))
  generalize H2.push (.cells [AV.int .i64 0, AV.int .i64 0, AV.int .i64 0, AV.int .i64 0, AV.int .i64 0]) = H3 at *
  generalize hb3 : H2.obs.length = b3 at *
  (repeat (first | (with_reducible first | refine Stp.go ?_ | (refine i_cT ?_ ?_; · first | assumption | decide | exact rfl) | (refine i_cF ?_ ?_; · first | assumption | decide | exact rfl) | (refine i_T ?_ ?_; · first | assumption | exact rfl) | (refine i_F ?_ ?_; · first | assumption | exact rfl) | (refine Sts.go ?_ ?_; · first | omega | decide) | refine Stu.go ?_) | refine g_h1 c1 rfl ?_ | refine g_h1 c2 rfl ?_))
  refine h_all (l := lc (leastL a b)) c3 rfl rfl rfl fun c4 => ?_
  refine g_hN c4 rfl ?_
  exact ⟨rfl, g3.put le3⟩
theorem rleast_ok (hT : Has T) (a b : Lim) (H : AH) : ∃ H', Den.of T 30 [encL a, encL b] H = some (encL (leastL a b), H') ∧ Grow H H' := by
  refine gr_of (w30_ok hT ?_)
  unfold w30
  refine s_box rfl rfl ?_
  have c1 := Holds.push H (encL a).cells
  have le1 := Grow.len (.refl H)
  have g1 := Grow.trans (.refl H) (.push H (.cells (encL a).cells))
  generalize H.push (.cells (encL a).cells) = H1 at *
  generalize hb1 : H.obs.length = b1 at *
  refine s_box rfl rfl ?_
  have q2_c1 := Holds.lt c1
  replace c1 := Holds.pushed c1 (.cells (encL b).cells)
  have c2 := Holds.push H1 (encL b).cells
  have le2 := Grow.len g1
  have g2 := Grow.trans g1 (.push H1 (.cells (encL b).cells))
  generalize H1.push (.cells (encL b).cells) = H2 at *
  generalize hb2 : H1.obs.length = b2 at *
  refine a_i ?_
  have q3_c1 := Holds.lt c1
  have q3_c2 := Holds.lt c2
  replace c1 := Holds.pushed c1 (.cells [AV.int .i64 0, AV.int .i64 0, AV.int .i64 0, AV.int .i64 0, AV.int .i64 0])
  replace c2 := Holds.pushed c2 (.cells [AV.int .i64 0, AV.int .i64 0, AV.int .i64 0, AV.int .i64 0, AV.int .i64 0])
  have c3 := Holds.push H2 [AV.int .i64 0, AV.int .i64 0, AV.int .i64 0, AV.int .i64 0, AV.int .i64 0]
  have le3 := Grow.len g2
  have g3 := Grow.trans g2 (.push H2 (.cells [AV.int .i64 0, AV.int .i64 0, AV.int .i64 0, AV.int .i64 0, AV.int .i64 0]))
  generalize H2.push (.cells [AV.int .i64 0, AV.int .i64 0, AV.int .i64 0, AV.int .i64 0, AV.int .i64 0]) = H3 at *
  generalize hb3 : H2.obs.length = b3 at *
  (repeat (first | (with_reducible first | refine Stp.go ?_ | (refine i_cT ?_ ?_; · first | assumption | decide | exact rfl) | (refine i_cF ?_ ?_; · first | assumption | decide | exact rfl) | (refine i_T ?_ ?_; · first | assumption | exact rfl) | (refine i_F ?_ ?_; · first | assumption | exact rfl) | (refine Sts.go ?_ ?_; · first | omega | decide) | refine Stu.go ?_) | refine g_h1 c1 rfl ?_ | refine g_h1 c2 rfl ?_))
  refine h_all (l := lc (leastL a b)) c3 rfl rfl rfl fun c4 => ?_
  refine g_hN c4 rfl ?_
  exact ⟨rfl, g3.put le3⟩

theorem rightL_iff (l : Lim) : (0 ≤ min (min (min (min l.i l.o) l.d) l.n) l.p ∧ leastL l ⟨20000, 20000, l.d, 2000, 40⟩ = l) ↔ rightL l = true := by
  obtain ⟨a, b, c, d, e⟩ := l
  simp only [rightL, leastL, Lim.mk.injEq, decide_eq_true_eq]
  omega

theorem lright_ok (hT : Has T) (l : Lim) (H : AH) : ∃ H', Den.of T 27 [encL l] H = some (.bool (rightL l), H') ∧ Grow H H' := by
  refine gr_of (w27_ok hT ?_)
  unfold w27
  refine s_box rfl rfl ?_
  have c1 := Holds.push H (encL l).cells
  have le1 := Grow.len (.refl H)
  have g1 := Grow.trans (.refl H) (.push H (.cells (encL l).cells))
  generalize H.push (.cells (encL l).cells) = H1 at *
  generalize hb1 : H.obs.length = b1 at *
  refine c_gr (default_ok hT H1) fun H2 e2 => ?_
  replace c1 := c1.grow e2
  have q1 := c1.1
  have g2 := g1.trans e2
  refine a_i ?_
  have q3_c1 := Holds.lt c1
  replace c1 := Holds.pushed c1 (.cells [AV.int .i64 0, AV.int .i64 0, AV.int .i64 0, AV.int .i64 0, AV.int .i64 0])
  have c3 := Holds.push H2 [AV.int .i64 0, AV.int .i64 0, AV.int .i64 0, AV.int .i64 0, AV.int .i64 0]
  have le3 := Grow.len g2
  have g3 := Grow.trans g2 (.push H2 (.cells [AV.int .i64 0, AV.int .i64 0, AV.int .i64 0, AV.int .i64 0, AV.int .i64 0]))
  generalize H2.push (.cells [AV.int .i64 0, AV.int .i64 0, AV.int .i64 0, AV.int .i64 0, AV.int .i64 0]) = H3 at *
  generalize hb3 : H2.obs.length = b3 at *
  refine h_all (l := lc dfltL) c3 rfl rfl rfl fun c4 => ?_
  replace c1 := put_holds (o := .cells (lc dfltL)) c1 c3.1 (by omega)
  have g4 := g3.put (o := .cells (lc dfltL)) le3
  generalize H3.put b3 (.cells (lc dfltL)) = H4 at *
  (repeat (first | (with_reducible first | refine Stp.go ?_ | (refine i_cT ?_ ?_; · first | assumption | decide | exact rfl) | (refine i_cF ?_ ?_; · first | assumption | decide | exact rfl) | (refine i_T ?_ ?_; · first | assumption | exact rfl) | (refine i_F ?_ ?_; · first | assumption | exact rfl) | (refine Sts.go ?_ ?_; · first | omega | decide) | refine Stu.go ?_) | refine g_h1 c1 rfl ?_))
  refine h_one c4 (by decide) rfl fun c5 => ?_
  have e5 : (lc dfltL).set 2 (AV.int .i64 l.d) = lc ⟨20000, 20000, l.d, 2000, 40⟩ := rfl
  rw [e5] at c5 ⊢
  replace c1 := put_holds (o := .cells (lc ⟨20000, 20000, l.d, 2000, 40⟩)) c1 c4.1 (by omega)
  have g5 := g4.put (o := .cells (lc ⟨20000, 20000, l.d, 2000, 40⟩)) le3
  generalize H4.put b3 (.cells (lc ⟨20000, 20000, l.d, 2000, 40⟩)) = H5 at *
  (repeat (first | (with_reducible first | refine Stp.go ?_ | (refine i_cT ?_ ?_; · first | assumption | decide | exact rfl) | (refine i_cF ?_ ?_; · first | assumption | decide | exact rfl) | (refine i_T ?_ ?_; · first | assumption | exact rfl) | (refine i_F ?_ ?_; · first | assumption | exact rfl) | (refine Sts.go ?_ ?_; · first | omega | decide) | refine Stu.go ?_) | refine g_h1 c1 rfl ?_ | refine g_min1 ?_))
  have hr := rightL_iff l
  refine i_c (fun h => ?_) (fun h => ?_)
  · refine g_hN c1 rfl ?_
    refine g_hN c5 rfl ?_
    refine c_gr (least_ok hT l ⟨20000, 20000, l.d, 2000, 40⟩ H5) fun H6 e6 => ?_
    refine g_hN (c1.grow e6) rfl ?_
    refine s_eqL ?_
    refine ⟨same_grow e6 c1.1, ?_, g5.trans e6⟩
    congr 1
    rw [Bool.eq_iff_iff, ← hr]
    simp only [Bool.false_eq_true, if_false, decide_eq_true_eq]
    exact ⟨fun e => ⟨h, e⟩, fun e => e.2⟩
  · refine ⟨same_rfl, ?_, g5⟩
    congr 1
    symm
    rw [Bool.eq_false_iff]
    intro e
    exact h (hr.2 e).1

theorem rlright_ok (hT : Has T) (l : Lim) (H : AH) : ∃ H', Den.of T 28 [encL l] H = some (.bool (rightL l), H') ∧ Grow H H' := by
  refine gr_of (w28_ok hT ?_)
  unfold w28
  refine s_box rfl rfl ?_
  have c1 := Holds.push H (encL l).cells
  have le1 := Grow.len (.refl H)
  have g1 := Grow.trans (.refl H) (.push H (.cells (encL l).cells))
  generalize H.push (.cells (encL l).cells) = H1 at *
  generalize hb1 : H.obs.length = b1 at *
  (repeat' (first | (first | (with_reducible first | refine Stp.go ?_ | (refine i_cT ?_ ?_; · first | assumption | decide | exact rfl) | (refine i_cF ?_ ?_; · first | assumption | decide | exact rfl) | (refine i_T ?_ ?_; · first | assumption | exact rfl) | (refine i_F ?_ ?_; · first | assumption | exact rfl) | (refine Sts.go ?_ ?_; · first | omega | decide) | refine Stu.go ?_) | refine j_i ?_) | refine g_h1 c1 rfl ?_ | (with_reducible first | refine i_c (fun h => ?_) (fun h => ?_) | refine i_i (fun h => ?_) (fun h => ?_))))
  all_goals refine ⟨?_, g1⟩
  all_goals congr 1
  all_goals unfold rightL
  all_goals first | (rw [decide_eq_decide]; constructor <;> intro q <;> omega) | (symm; rw [decide_eq_false_iff_not]; omega)

/-! ### What keeps within limits that may be -/
def keepsL (l : Lim) (is : Bool) : Int := if rightL l = false then 2 else if is = true then 0 else 16

theorem keeps_ok (hT : Has T) (l : Lim) {kk : Nat} {cap : List AV} {is : Bool} (H : AH) (hk : kk < 100000)
    (hf : ∀ H', Grow H H' → ∃ H'', Den.of T kk cap H' = some (.bool is, H'') ∧ Grow H' H'') :
    ∃ H', Den.of T 57 [encL l, .fn (.func kk) [] cap] H = some (.int .i64 (keepsL l is), H') ∧ Grow H H' := by
  refine gr_of (w57_ok hT ?_)
  unfold w57
  refine s_box rfl rfl ?_
  have c1 := Holds.push H (encL l).cells
  have le1 := Grow.len (.refl H)
  have g1 := Grow.trans (.refl H) (.push H (.cells (encL l).cells))
  generalize H.push (.cells (encL l).cells) = H1 at *
  generalize hb1 : H.obs.length = b1 at *
  refine g_hN c1 rfl ?_
  refine c_gb g1 (lright_ok hT l H1) fun H2 g2 => ?_
  (repeat (with_reducible first | refine Stp.go ?_ | (refine i_cT ?_ ?_; · first | assumption | decide | exact rfl) | (refine i_cF ?_ ?_; · first | assumption | decide | exact rfl) | (refine i_T ?_ ?_; · first | assumption | exact rfl) | (refine i_F ?_ ?_; · first | assumption | exact rfl) | (refine Sts.go ?_ ?_; · first | omega | decide) | refine Stu.go ?_))
  refine i_i (fun h => ?_) (fun h => ?_)
  rotate_left
  · exact ⟨by rw [keepsL, if_pos h], g2⟩
  refine v_c hk (l := cap) (by simp) ?_
  refine c_gb g2 (hf H2 g2) fun H3 g3 => ?_
  (repeat (with_reducible first | refine Stp.go ?_ | (refine i_cT ?_ ?_; · first | assumption | decide | exact rfl) | (refine i_cF ?_ ?_; · first | assumption | decide | exact rfl) | (refine i_T ?_ ?_; · first | assumption | exact rfl) | (refine i_F ?_ ?_; · first | assumption | exact rfl) | (refine Sts.go ?_ ?_; · first | omega | decide) | refine Stu.go ?_))
  refine i_i (fun h3 => ?_) (fun h3 => ?_)
  · exact ⟨by rw [keepsL, if_neg (by simp [h]), if_pos h3], g3⟩
  · exact ⟨by rw [keepsL, if_neg (by simp [h]), if_neg (by simp [h3])], g3⟩

structure LenV (v : AV) (n : Nat) : Prop where
  df : v.def? = true
  cells : v.cells = [v]
  cell : v.isCell = true
  len : ∀ H, aLen .row v H = some (.int .i64 n)
theorem LenV.sl (t s : Nat) (xs : List AV) : LenV (.sl t s xs) xs.length := ⟨rfl, rfl, rfl, fun _ => rfl⟩
theorem LenV.slr (b o n s : Nat) : LenV (.slr b o n s) n := ⟨rfl, rfl, rfl, fun _ => rfl⟩

theorem input_ok (hT : Has T) (l : Lim) {v : AV} {n : Nat} (hv : LenV v n) (H : AH) :
    ∃ H', Den.of T 31 [encL l, v] H = some (.int .i64 (keepsL l (decide ((n : Int) ≤ l.i))), H') ∧ Grow H H' := by
  refine gr_of (w31_ok hT ?_)
  unfold w31
  refine s_box rfl rfl ?_
  have c1 := Holds.push H (encL l).cells
  have le1 := Grow.len (.refl H)
  have g1 := Grow.trans (.refl H) (.push H (.cells (encL l).cells))
  generalize H.push (.cells (encL l).cells) = H1 at *
  generalize hb1 : H.obs.length = b1 at *
  refine s_box hv.df (by rw [hv.cells]; simp [hv.cell]) ?_
  rw [hv.cells]
  have q2_c1 := Holds.lt c1
  replace c1 := Holds.pushed c1 (.cells [v])
  have c2 := Holds.push H1 [v]
  have le2 := Grow.len g1
  have g2 := Grow.trans g1 (.push H1 (.cells [v]))
  generalize H1.push (.cells [v]) = H2 at *
  generalize hb2 : H1.obs.length = b2 at *
  refine g_hN c1 rfl ?_
  refine s_fn2 ?_
  refine c_gb g2 (keeps_ok hT l H2 (by decide) fun H' gg => gr_of (w58_ok hT ?_)) fun H3 g3 => ⟨rfl, g3⟩
  unfold w58
  (repeat (first | (with_reducible first | refine Stp.go ?_ | (refine i_cT ?_ ?_; · first | assumption | decide | exact rfl) | (refine i_cF ?_ ?_; · first | assumption | decide | exact rfl) | (refine i_T ?_ ?_; · first | assumption | exact rfl) | (refine i_F ?_ ?_; · first | assumption | exact rfl) | (refine Sts.go ?_ ?_; · first | omega | decide) | refine Stu.go ?_) | refine g_h1 (c1.grow gg) rfl ?_ | refine g_h1 (c2.grow gg) rfl ?_ | refine gP_i (hv.len _) ?_))
  exact ⟨rfl, .refl _⟩
theorem output_ok (hT : Has T) (l : Lim) {v : AV} {n : Nat} (hv : LenV v n) (H : AH) :
    ∃ H', Den.of T 33 [encL l, v] H = some (.int .i64 (keepsL l (decide ((n : Int) ≤ l.o))), H') ∧ Grow H H' := by
  refine gr_of (w33_ok hT ?_)
  unfold w33
  refine s_box rfl rfl ?_
  have c1 := Holds.push H (encL l).cells
  have le1 := Grow.len (.refl H)
  have g1 := Grow.trans (.refl H) (.push H (.cells (encL l).cells))
  generalize H.push (.cells (encL l).cells) = H1 at *
  generalize hb1 : H.obs.length = b1 at *
  refine s_box hv.df (by rw [hv.cells]; simp [hv.cell]) ?_
  rw [hv.cells]
  have q2_c1 := Holds.lt c1
  replace c1 := Holds.pushed c1 (.cells [v])
  have c2 := Holds.push H1 [v]
  have le2 := Grow.len g1
  have g2 := Grow.trans g1 (.push H1 (.cells [v]))
  generalize H1.push (.cells [v]) = H2 at *
  generalize hb2 : H1.obs.length = b2 at *
  refine g_hN c1 rfl ?_
  refine s_fn2 ?_
  refine c_gb g2 (keeps_ok hT l H2 (by decide) fun H' gg => gr_of (w59_ok hT ?_)) fun H3 g3 => ⟨rfl, g3⟩
  unfold w59
  (repeat (first | (with_reducible first | refine Stp.go ?_ | (refine i_cT ?_ ?_; · first | assumption | decide | exact rfl) | (refine i_cF ?_ ?_; · first | assumption | decide | exact rfl) | (refine i_T ?_ ?_; · first | assumption | exact rfl) | (refine i_F ?_ ?_; · first | assumption | exact rfl) | (refine Sts.go ?_ ?_; · first | omega | decide) | refine Stu.go ?_) | refine g_h1 (c1.grow gg) rfl ?_ | refine g_h1 (c2.grow gg) rfl ?_ | refine gP_i (hv.len _) ?_))
  exact ⟨rfl, .refl _⟩
theorem bytes_ok (hT : Has T) (l : Lim) (n most : Int) (H : AH) :
    ∃ H', Den.of T 32 [encL l, .int .i64 n, .int .i64 most] H = some (.int .i64 (keepsL l (decide (n ≤ most))), H') ∧ Grow H H' := by
  refine gr_of (w32_ok hT ?_)
  unfold w32
  refine s_box rfl rfl ?_
  have c1 := Holds.push H (encL l).cells
  have le1 := Grow.len (.refl H)
  have g1 := Grow.trans (.refl H) (.push H (.cells (encL l).cells))
  generalize H.push (.cells (encL l).cells) = H1 at *
  generalize hb1 : H.obs.length = b1 at *
  refine g_hN c1 rfl ?_
  refine c_gb g1 (rlright_ok hT l H1) fun H2 g2 => ?_
  (repeat (with_reducible first | refine Stp.go ?_ | (refine i_cT ?_ ?_; · first | assumption | decide | exact rfl) | (refine i_cF ?_ ?_; · first | assumption | decide | exact rfl) | (refine i_T ?_ ?_; · first | assumption | exact rfl) | (refine i_F ?_ ?_; · first | assumption | exact rfl) | (refine Sts.go ?_ ?_; · first | omega | decide) | refine Stu.go ?_))
  refine i_i (fun h => ?_) (fun h => ?_)
  rotate_left
  · exact ⟨by rw [keepsL, if_pos h], g2⟩
  (repeat (with_reducible first | refine Stp.go ?_ | (refine i_cT ?_ ?_; · first | assumption | decide | exact rfl) | (refine i_cF ?_ ?_; · first | assumption | decide | exact rfl) | (refine i_T ?_ ?_; · first | assumption | exact rfl) | (refine i_F ?_ ?_; · first | assumption | exact rfl) | (refine Sts.go ?_ ?_; · first | omega | decide) | refine Stu.go ?_))
  refine i_c (fun h3 => ?_) (fun h3 => ?_)
  · exact ⟨by rw [keepsL, if_neg (by simp [h]), if_neg (by simp; omega)], g2⟩
  · exact ⟨by rw [keepsL, if_neg (by simp [h]), if_pos (by simp; omega)], g2⟩

theorem within_ok (hT : Has T) (a b : Lim) (H : AH) : ∃ H', Den.of T 40 [encL a, encL b] H = some (.bool (decide (leastL a b = a)), H') ∧ Grow H H' := by
  refine gr_of (w40_ok hT ?_)
  unfold w40
  refine s_box rfl rfl ?_
  have c1 := Holds.push H (encL a).cells
  have le1 := Grow.len (.refl H)
  have g1 := Grow.trans (.refl H) (.push H (.cells (encL a).cells))
  generalize H.push (.cells (encL a).cells) = H1 at *
  generalize hb1 : H.obs.length = b1 at *
  refine s_box rfl rfl ?_
  have q2_c1 := Holds.lt c1
  replace c1 := Holds.pushed c1 (.cells (encL b).cells)
  have c2 := Holds.push H1 (encL b).cells
  have le2 := Grow.len g1
  have g2 := Grow.trans g1 (.push H1 (.cells (encL b).cells))
  generalize H1.push (.cells (encL b).cells) = H2 at *
  generalize hb2 : H1.obs.length = b2 at *
  refine g_hN c1 rfl ?_
  refine g_hN c2 rfl ?_
  refine c_gr (least_ok hT a b H2) fun H3 e3 => ?_
  refine g_hN (c1.grow e3) rfl ?_
  refine s_eqL ?_
  exact ⟨same_grow e3 c1.1, rfl, g2.trans e3⟩

end Go.SV
