/- Contracts: the law of the lesser limits. Own text of the prover; nothing is assumed. -/
import Derived.Test.YtkbkhdgjdikjiaaDoorCr
set_option maxRecDepth 100000
namespace Go.SV

variable {T : Nat → Option Entry}

def ok3 (l : Lim) (n : Nat) (gs : List (List Nd)) : List AV := [.bool (keepsL l (decide ((n : Int) ≤ l.i)) == 0), .bool (keepsL l (decide ((n : Int) ≤ l.o)) == 0), .bool (graphsL l gs == 0)]

theorem ok3_ok (hT : Has T) (hK : Knows T) (l : Lim) {vb vg : AV} {n : Nat} {gs : List (List Nd)} (hb : LenV vb n) (hv : RowOf 1 IsGv vg gs) (hl : gs.length ≤ 100) (hg : ∀ g ∈ gs, OkG g) {H : AH} (hp : 0 < H.toks.length) {bB bG : Nat} (cB : Holds H bB [vb]) (cG : Holds H bG [vg]) :
    ∃ H', Den.of T 38 [encL l, .ptr bB 0, .ptr bG 0] H = some (.agg (ok3 l n gs), H') ∧ Grow H H' := by
  refine gr_of (w38_ok hT ?_)
  unfold w38
  refine s_box rfl rfl ?_
  have q3_cB := Holds.lt cB
  have q3_cG := Holds.lt cG
  replace cB := Holds.pushed cB (.cells (encL l).cells)
  replace cG := Holds.pushed cG (.cells (encL l).cells)
  have c3 := Holds.push H (encL l).cells
  have le3 := Grow.len (.refl H)
  have g3 := Grow.trans (.refl H) (.push H (.cells (encL l).cells))
  generalize H.push (.cells (encL l).cells) = H3 at *
  generalize hb3 : H.obs.length = b3 at *
  refine a_i ?_
  have q4_c3 := Holds.lt c3
  have q4_cB := Holds.lt cB
  have q4_cG := Holds.lt cG
  replace c3 := Holds.pushed c3 (.cells [.bool false, .bool false, .bool false])
  replace cB := Holds.pushed cB (.cells [.bool false, .bool false, .bool false])
  replace cG := Holds.pushed cG (.cells [.bool false, .bool false, .bool false])
  have c4 := Holds.push H3 [.bool false, .bool false, .bool false]
  have le4 := Grow.len g3
  have g4 := Grow.trans g3 (.push H3 (.cells [.bool false, .bool false, .bool false]))
  generalize H3.push (.cells [.bool false, .bool false, .bool false]) = H4 at *
  generalize hb4 : H3.obs.length = b4 at *
  refine g_hN c3 rfl ?_
  refine g_h1 cB rfl ?_
  refine c_gr (input_ok hT l hb H4) fun H5 e5 => ?_
  refine Stp.go ?_
  refine g_hN (c3.grow e5) rfl ?_
  refine g_h1 (cB.grow e5) rfl ?_
  refine c_gb e5 (output_ok hT l hb H5) fun H6 e6 => ?_
  refine Stp.go ?_
  refine g_hN (c3.grow e6) rfl ?_
  refine g_h1 (cG.grow e6) rfl ?_
  refine c_gb e6 (graphs_ok hT hK l hv hl hg H6 ((g4.trans e6).pos hp)) fun H7 e7 => ?_
  refine Stp.go ?_
  refine gP_i (v := .agg (ok3 l n gs)) rfl ?_
  refine h_all (l := ok3 l n gs) (c4.grow e7) rfl rfl rfl fun c8 => ?_
  refine ⟨(c3.grow e5).same c3, (cB.grow e5).same cB, (c3.grow e5).same c3, (cG.grow e5).same cG, (c3.grow e6).same (c3.grow e5), (cG.grow e6).same (cG.grow e5), ?_⟩
  refine g_hN c8 rfl ?_
  exact ⟨rfl, (g4.trans e7).put le4⟩

/-! ### The lesser ones -/
theorem keepsL_b {l : Lim} (h : rightL l = true) (b : Bool) : (keepsL l b == 0) = b := by
  rw [keepsL, if_neg (by simp [h])]
  cases b <;> rfl
theorem graphsL_b {l : Lim} (h : rightL l = true) (gs : List (List Nd)) : (graphsL l gs == 0) = (gs.all rightG && decide ((gs.length : Int) ≤ l.d ∧ (nodesU gs : Int) ≤ l.n ∧ (deepU gs : Int) ≤ l.p)) := by
  rw [graphsL, h, Bool.true_and]
  by_cases hw : (gs.any fun g => !rightG g) = true
  · rw [if_pos hw]
    have : gs.all rightG = false := by
      rw [Bool.eq_false_iff]
      intro ha
      rw [List.any_eq_true] at hw
      obtain ⟨g, hg, hw⟩ := hw
      rw [List.all_eq_true.1 ha g hg] at hw
      simp at hw
    rw [this]; rfl
  · rw [if_neg hw, keepsL_b h]
    have : gs.all rightG = true := by
      rw [List.all_eq_true]
      intro g hg
      cases hc : rightG g with
      | true => rfl
      | false => exact absurd (List.any_eq_true.2 ⟨g, hg, by rw [hc]; rfl⟩) hw
    rw [this, Bool.true_and]
    rw [decide_eq_decide]
    obtain ⟨i, o, d, n, p⟩ := l
    simp only [leastL, fitL, Lim.mk.injEq]
    omega
theorem leastL_i (x y : Lim) : (leastL x y).i = min x.i y.i := rfl
theorem leastL_o (x y : Lim) : (leastL x y).o = min x.o y.o := rfl
theorem leastL_d (x y : Lim) : (leastL x y).d = min x.d y.d := rfl
theorem leastL_n (x y : Lim) : (leastL x y).n = min x.n y.n := rfl
theorem leastL_p (x y : Lim) : (leastL x y).p = min x.p y.p := rfl
theorem least_right {x y : Lim} (hx : rightL x = true) (hy : rightL y = true) : rightL (leastL x y) = true := by
  simp only [rightL, decide_eq_true_eq] at hx hy ⊢
  simp only [leastL_i, leastL_o, leastL_d, leastL_n, leastL_p]
  omega
theorem least_in (x y : Lim) : leastL (leastL x y) x = leastL x y ∧ leastL (leastL x y) y = leastL x y ∧ leastL y x = leastL x y := by
  obtain ⟨a1, a2, a3, a4, a5⟩ := x
  obtain ⟨b1, b2, b3, b4, b5⟩ := y
  simp only [leastL, Lim.mk.injEq]
  omega
theorem ok3_and {x y : Lim} (hx : rightL x = true) (hy : rightL y = true) (n : Nat) (gs : List (List Nd)) :
    (keepsL (leastL x y) (decide ((n : Int) ≤ (leastL x y).i)) == 0) = ((keepsL x (decide ((n : Int) ≤ x.i)) == 0) && (keepsL y (decide ((n : Int) ≤ y.i)) == 0)) ∧
    (keepsL (leastL x y) (decide ((n : Int) ≤ (leastL x y).o)) == 0) = ((keepsL x (decide ((n : Int) ≤ x.o)) == 0) && (keepsL y (decide ((n : Int) ≤ y.o)) == 0)) ∧
    (graphsL (leastL x y) gs == 0) = ((graphsL x gs == 0) && (graphsL y gs == 0)) := by
  have hz := least_right hx hy
  rw [keepsL_b hz, keepsL_b hx, keepsL_b hy, keepsL_b hz, keepsL_b hx, keepsL_b hy, graphsL_b hz, graphsL_b hx, graphsL_b hy]
  refine ⟨?_, ?_, ?_⟩
  · rw [Bool.eq_iff_iff]; simp only [Bool.and_eq_true, decide_eq_true_eq]; simp only [leastL_i, leastL_o, leastL_d, leastL_n, leastL_p]; omega
  · rw [Bool.eq_iff_iff]; simp only [Bool.and_eq_true, decide_eq_true_eq]; simp only [leastL_i, leastL_o, leastL_d, leastL_n, leastL_p]; omega
  · rw [Bool.eq_iff_iff]; simp only [Bool.and_eq_true, decide_eq_true_eq]; simp only [leastL_i, leastL_o, leastL_d, leastL_n, leastL_p]
    constructor
    · rintro ⟨h1, h2⟩; exact ⟨⟨h1, by omega⟩, ⟨h1, by omega⟩⟩
    · rintro ⟨⟨h1, h2⟩, ⟨_, h3⟩⟩; exact ⟨h1, by omega⟩

/-- A step of the walk along three answers. -/
theorem three1 {c13 c14 c15 : Nat} {H : AH} {P3 Q3 R3 : List AV} (h13 : Holds H c13 P3) (h14 : Holds H c14 Q3) (h15 : Holds H c15 R3) {p q r : Bool} (e : r = (p && q)) {i : Nat} (hi : i < 3)
    (hp : P3[i]? = some (.bool p)) (hq : Q3[i]? = some (.bool q)) (hr : R3[i]? = some (.bool r)) {A : AV → AH → Prop} (hj : A (.bool false) H) :
    gP (aIdxAddrArr 3 1 (.ptr c15 0) (.int .i64 i)) fun x67 => gP (aLoad none x67 H) fun x68 => gP (aIdxAddrArr 3 1 (.ptr c13 0) (.int .i64 i)) fun x70 => gP (aLoad none x70 H) fun x71 =>
      dP x71 true (gP (aIdxAddrArr 3 1 (.ptr c14 0) (.int .i64 i)) fun x74 => gP (aLoad none x74 H) fun x75 => gP (aEqv .bool true x68 x75) fun x77_1 => A x77_1 H) (gP (aEqv .bool true x68 (.bool false)) fun x77_2 => A x77_2 H) := by
  refine g_arr (n := 3) (by omega) ?_
  refine g_h1 h15 (by simpa using hr) ?_
  refine g_arr (n := 3) (by omega) ?_
  refine g_h1 h13 (by simpa using hp) ?_
  refine d_t ?_
  refine i_i (fun h => ?_) (fun h => ?_)
  · refine g_arr (n := 3) (by omega) ?_
    refine g_h1 h14 (by simpa using hq) ?_
    refine g_eqb ?_
    have : (if true = true then !(r == q) else (r == q)) = false := by rw [e, h]; cases q <;> rfl
    rw [this]; exact hj
  · refine g_eqb ?_
    have : (if true = true then !(r == false) else (r == false)) = false := by rw [e, h]; rfl
    rw [this]; exact hj

theorem three {c13 c14 c15 : Nat} {H : AH} {x y : Lim} {n : Nat} {gs : List (List Nd)} (hx : rightL x = true) (hy : rightL y = true) (h13 : Holds H c13 (ok3 x n gs)) (h14 : Holds H c14 (ok3 y n gs)) (h15 : Holds H c15 (ok3 (leastL x y) n gs))
    {i : Nat} (hi : i < 3) {A : AV → AH → Prop} (hj : A (.bool false) H) :
    gP (aIdxAddrArr 3 1 (.ptr c15 0) (.int .i64 i)) fun x67 => gP (aLoad none x67 H) fun x68 => gP (aIdxAddrArr 3 1 (.ptr c13 0) (.int .i64 i)) fun x70 => gP (aLoad none x70 H) fun x71 =>
      dP x71 true (gP (aIdxAddrArr 3 1 (.ptr c14 0) (.int .i64 i)) fun x74 => gP (aLoad none x74 H) fun x75 => gP (aEqv .bool true x68 x75) fun x77_1 => A x77_1 H) (gP (aEqv .bool true x68 (.bool false)) fun x77_2 => A x77_2 H) := by
  obtain ⟨e0, e1, e2⟩ := ok3_and hx hy n gs
  rcases (show i = 0 ∨ i = 1 ∨ i = 2 by omega) with rfl | rfl | rfl
  · exact three1 h13 h14 h15 e0 hi rfl rfl rfl hj
  · exact three1 h13 h14 h15 e1 hi rfl rfl rfl hj
  · exact three1 h13 h14 h15 e2 hi rfl rfl rfl hj

def twoC (a b : Lim) (v : AV) (n : Int) : List AV := li5 a.i a.o a.d a.n a.p ++ (li5 b.i b.o b.d b.n b.p ++ [v, .int .u16 n])

theorem lawLeast (hT : Has T) (hK : Knows T) (a b : Lim) {v : AV} {gs : List (List Nd)} {n : Int} (h0 : 0 ≤ n) (hn : n < 65536) (hv : RowOf 1 IsGv v gs) (hl : gs.length < 2 ^ 63) (hgl : ∀ g ∈ gs, g.length < 2 ^ 63) (H : AH) (hp : 0 < H.toks.length) :
    ∃ H', Den.of T 8 [.agg (twoC a b v n)] H = some (.bool true, H') ∧ Grow H H' := by
  refine gr_of (w8_ok hT ?_)
  unfold w8
  have hc2 : (twoC a b v n).all AV.isCell = true := by simp only [twoC, li5, List.cons_append, List.nil_append, List.all_cons, List.all_nil, hv.cell, Bool.and_true, Bool.true_and]; rfl
  refine s_box (by simp [AV.def?, hc2]) hc2 ?_
  have c1 := Holds.push H (AV.agg (twoC a b v n)).cells
  have le1 := Grow.len (.refl H)
  have g1 := Grow.trans (.refl H) (.push H (.cells (AV.agg (twoC a b v n)).cells))
  generalize H.push (.cells (AV.agg (twoC a b v n)).cells) = H1 at *
  generalize hb1 : H.obs.length = b1 at *
  refine c_gr (alive18_ok hT hK H1 (g1.pos hp)) fun H2 e2 => ?_
  replace c1 := Holds.grow c1 e2
  have g2 := g1.trans e2
  refine gP_i rfl ?_
  refine i_F rfl ?_
  refine a_i ?_
  have q3_c1 := Holds.lt c1
  replace c1 := Holds.pushed c1 (.cells [AV.int .i64 0, AV.int .i64 0, AV.int .i64 0, AV.int .i64 0, AV.int .i64 0])
  have c3 := Holds.push H2 [AV.int .i64 0, AV.int .i64 0, AV.int .i64 0, AV.int .i64 0, AV.int .i64 0]
  have le3 := Grow.len g2
  have g3 := Grow.trans g2 (.push H2 (.cells [AV.int .i64 0, AV.int .i64 0, AV.int .i64 0, AV.int .i64 0, AV.int .i64 0]))
  generalize H2.push (.cells [AV.int .i64 0, AV.int .i64 0, AV.int .i64 0, AV.int .i64 0, AV.int .i64 0]) = H3 at *
  generalize hb3 : H2.obs.length = b3 at *
  refine a_i ?_
  have q4_c1 := Holds.lt c1
  have q4_c3 := Holds.lt c3
  replace c1 := Holds.pushed c1 (.cells [AV.int .i64 0, AV.int .i64 0, AV.int .i64 0, AV.int .i64 0, AV.int .i64 0])
  replace c3 := Holds.pushed c3 (.cells [AV.int .i64 0, AV.int .i64 0, AV.int .i64 0, AV.int .i64 0, AV.int .i64 0])
  have c4 := Holds.push H3 [AV.int .i64 0, AV.int .i64 0, AV.int .i64 0, AV.int .i64 0, AV.int .i64 0]
  have le4 := Grow.len g3
  have g4 := Grow.trans g3 (.push H3 (.cells [AV.int .i64 0, AV.int .i64 0, AV.int .i64 0, AV.int .i64 0, AV.int .i64 0]))
  generalize H3.push (.cells [AV.int .i64 0, AV.int .i64 0, AV.int .i64 0, AV.int .i64 0, AV.int .i64 0]) = H4 at *
  generalize hb4 : H3.obs.length = b4 at *
  refine Stp.go ?_
  refine g_h5 c1 (by simp [AV.cells, twoC]) (d := lc a) rfl ?_
  refine Stp.go ?_
  refine g_h5 c1 (by simp [AV.cells, twoC]) (d := lc b) rfl ?_
  refine Stp.go ?_
  refine g_h1 c1 rfl ?_
  refine Stp.go ?_
  refine g_h1 c1 rfl ?_
  have k4 := c1
  refine h_all (l := lc a) c3 rfl rfl rfl fun cc => ?_
  replace c1 := put_holds (o := .cells (lc a)) c1 c3.1 (by omega)
  replace c4 := put_holds (o := .cells (lc a)) c4 c3.1 (by omega)
  have g5 := Grow.put (o := .cells (lc a)) g4 le3
  replace c3 := cc
  clear cc
  generalize H4.put b3 (.cells (lc a)) = H5 at *
  have k5 := c1
  refine h_all (l := lc b) c4 rfl rfl rfl fun cc => ?_
  replace c1 := put_holds (o := .cells (lc b)) c1 c4.1 (by omega)
  replace c3 := put_holds (o := .cells (lc b)) c3 c4.1 (by omega)
  have g6 := Grow.put (o := .cells (lc b)) g5 le4
  replace c4 := cc
  clear cc
  generalize H5.put b4 (.cells (lc b)) = H6 at *
  refine ⟨k5.same k4, k5.same k4, k5.same k4, c1.same k5, c1.same k5, ?_⟩
  clear k4 k5
  refine a_i ?_
  have q7_c1 := Holds.lt c1
  have q7_c3 := Holds.lt c3
  have q7_c4 := Holds.lt c4
  replace c1 := Holds.pushed c1 (.cells [AV.int .i64 0, AV.int .i64 0, AV.int .i64 0, AV.int .i64 0, AV.int .i64 0])
  replace c3 := Holds.pushed c3 (.cells [AV.int .i64 0, AV.int .i64 0, AV.int .i64 0, AV.int .i64 0, AV.int .i64 0])
  replace c4 := Holds.pushed c4 (.cells [AV.int .i64 0, AV.int .i64 0, AV.int .i64 0, AV.int .i64 0, AV.int .i64 0])
  have c7 := Holds.push H6 [AV.int .i64 0, AV.int .i64 0, AV.int .i64 0, AV.int .i64 0, AV.int .i64 0]
  have le7 := Grow.len g6
  have g7 := Grow.trans g6 (.push H6 (.cells [AV.int .i64 0, AV.int .i64 0, AV.int .i64 0, AV.int .i64 0, AV.int .i64 0]))
  generalize H6.push (.cells [AV.int .i64 0, AV.int .i64 0, AV.int .i64 0, AV.int .i64 0, AV.int .i64 0]) = H7 at *
  generalize hb7 : H6.obs.length = b7 at *
  refine a_i ?_
  have q8_c1 := Holds.lt c1
  have q8_c3 := Holds.lt c3
  have q8_c4 := Holds.lt c4
  have q8_c7 := Holds.lt c7
  replace c1 := Holds.pushed c1 (.cells [AV.int .i64 0, AV.int .i64 0, AV.int .i64 0, AV.int .i64 0, AV.int .i64 0])
  replace c3 := Holds.pushed c3 (.cells [AV.int .i64 0, AV.int .i64 0, AV.int .i64 0, AV.int .i64 0, AV.int .i64 0])
  replace c4 := Holds.pushed c4 (.cells [AV.int .i64 0, AV.int .i64 0, AV.int .i64 0, AV.int .i64 0, AV.int .i64 0])
  replace c7 := Holds.pushed c7 (.cells [AV.int .i64 0, AV.int .i64 0, AV.int .i64 0, AV.int .i64 0, AV.int .i64 0])
  have c8 := Holds.push H7 [AV.int .i64 0, AV.int .i64 0, AV.int .i64 0, AV.int .i64 0, AV.int .i64 0]
  have le8 := Grow.len g7
  have g8 := Grow.trans g7 (.push H7 (.cells [AV.int .i64 0, AV.int .i64 0, AV.int .i64 0, AV.int .i64 0, AV.int .i64 0]))
  generalize H7.push (.cells [AV.int .i64 0, AV.int .i64 0, AV.int .i64 0, AV.int .i64 0, AV.int .i64 0]) = H8 at *
  generalize hb8 : H7.obs.length = b8 at *
  refine g_hN c3 rfl ?_
  refine g_hN c4 rfl ?_
  have k8 := c4
  refine h_all (l := lc a) c7 rfl rfl rfl fun cc => ?_
  replace c4 := put_holds (o := .cells (lc a)) c4 c7.1 (by omega)
  replace c8 := put_holds (o := .cells (lc a)) c8 c7.1 (by omega)
  have g9 := Grow.put (o := .cells (lc a)) g8 le7
  replace c7 := cc
  clear cc
  generalize H8.put b7 (.cells (lc a)) = H9 at *
  have k9 := c4
  refine h_all (l := lc b) c8 rfl rfl rfl fun cc => ?_
  replace c7 := put_holds (o := .cells (lc b)) c7 c8.1 (by omega)
  have g10 := Grow.put (o := .cells (lc b)) g9 le8
  replace c8 := cc
  clear cc
  generalize H9.put b8 (.cells (lc b)) = H10 at *
  refine ⟨k9.same k8, ?_⟩
  clear k8 k9 c1 c3 c4
  refine j1 (fun x H' => x = .bool (heavyR gs || decide (n > 30000) || !rightL a || !rightL b) ∧ Grow H10 H') ?_ ?_
  rotate_left
  · intro j hj
    refine c_gr (heavyR_ok hT hv hl hgl H10) fun H11 e11 => ?_
    refine d_f ?_
    refine i_i (fun h => ?_) (fun h => ?_)
    · exact hj _ _ ⟨by rw [h]; rfl, e11⟩
    refine g_cv64 (by omega) ?_
    refine Stp.go ?_
    refine d_f ?_
    refine i_c (fun h2 => ?_) (fun h2 => ?_)
    · exact hj _ _ ⟨by rw [h, decide_eq_true h2]; rfl, e11⟩
    refine g_hN (c7.grow e11) rfl ?_
    refine c_gb e11 (lright_ok hT a H11) fun H12 e12 => ?_
    refine Stp.go ?_
    refine d_f ?_
    refine i_i (fun h3 => ?_) (fun h3 => ?_)
    · exact hj _ _ ⟨by rw [h, decide_eq_false h2, h3]; rfl, e12⟩
    refine g_hN (c8.grow e12) rfl ?_
    refine c_gb e12 (lright_ok hT b H12) fun H13 e13 => ?_
    refine Stp.go ?_
    exact hj _ _ ⟨by rw [h, decide_eq_false h2, h3]; simp, e13⟩
  rintro _ H11 ⟨rfl, e11⟩
  have g11 := g10.trans e11
  refine i_i (fun h => ?_) (fun h => ?_)
  · exact ⟨rfl, g11⟩
  simp only [Bool.or_eq_false_iff, Bool.not_eq_false', decide_eq_false_iff_not] at h
  obtain ⟨⟨⟨hh, hn3⟩, ha⟩, hb⟩ := h
  obtain ⟨_, hg, hl5⟩ := lightR hh
  replace c7 := Holds.grow c7 e11
  replace c8 := Holds.grow c8 e11
  refine a_i ?_
  have q12_c7 := Holds.lt c7
  have q12_c8 := Holds.lt c8
  replace c7 := Holds.pushed c7 (.cells [.nils])
  replace c8 := Holds.pushed c8 (.cells [.nils])
  have c12 := Holds.push H11 [.nils]
  have le12 := Grow.len g11
  have g12 := Grow.trans g11 (.push H11 (.cells [.nils]))
  generalize H11.push (.cells [.nils]) = H12 at *
  generalize hb12 : H11.obs.length = b12 at *
  refine a_i ?_
  have q13_c7 := Holds.lt c7
  have q13_c8 := Holds.lt c8
  have q13_c12 := Holds.lt c12
  replace c7 := Holds.pushed c7 (.cells [AV.int .i64 0, AV.int .i64 0, AV.int .i64 0, AV.int .i64 0, AV.int .i64 0])
  replace c8 := Holds.pushed c8 (.cells [AV.int .i64 0, AV.int .i64 0, AV.int .i64 0, AV.int .i64 0, AV.int .i64 0])
  replace c12 := Holds.pushed c12 (.cells [AV.int .i64 0, AV.int .i64 0, AV.int .i64 0, AV.int .i64 0, AV.int .i64 0])
  have c13 := Holds.push H12 [AV.int .i64 0, AV.int .i64 0, AV.int .i64 0, AV.int .i64 0, AV.int .i64 0]
  have le13 := Grow.len g12
  have g13 := Grow.trans g12 (.push H12 (.cells [AV.int .i64 0, AV.int .i64 0, AV.int .i64 0, AV.int .i64 0, AV.int .i64 0]))
  generalize H12.push (.cells [AV.int .i64 0, AV.int .i64 0, AV.int .i64 0, AV.int .i64 0, AV.int .i64 0]) = H13 at *
  generalize hb13 : H12.obs.length = b13 at *
  refine a_i ?_
  have q14_c7 := Holds.lt c7
  have q14_c8 := Holds.lt c8
  have q14_c12 := Holds.lt c12
  have q14_c13 := Holds.lt c13
  replace c7 := Holds.pushed c7 (.cells [.nils])
  replace c8 := Holds.pushed c8 (.cells [.nils])
  replace c12 := Holds.pushed c12 (.cells [.nils])
  replace c13 := Holds.pushed c13 (.cells [.nils])
  have c14 := Holds.push H13 [.nils]
  have le14 := Grow.len g13
  have g14 := Grow.trans g13 (.push H13 (.cells [.nils]))
  generalize H13.push (.cells [.nils]) = H14 at *
  generalize hb14 : H13.obs.length = b14 at *
  have k14 := c7
  have m14 := c8
  refine c_i (theirsR_ok hT hv (memR hg (by omega)) H14 (g14.pos hp)) ?_
  rintro vt H15 ⟨⟨xs, tok, f2⟩, e15⟩
  have hvt := tok.row f2
  have g15 := g14.trans e15
  replace c7 := Holds.grow c7 e15
  replace c8 := Holds.grow c8 e15
  replace c12 := Holds.grow c12 e15
  replace c13 := Holds.grow c13 e15
  replace c14 := Holds.grow c14 e15
  refine g_hN c7 rfl ?_
  refine g_hN c8 rfl ?_
  have s1 := c7.same (n := some 5) (o := 0) k14
  have s2 := c8.same (n := some 5) (o := 0) m14
  have p1 := c12.kept
  have p2 := c13.kept
  have p3 := c14.kept
  refine c_gr (least_ok hT a b H15) fun H16 e16 => ?_
  have g16 := g15.trans e16
  replace c7 := Holds.grow c7 e16
  replace c8 := Holds.grow c8 e16
  replace c12 := Holds.grow c12 e16
  replace c13 := Holds.grow c13 e16
  replace c14 := Holds.grow c14 e16
  have p4 := c12.kept
  have p5 := c13.kept
  have p6 := c14.kept
  refine sP_i (v := .sl 0 1 (List.replicate n.toNat (.int .u8 0))) (H := H16) ?_ ?_
  · simp only [aop, Opd.ev]
    rw [if_pos ⟨h0, by omega, by omega, by omega, rfl, rfl⟩]
    rfl
  have hlen := LenV.sl 0 1 (List.replicate n.toNat (AV.int .u8 0))
  rw [List.length_replicate] at hlen
  generalize AV.sl 0 1 (List.replicate n.toNat (AV.int .u8 0)) = vb at *
  refine h_one c12 (by simp) hvt.cell fun cc => ?_
  replace c7 := put_holds (o := .cells ([AV.nils].set 0 vt)) c7 c12.1 (by omega)
  replace c8 := put_holds (o := .cells ([AV.nils].set 0 vt)) c8 c12.1 (by omega)
  replace c13 := put_holds (o := .cells ([AV.nils].set 0 vt)) c13 c12.1 (by omega)
  replace c14 := put_holds (o := .cells ([AV.nils].set 0 vt)) c14 c12.1 (by omega)
  have g17 := g16.put (o := .cells ([AV.nils].set 0 vt)) le12
  replace c12 : Holds _ b12 [vt] := cc
  clear cc
  generalize H16.put b12 (.cells ([AV.nils].set 0 vt)) = H17 at *
  refine h_all (l := lc (leastL a b)) c13 rfl rfl rfl fun cc => ?_
  replace c7 := put_holds (o := .cells (lc (leastL a b))) c7 c13.1 (by omega)
  replace c8 := put_holds (o := .cells (lc (leastL a b))) c8 c13.1 (by omega)
  replace c12 := put_holds (o := .cells (lc (leastL a b))) c12 c13.1 (by omega)
  replace c14 := put_holds (o := .cells (lc (leastL a b))) c14 c13.1 (by omega)
  have g18 := Grow.put (o := .cells (lc (leastL a b))) g17 le13
  replace c13 := cc
  clear cc
  generalize H17.put b13 (.cells (lc (leastL a b))) = H18 at *
  refine h_one c14 (by simp) hlen.cell fun cc => ?_
  replace c7 := put_holds (o := .cells ([AV.nils].set 0 vb)) c7 c14.1 (by omega)
  replace c8 := put_holds (o := .cells ([AV.nils].set 0 vb)) c8 c14.1 (by omega)
  replace c12 := put_holds (o := .cells ([AV.nils].set 0 vb)) c12 c14.1 (by omega)
  replace c13 := put_holds (o := .cells ([AV.nils].set 0 vb)) c13 c14.1 (by omega)
  have g19 := g18.put (o := .cells ([AV.nils].set 0 vb)) le14
  replace c14 : Holds _ b14 [vb] := cc
  clear cc
  generalize H18.put b14 (.cells ([AV.nils].set 0 vb)) = H19 at *
  refine ⟨s1, s2, p1, p2, p3, p4, p5, p6, ?_⟩
  clear s1 s2 p1 p2 p3 p4 p5 p6 k14 m14
  refine s_fn2 ?_
  refine a_i ?_
  have q21_c7 := Holds.lt c7
  have q21_c8 := Holds.lt c8
  have q21_c12 := Holds.lt c12
  have q21_c13 := Holds.lt c13
  have q21_c14 := Holds.lt c14
  replace c7 := Holds.pushed c7 (.cells [AV.bool false, AV.bool false, AV.bool false])
  replace c8 := Holds.pushed c8 (.cells [AV.bool false, AV.bool false, AV.bool false])
  replace c12 := Holds.pushed c12 (.cells [AV.bool false, AV.bool false, AV.bool false])
  replace c13 := Holds.pushed c13 (.cells [AV.bool false, AV.bool false, AV.bool false])
  replace c14 := Holds.pushed c14 (.cells [AV.bool false, AV.bool false, AV.bool false])
  have c21 := Holds.push H19 [AV.bool false, AV.bool false, AV.bool false]
  have le21 := Grow.len g19
  have g21 := Grow.trans g19 (.push H19 (.cells [AV.bool false, AV.bool false, AV.bool false]))
  generalize H19.push (.cells [AV.bool false, AV.bool false, AV.bool false]) = H21 at *
  generalize hb21 : H19.obs.length = b21 at *
  refine a_i ?_
  have q22_c7 := Holds.lt c7
  have q22_c8 := Holds.lt c8
  have q22_c12 := Holds.lt c12
  have q22_c13 := Holds.lt c13
  have q22_c14 := Holds.lt c14
  have q22_c21 := Holds.lt c21
  replace c7 := Holds.pushed c7 (.cells [AV.bool false, AV.bool false, AV.bool false])
  replace c8 := Holds.pushed c8 (.cells [AV.bool false, AV.bool false, AV.bool false])
  replace c12 := Holds.pushed c12 (.cells [AV.bool false, AV.bool false, AV.bool false])
  replace c13 := Holds.pushed c13 (.cells [AV.bool false, AV.bool false, AV.bool false])
  replace c14 := Holds.pushed c14 (.cells [AV.bool false, AV.bool false, AV.bool false])
  replace c21 := Holds.pushed c21 (.cells [AV.bool false, AV.bool false, AV.bool false])
  have c22 := Holds.push H21 [AV.bool false, AV.bool false, AV.bool false]
  have le22 := Grow.len g21
  have g22 := Grow.trans g21 (.push H21 (.cells [AV.bool false, AV.bool false, AV.bool false]))
  generalize H21.push (.cells [AV.bool false, AV.bool false, AV.bool false]) = H22 at *
  generalize hb22 : H21.obs.length = b22 at *
  refine a_i ?_
  have q23_c7 := Holds.lt c7
  have q23_c8 := Holds.lt c8
  have q23_c12 := Holds.lt c12
  have q23_c13 := Holds.lt c13
  have q23_c14 := Holds.lt c14
  have q23_c21 := Holds.lt c21
  have q23_c22 := Holds.lt c22
  replace c7 := Holds.pushed c7 (.cells [AV.bool false, AV.bool false, AV.bool false])
  replace c8 := Holds.pushed c8 (.cells [AV.bool false, AV.bool false, AV.bool false])
  replace c12 := Holds.pushed c12 (.cells [AV.bool false, AV.bool false, AV.bool false])
  replace c13 := Holds.pushed c13 (.cells [AV.bool false, AV.bool false, AV.bool false])
  replace c14 := Holds.pushed c14 (.cells [AV.bool false, AV.bool false, AV.bool false])
  replace c21 := Holds.pushed c21 (.cells [AV.bool false, AV.bool false, AV.bool false])
  replace c22 := Holds.pushed c22 (.cells [AV.bool false, AV.bool false, AV.bool false])
  have c23 := Holds.push H22 [AV.bool false, AV.bool false, AV.bool false]
  have le23 := Grow.len g22
  have g23 := Grow.trans g22 (.push H22 (.cells [AV.bool false, AV.bool false, AV.bool false]))
  generalize H22.push (.cells [AV.bool false, AV.bool false, AV.bool false]) = H23 at *
  generalize hb23 : H22.obs.length = b23 at *
  refine g_hN c7 rfl ?_
  refine v_c (by decide) (l := [encL a, .ptr b14 0, .ptr b12 0]) rfl ?_
  refine c_gr (ok3_ok hT hK a hlen hvt (by omega) hg (g23.pos hp) c14 c12) fun H24 e24 => ?_
  have g24 := g23.trans e24
  refine g_hN (c8.grow e24) rfl ?_
  refine v_c (by decide) (l := [encL b, .ptr b14 0, .ptr b12 0]) rfl ?_
  refine c_gb e24 (ok3_ok hT hK b hlen hvt (by omega) hg (g24.pos hp) (c14.grow e24) (c12.grow e24)) fun H25 e25 => ?_
  have g25 := g23.trans e25
  refine g_hN (c13.grow e25) rfl ?_
  refine v_c (by decide) (l := [encL (leastL a b), .ptr b14 0, .ptr b12 0]) rfl ?_
  refine c_gb e25 (ok3_ok hT hK (leastL a b) hlen hvt (by omega) hg (g25.pos hp) (c14.grow e25) (c12.grow e25)) fun H26 e26 => ?_
  have s1 := (c8.grow e24).same (n := some 5) (o := 0) c8
  have s2 := (c13.grow e24).same (n := some 5) (o := 0) c13
  have s3 := (c13.grow e25).same (n := some 5) (o := 0) (c13.grow e24)
  have p1 := (c21.grow e24).kept
  have p2 := (c22.grow e24).kept
  have p3 := (c23.grow e24).kept
  have p4 := (c21.grow e25).kept
  have p5 := (c22.grow e25).kept
  have p6 := (c23.grow e25).kept
  have p7 := (c21.grow e26).kept
  have p8 := (c22.grow e26).kept
  have p9 := (c23.grow e26).kept
  have g26 := g23.trans e26
  replace c7 := Holds.grow c7 e26
  replace c8 := Holds.grow c8 e26
  replace c12 := Holds.grow c12 e26
  replace c13 := Holds.grow c13 e26
  replace c14 := Holds.grow c14 e26
  replace c21 := Holds.grow c21 e26
  replace c22 := Holds.grow c22 e26
  replace c23 := Holds.grow c23 e26
  refine h_all (l := ok3 a n.toNat gs) c21 rfl rfl rfl fun cc => ?_
  replace c7 := put_holds (o := .cells (ok3 a n.toNat gs)) c7 c21.1 (by omega)
  replace c8 := put_holds (o := .cells (ok3 a n.toNat gs)) c8 c21.1 (by omega)
  replace c13 := put_holds (o := .cells (ok3 a n.toNat gs)) c13 c21.1 (by omega)
  replace c22 := put_holds (o := .cells (ok3 a n.toNat gs)) c22 c21.1 (by omega)
  replace c23 := put_holds (o := .cells (ok3 a n.toNat gs)) c23 c21.1 (by omega)
  have g27 := Grow.put (o := .cells (ok3 a n.toNat gs)) g26 le21
  replace c21 := cc
  clear cc
  generalize H26.put b21 (.cells (ok3 a n.toNat gs)) = H27 at *
  refine h_all (l := ok3 b n.toNat gs) c22 rfl rfl rfl fun cc => ?_
  replace c7 := put_holds (o := .cells (ok3 b n.toNat gs)) c7 c22.1 (by omega)
  replace c8 := put_holds (o := .cells (ok3 b n.toNat gs)) c8 c22.1 (by omega)
  replace c13 := put_holds (o := .cells (ok3 b n.toNat gs)) c13 c22.1 (by omega)
  replace c21 := put_holds (o := .cells (ok3 b n.toNat gs)) c21 c22.1 (by omega)
  replace c23 := put_holds (o := .cells (ok3 b n.toNat gs)) c23 c22.1 (by omega)
  have g28 := Grow.put (o := .cells (ok3 b n.toNat gs)) g27 le22
  replace c22 := cc
  clear cc
  generalize H27.put b22 (.cells (ok3 b n.toNat gs)) = H28 at *
  refine h_all (l := ok3 (leastL a b) n.toNat gs) c23 rfl rfl rfl fun cc => ?_
  replace c7 := put_holds (o := .cells (ok3 (leastL a b) n.toNat gs)) c7 c23.1 (by omega)
  replace c8 := put_holds (o := .cells (ok3 (leastL a b) n.toNat gs)) c8 c23.1 (by omega)
  replace c13 := put_holds (o := .cells (ok3 (leastL a b) n.toNat gs)) c13 c23.1 (by omega)
  replace c21 := put_holds (o := .cells (ok3 (leastL a b) n.toNat gs)) c21 c23.1 (by omega)
  replace c22 := put_holds (o := .cells (ok3 (leastL a b) n.toNat gs)) c22 c23.1 (by omega)
  have g29 := Grow.put (o := .cells (ok3 (leastL a b) n.toNat gs)) g28 le23
  replace c23 := cc
  clear cc
  generalize H28.put b23 (.cells (ok3 (leastL a b) n.toNat gs)) = H29 at *
  refine ⟨s1, s2, s3, p1, p2, p3, p4, p5, p6, p7, p8, p9, ?_⟩
  clear s1 s2 s3 p1 p2 p3 p4 p5 p6 p7 p8 p9
  refine l1 (fun m x H' => ∃ i : Nat, x = .int .i64 i ∧ i ≤ 3 ∧ H29 = H' ∧ m = 3 - i) 3 ⟨0, rfl, by omega, rfl, rfl⟩ ?_
  rintro m _ _ ⟨i, rfl, hi, rfl, hm⟩
  refine Stp.go ?_
  refine i_c (fun hlt => ?_) (fun hlt => ?_)
  · refine j1 (fun x H' => x = .bool false ∧ H29 = H') ?_ ?_
    · rintro _ _ ⟨rfl, rfl⟩
      refine i_F rfl ?_
      refine g_add64 (by omega) ?_
      exact ⟨3 - (i + 1), by omega, i + 1, by congr 1, by omega, rfl, rfl⟩
    · intro j hj
      exact three ha hb c21 c22 c23 (by omega) (hj _ _ ⟨rfl, rfl⟩)
  obtain ⟨l1, l2, l3⟩ := least_in a b
  refine g_hN c13 rfl ?_
  refine c_gr (lright_ok hT (leastL a b) H29) fun H30 e30 => ?_
  rw [least_right ha hb]
  refine d_t ?_
  refine i_T rfl ?_
  refine g_hN (c13.grow e30) rfl ?_
  refine g_hN (c7.grow e30) rfl ?_
  refine c_gb e30 (within_ok hT (leastL a b) a H30) fun H31 e31 => ?_
  refine d_t ?_
  refine i_T (decide_eq_true l1) ?_
  refine g_hN (c13.grow e31) rfl ?_
  refine g_hN (c8.grow e31) rfl ?_
  refine c_gb e31 (within_ok hT (leastL a b) b H31) fun H32 e32 => ?_
  refine d_t ?_
  refine i_T (decide_eq_true l2) ?_
  refine g_hN (c8.grow e32) rfl ?_
  refine g_hN (c7.grow e32) rfl ?_
  refine c_gb e32 (least_ok hT b a H32) fun H33 e33 => ?_
  refine g_hN (c13.grow e33) rfl ?_
  refine s_eqL ?_
  exact ⟨(c13.grow e33).same (c13.grow e32), by simp [l3], g29.trans e33⟩

end Go.SV
