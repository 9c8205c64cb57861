/- Contracts: the answers that the document fixes for limits; the laws of limits. Own text of the prover; nothing is assumed. -/
import Derived.Test.YtkbkhdgjdikjiaaDoorCq
set_option maxRecDepth 100000
namespace Go.SV

variable {T : Nat → Option Entry}

def la : Lim := ⟨3, 2, 1, 2, 1⟩
def ga : List Nd := [⟨1, tSeq, [], [1]⟩, ⟨0, tStr, [97], []⟩]
theorem use_a : useL [ga] = ⟨0, 0, 1, 2, 1⟩ := by kernel_rfl
theorem right_a : rightL la = true := by decide
theorem graphs_a : graphsL la [ga] = 0 := by kernel_rfl
theorem input_a : keepsL la (decide (((4 : Nat) : Int) ≤ la.i)) = 16 := by decide
theorem output_a : keepsL la (decide (((2 : Nat) : Int) ≤ la.o)) = 0 := by decide
theorem least_a : leastL la dfltL = la := by decide
theorem wrong_a : rightL ⟨-1, 0, 0, 0, 0⟩ = false := by decide
theorem okGa : OkG ga := ⟨by decide, fun n hn => by
  simp only [ga, List.mem_cons, List.mem_nil_iff, or_false] at hn
  rcases hn with rfl | rfl <;> exact ⟨by decide, by decide, by decide⟩⟩

theorem s_mark {b o n s : Nat} {H : AH} {c : List AV} {k : AV → AH → Prop} (hc : H.get b = .cells c) (h : k (.slr b o n s) H) : sP (aop [] (.cvMark (.cst (.slr b o n s))) H) k := sP_i (by simp only [aop, Opd.ev, hc]) h

theorem alive18_ok (hT : Has T) (hK : Knows T) (H : AH) (hp : 0 < H.toks.length) :
    ∃ H', Den.of T 26 [] H = some (.bool true, H') ∧ Grow H H' := by
  refine gr_of (w26_ok hT ?_)
  unfold w26
  refine s_lit rfl ?_
  refine gP_i (v := .agg [.int .i64 1, .str tSeq, .str [], .sl 0 1 [.int .i64 1]]) rfl ?_
  have hx0 : IsNd (.agg [.int .i64 1, .str tSeq, .str [], .sl 0 1 [.int .i64 1]]) ⟨1, tSeq, [], [1]⟩ := ⟨_, rfl, RowOf.ints (l := [1]) 0⟩
  refine gP_i (v := .agg [.int .i64 0, .str tStr, .str [97], .nils]) rfl ?_
  have hx1 : IsNd (.agg [.int .i64 0, .str tStr, .str [97], .nils]) ⟨0, tStr, [97], []⟩ := ⟨_, rfl, .inl ⟨rfl, rfl⟩⟩
  refine s_lit rfl ?_
  refine s_lit rfl ?_
  have hgv : IsG (.sl 0 4 [.agg [.int .i64 1, .str tSeq, .str [], .sl 0 1 [.int .i64 1]], .agg [.int .i64 0, .str tStr, .str [97], .nils]]) ga := .inr ⟨0, _, rfl, (F2.nil.snoc hx0).snoc hx1⟩
  have hrow := rowG11 0 hgv
  generalize AV.sl 0 4 [.agg [.int .i64 1, .str tSeq, .str [], .sl 0 1 [.int .i64 1]], .agg [.int .i64 0, .str tStr, .str [97], .nils]] = gv at *
  have hg : ∀ g ∈ [ga], OkG g := fun g hg => by simp only [List.mem_singleton] at hg; rw [hg]; exact okGa
  refine gP_i (v := encL la) rfl ?_
  refine a_i ?_
  have c2 := Holds.push H [AV.int .i64 0, AV.int .i64 0, AV.int .i64 0, AV.int .i64 0, AV.int .i64 0]
  have le2 := Grow.len (.refl H)
  have g2 := Grow.trans (.refl H) (.push H (.cells [AV.int .i64 0, AV.int .i64 0, AV.int .i64 0, AV.int .i64 0, AV.int .i64 0]))
  generalize H.push (.cells [AV.int .i64 0, AV.int .i64 0, AV.int .i64 0, AV.int .i64 0, AV.int .i64 0]) = H2 at *
  generalize hb2 : H.obs.length = b2 at *
  refine h_all (l := lc la) c2 rfl rfl rfl fun c3 => ?_
  have g3 := g2.put (o := .cells (lc la)) (Nat.le_of_eq hb2)
  generalize H2.put b2 (.cells (lc la)) = H3 at *
  refine c_gr (use_ok hT hK hrow (by simp) hg H3 (g3.pos hp)) fun H4 e4 => ?_
  have c4 := c3.grow e4
  have g4 := g3.trans e4
  rw [use_a]
  refine gP_i (v := encL ⟨0, 0, 1, 2, 1⟩) rfl ?_
  refine s_eqL ?_
  refine d_t ?_
  refine i_T rfl ?_
  refine g_hN c4 rfl ?_
  refine c_gr (lright_ok hT la H4) fun H5 e5 => ?_
  have c5 := c4.grow e5
  have g5 := g4.trans e5
  rw [right_a]
  refine d_t ?_
  refine i_T rfl ?_
  refine g_hN c5 rfl ?_
  refine c_gr (graphs_ok hT hK la hrow (by simp) hg H5 (g5.pos hp)) fun H6 e6 => ?_
  have c6 := c5.grow e6
  have g6 := g5.trans e6
  rw [graphs_a]
  (repeat (with_reducible first | refine Stp.go ?_ | (refine i_cT ?_ ?_; · first | assumption | decide | exact rfl) | (refine i_cF ?_ ?_; · first | assumption | decide | exact rfl) | (refine i_T ?_ ?_; · first | assumption | exact rfl) | (refine i_F ?_ ?_; · first | assumption | exact rfl) | (refine Sts.go ?_ ?_; · first | omega | decide) | refine Stu.go ?_))
  refine g_hN c6 rfl ?_
  refine sP_i (v := .slr H6.obs.length 0 4 1) (H := H6.push (.cells [.int .u8 97, .int .u8 98, .int .u8 99, .int .u8 100])) rfl ?_
  have c7 := c6.pushed (.cells [.int .u8 97, .int .u8 98, .int .u8 99, .int .u8 100])
  have g7 := g6.trans (.push H6 (.cells [.int .u8 97, .int .u8 98, .int .u8 99, .int .u8 100]))
  refine s_mark (push_get _ _) ?_
  generalize H6.push (.cells [.int .u8 97, .int .u8 98, .int .u8 99, .int .u8 100]) = H7 at *
  refine c_gr (input_ok hT la (LenV.slr H6.obs.length 0 4 1) H7) fun H8 e8 => ?_
  have c8 := c7.grow e8
  have g8 := g7.trans e8
  rw [input_a]
  (repeat (with_reducible first | refine Stp.go ?_ | (refine i_cT ?_ ?_; · first | assumption | decide | exact rfl) | (refine i_cF ?_ ?_; · first | assumption | decide | exact rfl) | (refine i_T ?_ ?_; · first | assumption | exact rfl) | (refine i_F ?_ ?_; · first | assumption | exact rfl) | (refine Sts.go ?_ ?_; · first | omega | decide) | refine Stu.go ?_))
  refine g_hN c8 rfl ?_
  refine sP_i (v := .slr H8.obs.length 0 2 1) (H := H8.push (.cells [.int .u8 97, .int .u8 98])) rfl ?_
  have c9 := c8.pushed (.cells [.int .u8 97, .int .u8 98])
  have g9 := g8.trans (.push H8 (.cells [.int .u8 97, .int .u8 98]))
  refine s_mark (push_get _ _) ?_
  generalize H8.push (.cells [.int .u8 97, .int .u8 98]) = H9 at *
  refine c_gr (output_ok hT la (LenV.slr H8.obs.length 0 2 1) H9) fun H10 e10 => ?_
  have c10 := c9.grow e10
  have g10 := g9.trans e10
  rw [output_a]
  (repeat (with_reducible first | refine Stp.go ?_ | (refine i_cT ?_ ?_; · first | assumption | decide | exact rfl) | (refine i_cF ?_ ?_; · first | assumption | decide | exact rfl) | (refine i_T ?_ ?_; · first | assumption | exact rfl) | (refine i_F ?_ ?_; · first | assumption | exact rfl) | (refine Sts.go ?_ ?_; · first | omega | decide) | refine Stu.go ?_))
  refine g_hN c10 rfl ?_
  refine c_gr (default_ok hT H10) fun H11 e11 => ?_
  have c11 := c10.grow e11
  have g11 := g10.trans e11
  refine c_gr (least_ok hT la dfltL H11) fun H12 e12 => ?_
  have c12 := c11.grow e12
  have g12 := g11.trans e12
  rw [least_a]
  refine g_hN c12 rfl ?_
  refine s_eqL ?_
  refine d_t ?_
  refine i_T rfl ?_
  refine gP_i (v := encL ⟨-1, 0, 0, 0, 0⟩) rfl ?_
  refine c_gr (lright_ok hT ⟨-1, 0, 0, 0, 0⟩ H12) fun H13 e13 => ?_
  rw [wrong_a]
  (repeat (with_reducible first | refine Stp.go ?_ | (refine i_cT ?_ ?_; · first | assumption | decide | exact rfl) | (refine i_cF ?_ ?_; · first | assumption | decide | exact rfl) | (refine i_T ?_ ?_; · first | assumption | exact rfl) | (refine i_F ?_ ?_; · first | assumption | exact rfl) | (refine Sts.go ?_ ?_; · first | omega | decide) | refine Stu.go ?_))
  exact ⟨c7.same c6, c9.same c8, c11.same c10, c11.same c10, c12.same c11, rfl, g12.trans e13⟩

/-! ### Whether limits may be, the lesser ones, and bytes -/
theorem lawTells (hT : Has T) (hK : Knows T) (a b : Lim) {n : Int} (h0 : 0 ≤ n) (hn : n < 65536) (H : AH) (hp : 0 < H.toks.length) :
    ∃ H', Den.of T 7 [encL a, encL b, .int .u16 n] H = some (.bool true, H') ∧ Grow H H' := by
  refine gr_of (w7_ok hT ?_)
  unfold w7
  refine s_box rfl rfl ?_
  have c3 := Holds.push H (encL a).cells
  have le3 := Grow.len (.refl H)
  have g3 := Grow.trans (.refl H) (.push H (.cells (encL a).cells))
  generalize H.push (.cells (encL a).cells) = H3 at *
  generalize hb3 : H.obs.length = b3 at *
  refine s_box rfl rfl ?_
  have q4_c3 := Holds.lt c3
  replace c3 := Holds.pushed c3 (.cells (encL b).cells)
  have c4 := Holds.push H3 (encL b).cells
  have le4 := Grow.len g3
  have g4 := Grow.trans g3 (.push H3 (.cells (encL b).cells))
  generalize H3.push (.cells (encL b).cells) = H4 at *
  generalize hb4 : H3.obs.length = b4 at *
  refine c_gr (alive18_ok hT hK H4 (g4.pos hp)) fun H5 e5 => ?_
  replace c3 := c3.grow e5
  replace c4 := c4.grow e5
  have g5 := g4.trans e5
  refine gP_i rfl ?_
  refine i_F rfl ?_
  refine g_cv64 (by omega) ?_
  refine Stp.go ?_
  refine i_c (fun hh => ?_) (fun hh => ?_)
  · exact ⟨rfl, g5⟩
  have q3 := c3.1
  have q4 := c4.1
  refine a_i ?_
  have q7_c3 := Holds.lt c3
  have q7_c4 := Holds.lt c4
  replace c3 := Holds.pushed c3 (.cells [AV.int .i64 0, AV.int .i64 0, AV.int .i64 0, AV.int .i64 0, AV.int .i64 0])
  replace c4 := Holds.pushed c4 (.cells [AV.int .i64 0, AV.int .i64 0, AV.int .i64 0, AV.int .i64 0, AV.int .i64 0])
  have c7 := Holds.push H5 [AV.int .i64 0, AV.int .i64 0, AV.int .i64 0, AV.int .i64 0, AV.int .i64 0]
  have le7 := Grow.len g5
  have g7 := Grow.trans g5 (.push H5 (.cells [AV.int .i64 0, AV.int .i64 0, AV.int .i64 0, AV.int .i64 0, AV.int .i64 0]))
  generalize H5.push (.cells [AV.int .i64 0, AV.int .i64 0, AV.int .i64 0, AV.int .i64 0, AV.int .i64 0]) = H7 at *
  generalize hb7 : H5.obs.length = b7 at *
  have q7 := c7.1
  refine a_i ?_
  have q8_c3 := Holds.lt c3
  have q8_c4 := Holds.lt c4
  have q8_c7 := Holds.lt c7
  replace c3 := Holds.pushed c3 (.cells [AV.int .i64 0, AV.int .i64 0, AV.int .i64 0, AV.int .i64 0, AV.int .i64 0])
  replace c4 := Holds.pushed c4 (.cells [AV.int .i64 0, AV.int .i64 0, AV.int .i64 0, AV.int .i64 0, AV.int .i64 0])
  replace c7 := Holds.pushed c7 (.cells [AV.int .i64 0, AV.int .i64 0, AV.int .i64 0, AV.int .i64 0, AV.int .i64 0])
  have c8 := Holds.push H7 [AV.int .i64 0, AV.int .i64 0, AV.int .i64 0, AV.int .i64 0, AV.int .i64 0]
  have le8 := Grow.len g7
  have g8 := Grow.trans g7 (.push H7 (.cells [AV.int .i64 0, AV.int .i64 0, AV.int .i64 0, AV.int .i64 0, AV.int .i64 0]))
  generalize H7.push (.cells [AV.int .i64 0, AV.int .i64 0, AV.int .i64 0, AV.int .i64 0, AV.int .i64 0]) = H8 at *
  generalize hb8 : H7.obs.length = b8 at *
  refine g_hN c3 rfl ?_
  refine g_hN c4 rfl ?_
  refine h_all (l := lc a) c7 rfl rfl rfl fun c17 => ?_
  have d4 := c4
  replace c3 := put_holds (o := .cells (lc a)) c3 c7.1 (by omega)
  replace c4 := put_holds (o := .cells (lc a)) c4 c7.1 (by omega)
  replace c8 := put_holds (o := .cells (lc a)) c8 c7.1 (by omega)
  have g9 := g8.put (o := .cells (lc a)) le7
  generalize H8.put b7 (.cells (lc a)) = H9 at *
  refine h_all (l := lc b) c8 rfl rfl rfl fun c18 => ?_
  refine ⟨c4.same d4, ?_⟩
  replace c3 := put_holds (o := .cells (lc b)) c3 c8.1 (by omega)
  replace c4 := put_holds (o := .cells (lc b)) c4 c8.1 (by omega)
  replace c17 := put_holds (o := .cells (lc b)) c17 c8.1 (by omega)
  have g10 := g9.put (o := .cells (lc b)) le8
  generalize H9.put b8 (.cells (lc b)) = H10 at *
  clear c7 c8 d4
  refine sP_i (v := .sl 0 1 (List.replicate n.toNat (.int .u8 0))) (H := H10) ?_ ?_
  · simp only [aop, Opd.ev]
    rw [if_pos ⟨h0, by omega, by omega, by omega, rfl, rfl⟩]
    rfl
  have hlen := LenV.sl 0 1 (List.replicate n.toNat (AV.int .u8 0))
  rw [List.length_replicate] at hlen
  have hnn : ((n.toNat : Nat) : Int) = n := by omega
  refine g_hN c17 rfl ?_
  refine c_gr (lright_ok hT a H10) fun H11 e11 => ?_
  refine g_hN (c3.grow e11) rfl ?_
  refine c_gb e11 (rlright_ok hT a H11) fun H12 e12 => ?_
  refine g_eqb ?_
  refine d_t ?_
  refine i_T (by simp) ?_
  refine g_hN (c17.grow e12) rfl ?_
  refine g_hN (c18.grow e12) rfl ?_
  refine c_gb e12 (least_ok hT a b H12) fun H13 e13 => ?_
  refine g_hN (c3.grow e13) rfl ?_
  refine g_hN (c4.grow e13) rfl ?_
  refine c_gb e13 (rleast_ok hT a b H13) fun H14 e14 => ?_
  refine s_eqL ?_
  refine d_t ?_
  refine i_T (by simp) ?_
  refine g_hN (c17.grow e14) rfl ?_
  refine c_gb e14 (input_ok hT a hlen H14) fun H15 e15 => ?_
  refine g_hN (c3.grow e15) rfl ?_
  refine g_cv64 (by omega) ?_
  refine Stp.go ?_
  refine g_h1 (c3.grow e15) rfl ?_
  refine c_gb e15 (bytes_ok hT a n a.i H15) fun H16 e16 => ?_
  refine Stp.go ?_
  refine d_t ?_
  refine i_T (by rw [hnn]; simp) ?_
  refine g_hN (c17.grow e16) rfl ?_
  refine c_gb e16 (output_ok hT a hlen H16) fun H17 e17 => ?_
  refine g_hN (c3.grow e17) rfl ?_
  refine g_cv64 (by omega) ?_
  refine Stp.go ?_
  refine g_h1 (c3.grow e17) rfl ?_
  refine c_gb e17 (bytes_ok hT a n a.o H17) fun H18 e18 => ?_
  refine Stp.go ?_
  refine d_t ?_
  refine i_T (by rw [hnn]; simp) ?_
  refine c_gb e18 (default_ok hT H18) fun H19 e19 => ?_
  refine c_gb e19 (rdefault_ok hT H19) fun H20 e20 => ?_
  refine s_eqL ?_
  exact ⟨(c3.grow e11).same c3, (c3.grow e13).same (c3.grow e12), (c4.grow e13).same (c4.grow e12), (c3.grow e15).same (c3.grow e14), (c3.grow e15).same (c3.grow e14), (c3.grow e17).same (c3.grow e16), (c3.grow e17).same (c3.grow e16), by simp, g10.trans e20⟩

/-! ### What graphs use -/
theorem graphsL_right {l : Lim} {gs : List (List Nd)} (hr : rightL l = true) (hg : ∀ g ∈ gs, rightG g = true) : graphsL l gs = if leastL (fitL l gs) l = fitL l gs then 0 else 16 := by
  have h1 : ¬ (rightL l && gs.any fun g => !rightG g) = true := by
    simp only [Bool.and_eq_true, List.any_eq_true, not_and, not_exists]
    intro _ g h h2
    rw [hg g h] at h2; simp at h2
  rw [graphsL, if_neg h1, keepsL, if_neg (by rw [hr]; simp)]
  by_cases h : leastL (fitL l gs) l = fitL l gs
  · rw [if_pos h, if_pos (by simpa using h)]
  · rw [if_neg h, if_neg (by simpa using h)]
theorem graphsL_wrong {l : Lim} {gs : List (List Nd)} (hr : rightL l = true) {g : List Nd} (hg : g ∈ gs) (hw : rightG g = false) : graphsL l gs = 5 := by
  rw [graphsL, if_pos]
  rw [hr, Bool.true_and, List.any_eq_true]
  exact ⟨g, hg, by rw [hw]; rfl⟩


theorem use_app (a b : List (List Nd)) : nodesU (a ++ b) = nodesU a + nodesU b ∧ deepU (a ++ b) = max (deepU a) (deepU b) := by
  refine ⟨by simp [nodesU], ?_⟩
  have h : ∀ (l : List Nat) (m n : Nat), l.foldl max (max m n) = max m (l.foldl max n) := by
    intro l
    induction l with
    | nil => intro m n; rfl
    | cons x l ih => intro m n; simp only [List.foldl_cons, Nat.max_assoc, ih]
  simp only [deepU, List.map_append, List.foldl_append]
  have := h (b.map deepG) ((a.map deepG).foldl max 0) 0
  rw [Nat.max_zero] at this
  rw [this]

theorem F2.len {α : Type} {R : AV → α → Prop} {xs : List AV} {l : List α} (h : F2 R xs l) : xs.length = l.length := h.1

theorem ok_gv {xs : List AV} {l : List (List Nd)} (h : F2 IsGv xs l) : elemsOk 1 xs = true := by
  rw [elemsOk, List.all_eq_true]
  intro x hx
  obtain ⟨i, hi, rfl⟩ := List.getElem_of_mem hx
  have hg : IsG xs[i] (l[i]'(by rw [← h.1]; exact hi)) := h.2 i _ _ (List.getElem?_eq_getElem hi) (List.getElem?_eq_getElem _)
  rw [hg.def, hg.cells]
  simp [hg.cell]

/-- The law: graphs of two rows. -/
theorem lawMore (hT : Has T) (hK : Knows T) {va vb : AV} {a b : List (List Nd)} (hva : RowOf 1 IsGv va a) (hvb : RowOf 1 IsGv vb b) (hla : a.length < 2 ^ 63) (hlb : b.length < 2 ^ 63)
    (hga : ∀ g ∈ a, g.length < 2 ^ 63) (hgb : ∀ g ∈ b, g.length < 2 ^ 63) (H : AH) (hp : 0 < H.toks.length) :
    ∃ H', Den.of T 10 [va, vb] H = some (.bool true, H') ∧ Grow H H' := by
  refine gr_of (w10_ok hT ?_)
  unfold w10
  refine c_gr (alive18_ok hT hK H hp) fun H1 g1 => ?_
  refine gP_i rfl ?_
  refine i_F rfl ?_
  refine j1 (fun x H' => x = .bool (heavyR a || heavyR b) ∧ Grow H H') ?_ ?_
  rotate_left
  · intro j hj
    refine c_gb g1 (heavyR_ok hT hva hla hga H1) fun H2 g2 => ?_
    refine d_f ?_
    refine i_i (fun h => ?_) (fun h => ?_)
    · exact hj _ _ ⟨by rw [h]; rfl, g2⟩
    · refine c_gb g2 (heavyR_ok hT hvb hlb hgb H2) fun H3 g3 => ?_
      exact hj _ _ ⟨by rw [h, Bool.false_or], g3⟩
  rintro _ H2 ⟨rfl, g2⟩
  refine i_i (fun h => ?_) (fun h => ?_)
  · exact ⟨rfl, g2⟩
  obtain ⟨ha, hb⟩ := Bool.or_eq_false_iff.1 h
  obtain ⟨_, oka, l5a⟩ := lightR ha
  obtain ⟨_, okb, l5b⟩ := lightR hb
  refine c_i (theirsR_ok hT hva (memR oka (by omega)) H2 (g2.pos hp)) ?_
  rintro v3 H3 ⟨⟨xs3, t3, f3⟩, e3⟩
  have g3 := g2.trans e3
  refine c_gb g3 (use_ok hT hK (t3.row f3) (by omega) oka H3 (g3.pos hp)) fun H4 g4 => ?_
  refine c_i (theirsR_ok hT hvb (memR okb (by omega)) H4 (g4.pos hp)) ?_
  rintro v5 H5 ⟨⟨xs5, t5, f5⟩, e5⟩
  have g5 := g4.trans e5
  refine c_gb g5 (use_ok hT hK (t5.row f5) (by omega) okb H5 (g5.pos hp)) fun H6 g6 => ?_
  refine a_i ?_
  have c7 := Holds.push H6 [AV.int .i64 0, AV.int .i64 0, AV.int .i64 0, AV.int .i64 0, AV.int .i64 0]
  have le7 := Grow.len g6
  have g7 := Grow.trans g6 (.push H6 (.cells [AV.int .i64 0, AV.int .i64 0, AV.int .i64 0, AV.int .i64 0, AV.int .i64 0]))
  generalize H6.push (.cells [AV.int .i64 0, AV.int .i64 0, AV.int .i64 0, AV.int .i64 0, AV.int .i64 0]) = H7 at *
  generalize hb7 : H6.obs.length = b7 at *
  have q7 := c7.1
  refine a_i ?_
  have q8_c7 := Holds.lt c7
  replace c7 := Holds.pushed c7 (.cells [AV.int .i64 0, AV.int .i64 0, AV.int .i64 0, AV.int .i64 0, AV.int .i64 0])
  have c8 := Holds.push H7 [AV.int .i64 0, AV.int .i64 0, AV.int .i64 0, AV.int .i64 0, AV.int .i64 0]
  have le8 := Grow.len g7
  have g8 := Grow.trans g7 (.push H7 (.cells [AV.int .i64 0, AV.int .i64 0, AV.int .i64 0, AV.int .i64 0, AV.int .i64 0]))
  generalize H7.push (.cells [AV.int .i64 0, AV.int .i64 0, AV.int .i64 0, AV.int .i64 0, AV.int .i64 0]) = H8 at *
  generalize hb8 : H7.obs.length = b8 at *
  refine h_all (l := lc (useL a)) c7 rfl rfl rfl fun c9 => ?_
  replace c8 := put_holds (o := .cells (lc (useL a))) c8 c7.1 (by omega)
  have g9 := g8.put (o := .cells (lc (useL a))) le7
  generalize H8.put b7 (.cells (lc (useL a))) = H9 at *
  refine h_all (l := lc (useL b)) c8 rfl rfl rfl fun c10 => ?_
  replace c9 := put_holds (o := .cells (lc (useL b))) c9 c8.1 (by omega)
  have g10 := g9.put (o := .cells (lc (useL b))) le8
  generalize H9.put b8 (.cells (lc (useL b))) = H10 at *
  refine c_i (theirsR_ok hT hva (memR oka (by omega)) H10 (g10.pos hp)) ?_
  rintro v11 H11 ⟨⟨xs11, t11, f11⟩, e11⟩
  have g11 := g10.trans e11
  refine c_i (theirsR_ok hT hvb (memR okb (by omega)) H11 (g11.pos hp)) ?_
  rintro v12 H12 ⟨⟨xs12, t12, f12⟩, e12⟩
  have g12 := g11.trans e12
  have hap : ∀ (v : AV) (H' : AH), RowOf 1 IsGv v (a ++ b) → Grow H12 H' → sP (some (v, H')) (fun v H' => v = v ∧ True) := fun v H' _ _ => ⟨v, H', rfl, rfl, trivial⟩
  clear hap
  have key : ∀ {k : AV → AH → Prop}, (∀ v H', RowOf 1 IsGv v (a ++ b) → Grow H10 H' → k v H') → sP (aAppend .tok 1 24 v11 v12 H12) k := by
    intro k hk
    by_cases hxe : xs12 = []
    · have hb0 : b = [] := by have := f12.len; rw [hxe] at this; exact List.length_eq_zero_iff.1 this.symm
      refine s_app0 ?_ ?_ (hk _ _ ?_ (e11.trans e12))
      · rcases t12 with ⟨rfl, _⟩ | ⟨t, rfl, _, _⟩
        · rfl
        · rw [hxe]; simp [elems]
      · rcases t11 with ⟨rfl, _⟩ | ⟨t, rfl, _, _⟩
        · exact .inl rfl
        · exact .inr ⟨_, _, rfl⟩
      · rw [hb0, List.append_nil]; exact t11.row f11
    · rcases t12 with ⟨rfl, hn⟩ | ⟨t, rfl, _, _⟩
      · exact absurd hn hxe
      · refine s_app (t11.grow e12) (e11.trans e12) (g10.pos hp) hxe ?_ ?_ fun v' H' ht' g' _ => hk _ _ (ht'.row (f11.app f12)) g'
        · exact ok_gv f12
        · have h1 := f11.len
          have h2 := f12.len
          omega
  refine key fun v13 H13 hv13 e13 => ?_
  have g13 := g10.trans e13
  have hab : ∀ g ∈ a ++ b, OkG g := fun g hg => by
    rcases List.mem_append.1 hg with h | h
    · exact oka g h
    · exact okb g h
  refine c_gr (use_ok hT hK hv13 (by rw [List.length_append]; omega) hab H13 (g13.pos hp)) fun H14 e14 => ?_
  have g14 := g13.trans e14
  replace c9 := c9.grow (e13.trans e14)
  replace c10 := c10.grow (e13.trans e14)
  have q9 := c9.1
  have q10 := c10.1
  refine a_i ?_
  have q15_c9 := Holds.lt c9
  have q15_c10 := Holds.lt c10
  replace c9 := Holds.pushed c9 (.cells [AV.int .i64 0, AV.int .i64 0, AV.int .i64 0, AV.int .i64 0, AV.int .i64 0])
  replace c10 := Holds.pushed c10 (.cells [AV.int .i64 0, AV.int .i64 0, AV.int .i64 0, AV.int .i64 0, AV.int .i64 0])
  have c15 := Holds.push H14 [AV.int .i64 0, AV.int .i64 0, AV.int .i64 0, AV.int .i64 0, AV.int .i64 0]
  have le15 := Grow.len g14
  have g15 := Grow.trans g14 (.push H14 (.cells [AV.int .i64 0, AV.int .i64 0, AV.int .i64 0, AV.int .i64 0, AV.int .i64 0]))
  generalize H14.push (.cells [AV.int .i64 0, AV.int .i64 0, AV.int .i64 0, AV.int .i64 0, AV.int .i64 0]) = H15 at *
  generalize hb15 : H14.obs.length = b15 at *
  refine h_all (l := lc (useL (a ++ b))) c15 rfl rfl rfl fun c16 => ?_
  replace c9 := put_holds (o := .cells (lc (useL (a ++ b)))) c9 c15.1 (by omega)
  replace c10 := put_holds (o := .cells (lc (useL (a ++ b)))) c10 c15.1 (by omega)
  have g16 := g15.put (o := .cells (lc (useL (a ++ b)))) le15
  generalize H15.put b15 (.cells (lc (useL (a ++ b)))) = H16 at *
  refine g_hN c16 rfl ?_
  have n1 := nodesU_le oka
  have n2 := nodesU_le okb
  obtain ⟨u1, u2⟩ := use_app a b
  refine Stp.go ?_
  refine g_h1 c9 rfl ?_
  refine Stp.go ?_
  refine g_h1 c10 rfl ?_
  refine g_add64 (by simp only [useL]; omega) ?_
  refine Stp.go ?_
  refine g_h1 c9 rfl ?_
  refine Stp.go ?_
  refine g_h1 c10 rfl ?_
  refine g_add64 (by simp only [useL]; omega) ?_
  refine Stp.go ?_
  refine g_h1 c9 rfl ?_
  refine Stp.go ?_
  refine g_h1 c10 rfl ?_
  refine Stp.go ?_
  have eu : useL (a ++ b) = ⟨0, 0, (useL a).d + (useL b).d, (useL a).n + (useL b).n, max (useL a).p (useL b).p⟩ := by
    simp only [useL, u1, u2, List.length_append, Lim.mk.injEq, true_and]
    exact ⟨by omega, by omega, by omega⟩
  refine gP_i (v := encL ⟨0, 0, (useL a).d + (useL b).d, (useL a).n + (useL b).n, max (useL a).p (useL b).p⟩) rfl ?_
  refine s_eqL ?_
  exact ⟨by simp [eu], g16⟩

end Go.SV
