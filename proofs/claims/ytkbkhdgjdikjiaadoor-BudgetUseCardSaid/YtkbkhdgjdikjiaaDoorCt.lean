/- Contracts: the law of what graphs use. Own text of the prover; nothing is assumed. -/
import Derived.Test.YtkbkhdgjdikjiaaDoorCs
set_option maxRecDepth 100000
namespace Go.SV

variable {T : Nat → Option Entry}

theorem right_0 {l : Lim} (h : rightL l = true) : rightL ⟨0, 0, l.d, l.n, l.p⟩ = true := by
  simp only [rightL, decide_eq_true_eq] at h ⊢
  omega
theorem use_in {l : Lim} (h : rightL l = true) {gs : List (List Nd)} (hg : gs.all rightG = true) : (graphsL ⟨0, 0, l.d, l.n, l.p⟩ gs == 0) = decide (leastL (useL gs) ⟨0, 0, l.d, l.n, l.p⟩ = useL gs) := by
  rw [graphsL_b (right_0 h), hg, Bool.true_and, decide_eq_decide]
  simp only [leastL, useL, Lim.mk.injEq]
  omega
theorem use_self {gs : List (List Nd)} (hr : rightL (useL gs) = true) (hg : gs.all rightG = true) : graphsL (useL gs) gs = 0 := by
  have := graphsL_b hr gs
  rw [hg, Bool.true_and, decide_eq_true (by simp only [useL]; omega)] at this
  simpa using this

theorem lawUse (hT : Has T) (hK : Knows T) (l : Lim) {v : AV} {gs : List (List Nd)} (hv : RowOf 1 IsGv v gs) (hm : MemR gs) (H : AH) (hp : 0 < H.toks.length) :
    ∃ H', Den.of T 9 [encL l, v] H = some (.bool true, H') ∧ Grow H H' := by
  refine gr_of (w9_ok hT ?_)
  unfold w9
  refine s_box rfl rfl ?_
  have c2 := Holds.push H (encL l).cells
  have le2 := Grow.len (.refl H)
  have g2 := Grow.trans (.refl H) (.push H (.cells (encL l).cells))
  generalize H.push (.cells (encL l).cells) = H2 at *
  generalize hb2 : H.obs.length = b2 at *
  refine c_gr (alive18_ok hT hK H2 (g2.pos hp)) fun H3 e3 => ?_
  replace c2 := Holds.grow c2 e3
  have g3 := g2.trans e3
  refine gP_i rfl ?_
  refine i_F rfl ?_
  refine a_i ?_
  have q5_c2 := Holds.lt c2
  replace c2 := Holds.pushed c2 (.cells [AV.int .i64 0, AV.int .i64 0, AV.int .i64 0, AV.int .i64 0, AV.int .i64 0])
  have c5 := Holds.push H3 [AV.int .i64 0, AV.int .i64 0, AV.int .i64 0, AV.int .i64 0, AV.int .i64 0]
  have le5 := Grow.len g3
  have g5 := Grow.trans g3 (.push H3 (.cells [AV.int .i64 0, AV.int .i64 0, AV.int .i64 0, AV.int .i64 0, AV.int .i64 0]))
  generalize H3.push (.cells [AV.int .i64 0, AV.int .i64 0, AV.int .i64 0, AV.int .i64 0, AV.int .i64 0]) = H5 at *
  generalize hb5 : H3.obs.length = b5 at *
  refine g_hN c2 rfl ?_
  have hm1 := hm.1
  refine c_i (theirsR_ok hT hv hm H5 (g5.pos hp)) ?_
  rintro vt H6 ⟨⟨xs, tok, f2⟩, e6⟩
  have hvt := tok.row f2
  have g6 := g5.trans e6
  have s1 := (c2.grow e6).same (n := some 5) (o := 0) c2
  replace c2 := Holds.grow c2 e6
  replace c5 := Holds.grow c5 e6
  have p1 := c5.kept
  refine h_all (l := lc l) c5 rfl rfl rfl fun cc => ?_
  replace c2 := put_holds (o := .cells (lc l)) c2 c5.1 (by omega)
  have g7 := Grow.put (o := .cells (lc l)) g6 le5
  replace c5 := cc
  clear cc
  generalize H6.put b5 (.cells (lc l)) = H7 at *
  refine ⟨s1, p1, ?_⟩
  clear s1 p1
  refine j1 (fun x H' => x = .bool (heavyR gs || !rightL l) ∧ Grow H7 H') ?_ ?_
  rotate_left
  · intro j hj
    refine c_gr (heavyR_ok hT hv (by omega) (fun g hg => (hm.2 g hg).len) H7) fun H8 e8 => ?_
    refine d_f ?_
    refine i_i (fun h => ?_) (fun h => ?_)
    · exact hj _ _ ⟨by rw [h]; rfl, e8⟩
    refine g_hN (c5.grow e8) rfl ?_
    refine c_gb e8 (lright_ok hT l H8) fun H9 e9 => ?_
    refine Stp.go ?_
    exact hj _ _ ⟨by rw [h, Bool.false_or], e9⟩
  rintro _ H8 ⟨rfl, e8⟩
  have g8 := g7.trans e8
  refine i_i (fun h => ?_) (fun h => ?_)
  · exact ⟨rfl, g8⟩
  simp only [Bool.or_eq_false_iff, Bool.not_eq_false'] at h
  obtain ⟨hh, hr⟩ := h
  obtain ⟨_, hg, hl5⟩ := lightR hh
  refine g_lenW hvt ?_
  refine l1 (fun m x H' => ∃ i : Nat, x = .int .i64 i ∧ i ≤ gs.length ∧ Grow H7 H' ∧ (gs.take i).all rightG = true ∧ m = gs.length - i) gs.length ⟨0, rfl, Nat.zero_le _, e8, rfl, rfl⟩ ?_
  rintro m _ H9 ⟨i, rfl, hi, e9, ha, hm2⟩
  have g9 := g7.trans e9
  replace c5 := Holds.grow c5 e9
  (repeat (with_reducible first | refine Stp.go ?_ | (refine i_cT ?_ ?_; · first | assumption | decide | exact rfl) | (refine i_cF ?_ ?_; · first | assumption | decide | exact rfl) | (refine i_T ?_ ?_; · first | assumption | exact rfl) | (refine i_F ?_ ?_; · first | assumption | exact rfl) | (refine Sts.go ?_ ?_; · first | omega | decide) | refine Stu.go ?_))
  refine i_c (fun hlt => ?_) (fun hlt => ?_)
  · have hlt : i < gs.length := by omega
    refine g_atn hvt (List.getElem?_eq_getElem hlt) fun x hx => ?_
    have hxg : IsG x gs[i] := hx
    rw [hxg.cells]
    refine g_ldv ?_
    refine c_gr (rightG_ok hT hK hxg (hg _ (List.getElem_mem hlt)) H9 (g9.pos hp)) fun H10 e10 => ?_
    (repeat (with_reducible first | refine Stp.go ?_ | (refine i_cT ?_ ?_; · first | assumption | decide | exact rfl) | (refine i_cF ?_ ?_; · first | assumption | decide | exact rfl) | (refine i_T ?_ ?_; · first | assumption | exact rfl) | (refine i_F ?_ ?_; · first | assumption | exact rfl) | (refine Sts.go ?_ ?_; · first | omega | decide) | refine Stu.go ?_))
    refine i_i (fun h1 => ?_) (fun h1 => ?_)
    · (repeat (with_reducible first | refine Stp.go ?_ | (refine i_cT ?_ ?_; · first | assumption | decide | exact rfl) | (refine i_cF ?_ ?_; · first | assumption | decide | exact rfl) | (refine i_T ?_ ?_; · first | assumption | exact rfl) | (refine i_F ?_ ?_; · first | assumption | exact rfl) | (refine Sts.go ?_ ?_; · first | omega | decide) | refine Stu.go ?_))
      refine ⟨gs.length - (i + 1), by omega, i + 1, by congr 1, by omega, e9.trans e10, ?_, rfl⟩
      rw [List.take_add_one, List.getElem?_eq_getElem hlt, List.all_append, ha]
      simp [h1]
    · refine g_hN (c5.grow e10) rfl ?_
      refine c_gb e10 (graphs_ok hT hK l hvt (by omega) hg H10 ((g9.trans e10).pos hp)) fun H11 e11 => ?_
      refine Stp.go ?_
      exact ⟨by rw [graphsL_wrong hr (List.getElem_mem hlt) h1]; rfl, g9.trans e11⟩
  rw [show i = gs.length by omega, List.take_length] at ha
  refine c_gr (use_ok hT hK hvt (by omega) hg H9 (g9.pos hp)) fun H10 e10 => ?_
  have g10 := g9.trans e10
  replace c5 := Holds.grow c5 e10
  refine a_i ?_
  have q20_c5 := Holds.lt c5
  replace c5 := Holds.pushed c5 (.cells [AV.int .i64 0, AV.int .i64 0, AV.int .i64 0, AV.int .i64 0, AV.int .i64 0])
  have c20 := Holds.push H10 [AV.int .i64 0, AV.int .i64 0, AV.int .i64 0, AV.int .i64 0, AV.int .i64 0]
  have le20 := Grow.len g10
  have g20 := Grow.trans g10 (.push H10 (.cells [AV.int .i64 0, AV.int .i64 0, AV.int .i64 0, AV.int .i64 0, AV.int .i64 0]))
  generalize H10.push (.cells [AV.int .i64 0, AV.int .i64 0, AV.int .i64 0, AV.int .i64 0, AV.int .i64 0]) = H20 at *
  generalize hb20 : H10.obs.length = b20 at *
  refine h_all (l := lc (useL gs)) c20 rfl rfl rfl fun cc => ?_
  replace c5 := put_holds (o := .cells (lc (useL gs))) c5 c20.1 (by omega)
  have g21 := Grow.put (o := .cells (lc (useL gs))) g20 le20
  replace c20 := cc
  clear cc
  generalize H20.put b20 (.cells (lc (useL gs))) = H21 at *
  refine Stp.go ?_
  refine h_one c5 (by simp) rfl fun cc => ?_
  replace c20 := put_holds (o := .cells ((lc l).set 0 (AV.int .i64 0))) c20 c5.1 (by omega)
  have g22 := g21.put (o := .cells ((lc l).set 0 (AV.int .i64 0))) le5
  generalize H21.put b5 (.cells ((lc l).set 0 (AV.int .i64 0))) = H22 at *
  replace c5 : Holds H22 b5 (li5 0 l.o l.d l.n l.p) := cc
  clear cc
  refine Stp.go ?_
  refine h_one c5 (by simp) rfl fun cc => ?_
  replace c20 := put_holds (o := .cells ((li5 0 l.o l.d l.n l.p).set 1 (AV.int .i64 0))) c20 c5.1 (by omega)
  have g23 := g22.put (o := .cells ((li5 0 l.o l.d l.n l.p).set 1 (AV.int .i64 0))) le5
  generalize H22.put b5 (.cells ((li5 0 l.o l.d l.n l.p).set 1 (AV.int .i64 0))) = H23 at *
  replace c5 : Holds H23 b5 (lc ⟨0, 0, l.d, l.n, l.p⟩) := cc
  clear cc
  refine g_hN c5 rfl ?_
  refine c_gr (graphs_ok hT hK ⟨0, 0, l.d, l.n, l.p⟩ hvt (by omega) hg H23 (g23.pos hp)) fun H24 e24 => ?_
  refine Stp.go ?_
  refine g_hN (c20.grow e24) rfl ?_
  refine g_hN (c5.grow e24) rfl ?_
  refine c_gb e24 (within_ok hT (useL gs) ⟨0, 0, l.d, l.n, l.p⟩ H24) fun H25 e25 => ?_
  refine g_eqb ?_
  refine ⟨(c20.grow e24).same c20, (c5.grow e24).same c5, ?_⟩
  rw [use_in hr ha]
  refine i_F (by simp) ?_
  refine g_hN (c20.grow e25) rfl ?_
  refine c_gb e25 (lright_ok hT (useL gs) H25) fun H26 e26 => ?_
  refine Stp.go ?_
  refine d_f ?_
  refine Stp.go ?_
  refine i_i (fun h1 => ?_) (fun h1 => ?_)
  · refine g_hN (c20.grow e26) rfl ?_
    refine c_gb e26 (graphs_ok hT hK (useL gs) hvt (by omega) hg H26 ((g23.trans e26).pos hp)) fun H27 e27 => ?_
    refine Stp.go ?_
    exact ⟨by rw [use_self h1 ha]; rfl, g23.trans e27⟩
  · exact ⟨rfl, g23.trans e26⟩

end Go.SV
