/- Contracts: events that a document takes; graphs of events. Own text of the prover; nothing is assumed. -/
import Derived.Test.YtkbkhdgjdikjiaaGreatDoorFc
set_option maxRecDepth 100000
namespace Go.SV

variable {T : Nat → Option Entry}

/-! ### A document begins, and ends -/
theorem ctake0 (hT : Has T) {H0 H : AH} {R : List (Nat × (Nat × Nat))} {b : Nat} {x y z : AV} (h : Holds H b [x, y, z]) (lb : H0.obs.length ≤ b) (g : Grow H0 H) (hR : ∀ p ∈ R, H.toks[p.1]? = some p.2) (d : Dc) (e : Ev) (hk : e.kind = 0) :
    ∃ w H', Den.of T 44 [.ptr b 0, encE e] H = some (w, H') ∧ w = .tup [.bool (takeD d e).2.1, .int .i64 (takeD d e).2.2] ∧ Grow H0 H' ∧ ∃ bm, DocA H0 H' b R (takeD d e).1 .nils .nils (.map bm) (fun _ => 0) := by
  have ht : takeD d e = (⟨[], [], fun _ => none⟩, false, 0) := by unfold takeD; rw [if_pos hk]
  rw [ht]
  refine w44_ok hT ?_
  unfold w44
  refine s_box rfl rfl ?_
  have ce := Holds.push H (encE e).cells
  replace h := h.pushed (.cells (encE e).cells)
  replace g := g.pushed (o := .cells (encE e).cells)
  replace hR : ∀ p ∈ R, (H.push (.cells (encE e).cells)).toks[p.1]? = some p.2 := hR
  generalize H.push (.cells (encE e).cells) = H1 at *
  refine j_i ?_
  refine Stp.go ?_
  refine g_h1 ce rfl ?_
  refine Stp.go ?_
  refine i_cT hk ?_
  refine s_map ?_
  have m1 := MapAt.push (.scal .str) AV.str H1
  have h2 := h.pushed (.map [] 0)
  have g2 := g.pushed (o := .map [] 0)
  have hb1 := h.1
  have lg := g.len
  generalize hbm : H1.obs.length = bm at *
  refine gP_i (v := .agg [.nils, .nils, .map bm]) rfl ?_
  refine Stp.go ?_
  refine h_all (l := [.nils, .nils, .map bm]) h2 rfl rfl rfl fun cc => ?_
  refine ⟨rfl, g2.put lb, bm, cc, lb, ?_, .inl ⟨rfl, rfl⟩, fun i n hi => by simp at hi, fun i j n m hi => by simp at hi, .inl ⟨rfl, rfl⟩, fun k hk => by simp at hk, ⟨bm, rfl, m1.put h2.1 (by omega), lg, by omega⟩, fun k a hk => (by cases hk), fun p hp => ⟨hR p hp, fun i n hi => by simp at hi⟩⟩
  obtain ⟨_, ⟨l, hl⟩⟩ := g2
  have e1 : ((H1.push (.map [] 0)).put b (.cells [AV.nils, AV.nils, AV.map bm])).toks = H0.toks ++ l := hl
  rw [e1, List.length_append]; omega

theorem take4 {c : List AV} {i : Nat} {a b x y : AV} (h0 : c[4 * i]? = some a) (h1 : c[4 * i + 1]? = some b) (h2 : c[4 * i + 2]? = some x) (h3 : c[4 * i + 3]? = some y) : (c.drop (0 + i * 4)).take 4 = [a, b, x, y] := by
  have e : 0 + i * 4 = 4 * i := by omega
  rw [e]
  have l3 := getElem?_lt h3
  rw [List.drop_eq_getElem_cons (by omega), List.drop_eq_getElem_cons (by omega), List.drop_eq_getElem_cons (by omega), List.drop_eq_getElem_cons (by omega)]
  rw [List.getElem?_eq_getElem (by omega)] at h0 h1 h2 h3
  simp only [Option.some.injEq] at h0 h1 h2 h3
  simp only [List.take_succ_cons, List.take_zero]
  rw [h0, h1, h2, h3]

theorem GC.els {tk : Nat → Nat} {g : List Nd} {c : List AV} {H : AH} {bg : Nat} (h : GC tk g c) (hc : Holds H bg c) : ∃ ys, elems 4 (.slr bg 0 g.length 4) H = some ys ∧ elemsOk 4 ys = true ∧ F2 IsNd ys g := by
  obtain ⟨h1, h2, h3⟩ := h
  refine ⟨(List.range g.length).map fun i => mkElem ((c.drop (0 + i * 4)).take 4), ?_, ?_, ?_⟩
  · simp only [elems, if_true, hc.2]
    rw [if_pos (by omega)]
  · have el : ∀ i, i < g.length → ∃ n, g[i]? = some n ∧ mkElem ((c.drop (0 + i * 4)).take 4) = .agg [.int .i64 n.kind, .str n.tag, .str n.text, kidV (tk i) n] := by
      intro i hi
      obtain ⟨a1, a2, a3, a4⟩ := h3 i _ (List.getElem?_eq_getElem hi)
      exact ⟨_, List.getElem?_eq_getElem hi, by rw [take4 a1 a2 a3 a4]; rfl⟩
    rw [elemsOk, List.all_eq_true]
    intro x hx
    simp only [List.mem_map, List.mem_range] at hx
    obtain ⟨i, hi, rfl⟩ := hx
    obtain ⟨n, _, e⟩ := el i hi
    rw [e]
    have : (kidV (tk i) n).isCell = true := by unfold kidV; split <;> rfl
    have q1 : ∀ k m, (AV.int k m).isCell = true := fun _ _ => rfl
    have q2 : ∀ s, (AV.str s).isCell = true := fun _ => rfl
    simp [AV.def?, AV.cells, this, q1, q2]
  · refine ⟨by simp, fun i x n hx hn => ?_⟩
    have hi := getElem?_lt hn
    rw [List.getElem?_map, List.getElem?_range hi] at hx
    simp only [Option.map_some, Option.some.injEq] at hx
    obtain ⟨a1, a2, a3, a4⟩ := h3 i n hn
    rw [take4 a1 a2 a3 a4] at hx
    subst hx
    refine ⟨kidV (tk i) n, rfl, ?_⟩
    unfold kidV
    split
    · rename_i e; exact .inl ⟨rfl, e⟩
    · exact RowOf.ints _

theorem ctake1 (hT : Has T) {H0 H : AH} {R : List (Nat × (Nat × Nat))} {b : Nat} {d : Dc} {gv ov mv : AV} {tk : Nat → Nat} (h : DocA H0 H b R d gv ov mv tk) (g : Grow H0 H) (hp : 0 < H0.toks.length) (hok : OkG d.g) (e : Ev) (hk : e.kind = 1) :
    ∃ w H', Den.of T 44 [.ptr b 0, encE e] H = some (w, H') ∧ w = .tup [.bool (takeD d e).2.1, .int .i64 (takeD d e).2.2] ∧ Grow H0 H' ∧ (∃ x y z, Holds H' b [x, y, z] ∧ IsG x d.g) ∧ ∀ p ∈ R, H'.toks[p.1]? = some p.2 := by
  have ht : takeD d e = if twice d.g = true then (d, false, 12) else (d, true, 0) := by unfold takeD; rw [if_neg (by omega), if_pos hk]
  rw [ht]
  refine w44_ok hT ?_
  unfold w44
  refine s_box rfl rfl ?_
  have ce := Holds.push H (encE e).cells
  replace h := h.grow (.push H (.cells (encE e).cells))
  replace g := g.pushed (o := .cells (encE e).cells)
  generalize H.push (.cells (encE e).cells) = H1 at *
  refine j_i ?_
  refine Stp.go ?_
  refine g_h1 ce rfl ?_
  refine Stp.go ?_
  refine i_cF (by omega) ?_
  refine Stp.go ?_
  refine i_cT hk ?_
  have fin : ∀ {H5 : AH} {x : AV}, Holds H5 b [x, ov, mv] → Grow H0 H5 → IsG x d.g → H5.toks = H1.toks → gP (aNilck (.ptr b 0)) fun x22 => gP (aFieldAddr 0 x22) fun x23 => gP (aLoad none x23 H5) fun x24 => cP (Den.of T) 63 [x24] H5 fun x25 H6 => iP x25
      ((fun w H' => w = AV.tup [.bool (if twice d.g = true then (d, false, 12) else (d, true, (0 : Int))).2.1, .int .i64 (if twice d.g = true then (d, false, 12) else (d, true, (0 : Int))).2.2] ∧ Grow H0 H' ∧ (∃ x y z, Holds H' b [x, y, z] ∧ IsG x d.g) ∧ ∀ p ∈ R, H'.toks[p.1]? = some p.2) (.tup [(.bool false), (.int .i64 12)]) H6)
      ((fun w H' => w = AV.tup [.bool (if twice d.g = true then (d, false, 12) else (d, true, (0 : Int))).2.1, .int .i64 (if twice d.g = true then (d, false, 12) else (d, true, (0 : Int))).2.2] ∧ Grow H0 H' ∧ (∃ x y z, Holds H' b [x, y, z] ∧ IsG x d.g) ∧ ∀ p ∈ R, H'.toks[p.1]? = some p.2) (.tup [(.bool true), (.int .i64 0)]) H6) := by
    intro H5 x h5 g5 hx ht5
    have keepR : ∀ {H6 : AH}, Grow H5 H6 → ∀ p ∈ R, H6.toks[p.1]? = some p.2 := fun g6 p hp => by
      have h1 := (h.res p hp).1
      rw [← ht5] at h1
      rw [g6.tok (getElem?_lt h1)]; exact h1
    refine Stp.go ?_
    refine Stp.go ?_
    refine g_h1 h5 rfl ?_
    refine c_gr (twice_ok hT hx hok H5 (g5.pos hp)) fun H6 g6 => ?_
    refine i_i (fun hc => ?_) (fun hc => ?_)
    · exact ⟨by rw [if_pos hc], g5.trans g6, ⟨_, _, _, h5.grow g6, hx⟩, keepR g6⟩
    · exact ⟨by rw [if_neg (by rw [hc]; decide)], g5.trans g6, ⟨_, _, _, h5.grow g6, hx⟩, keepR g6⟩
  rcases h.gr with ⟨rfl, eg⟩ | ⟨bg, cg, rfl, r2, r3, r4, r5, r6⟩
  · refine h_sealN h.hold rfl ?_
    exact fin h.hold g (.inl ⟨rfl, eg⟩) rfl
  · obtain ⟨ys, e1, e2, e3⟩ := r5.els r2
    refine hP_i (v := (H1.put bg .dead).put b (.cells ([AV.slr bg 0 d.g.length 4, ov, mv].set 0 (.sl 0 4 ys)))) ?_ ?_
    · simp only [sealAt, sealCell, h.hold.2, Nat.zero_add, List.getElem?_cons_zero, e1]
      rw [if_pos ⟨r4, by decide, e2⟩]; rfl
    · have hb := h.hold.1
      have h5 : Holds ((H1.put bg .dead).put b (.cells ([AV.slr bg 0 d.g.length 4, ov, mv].set 0 (.sl 0 4 ys)))) b [.sl 0 4 ys, ov, mv] := ⟨by rw [put_len, put_len]; exact hb, by rw [put_get (by rw [put_len]; exact hb), if_pos rfl]; rfl⟩
      exact fin h5 ((g.put r3).put h.lb) (.inr ⟨0, ys, rfl, e3⟩) rfl

/-! ### All that stands between -/
theorem ctakeN (hT : Has T) {H0 H : AH} {R : List (Nat × (Nat × Nat))} {b : Nat} {d : Dc} {gv ov mv : AV} {tk : Nat → Nat} (h : DocA H0 H b R d gv ov mv tk) (g : Grow H0 H) (hp : 0 < H0.toks.length) {N : Nat} (hN : N < 2 ^ 40) (hgl : d.g.length < 2 ^ 40) (hop : d.op.length ≤ N) (hkl : ∀ n ∈ d.g, n.kids.length ≤ N) (e : Ev) (htl : e.text.length < 2 ^ 60)
    (h0 : ¬ e.kind = 0) (h1 : ¬ e.kind = 1) (hpop : e.kind = 3 ∨ e.kind = 5 → d.op ≠ []) :
    ∃ w H', Den.of T 44 [.ptr b 0, encE e] H = some (w, H') ∧ w = .tup [.bool (takeD d e).2.1, .int .i64 (takeD d e).2.2] ∧ Grow H0 H' ∧ ((takeD d e).2.2 = 0 → ∃ gv' ov' tk', DocA H0 H' b R (takeD d e).1 gv' ov' mv tk') := by
  refine w44_ok hT ?_
  unfold w44
  refine s_box rfl rfl ?_
  have ce := Holds.push H (encE e).cells
  replace h := h.grow (.push H (.cells (encE e).cells))
  replace g := g.pushed (o := .cells (encE e).cells)
  generalize H.push (.cells (encE e).cells) = H1 at *
  refine j_i ?_
  refine Stp.go ?_
  refine g_h1 ce rfl ?_
  refine Stp.go ?_
  refine i_cF h0 ?_
  refine Stp.go ?_
  refine i_cF h1 ?_
  refine j1 (fun x H' => x = .bool (decide (e.kind = 3 ∨ e.kind = 5)) ∧ H1 = H') ?_ ?_
  rotate_left
  · intro j hj
    refine Stp.go ?_
    refine i_c (fun h3 => ?_) (fun h3 => ?_)
    · exact hj _ _ ⟨by rw [beq_iff_eq.2 h3, decide_eq_true (.inl h3)], rfl⟩
    · refine Stp.go ?_
      refine hj _ _ ⟨?_, rfl⟩
      congr 1
      rw [Bool.eq_iff_iff]
      simp [h3]
  rintro _ _ ⟨rfl, rfl⟩
  refine i_c (fun h3 => ?_) (fun h3 => ?_)
  · have ht : takeD d e = (⟨d.g, d.op.dropLast, d.nm⟩, false, 0) := by unfold takeD; rw [if_neg h0, if_neg h1, if_pos h3]
    rw [ht]
    obtain ⟨op', o, hop'⟩ : ∃ l' p, d.op = l' ++ [p] := (last_split (l := d.op)).resolve_left (hpop h3)
    rcases h.orow with ⟨_, eo⟩ | ⟨bo, co, rfl, o2, o3, o4, o5, o6, o7⟩
    · exact absurd eo (hpop h3)
    have hol : d.op.length = op'.length + 1 := by rw [hop']; simp
    (repeat (first | (with_reducible first | refine Stp.go ?_ | (refine i_cT ?_ ?_; · first | assumption | decide | exact rfl) | (refine i_cF ?_ ?_; · first | assumption | decide | exact rfl) | (refine i_T ?_ ?_; · first | assumption | exact rfl) | (refine i_F ?_ ?_; · first | assumption | exact rfl) | (refine Sts.go ?_ ?_; · first | omega | decide) | refine Stu.go ?_) | refine g_h1 h.hold rfl ?_ | refine g_lenR ?_))
    have e1 : ((d.op.length : Nat) : Int) - 1 = ((op'.length : Nat) : Int) := by omega
    rw [e1]
    refine gP_i (v := .slr bo 0 op'.length 1) ?_ ?_
    · simp only [aSlc, aSlice, if_true, Nat.zero_mul, Nat.add_zero, Option.map_some]
      rw [if_pos ⟨by omega, by omega⟩]
      simp
    refine Stp.go ?_
    refine Stp.go ?_
    refine h_one h.hold (by simp) rfl fun cc => ?_
    have hb := h.hold.1
    refine ⟨rfl, g.put h.lb, fun _ => ⟨gv, .slr bo 0 op'.length 1, tk, cc, h.lb, h.lt, ?_, h.kt, h.ki, .inr ⟨bo, co, by simp [hop'], o2.put hb o4, o3, o4, o5, by simp; omega, fun i k hi => ?_⟩, fun k hk => ?_, ?_, h.nmin, h.res⟩⟩
    · rcases h.gr with r | ⟨bg, cg, r1, r2, r3, r4, r5, r6⟩
      · exact .inl r
      · exact .inr ⟨bg, cg, r1, r2.put hb r4, r3, r4, r5, fun bo' n e => by cases e; exact r6 bo _ rfl⟩
    · have hi' : d.op.dropLast[i]? = some k := hi
      refine o7 i k ?_
      rw [hop', List.dropLast_concat] at hi'
      rw [hop', List.getElem?_append_left (getElem?_lt hi')]; exact hi'
    · exact h.opin k (List.dropLast_subset _ hk)
    · obtain ⟨bm, m1, m2, m3, m4⟩ := h.nms
      exact ⟨bm, m1, m2.put hb m4, m3, m4⟩
  refine Stp.go ?_
  refine i_c (fun h7 => ?_) (fun h7 => ?_)
  · obtain ⟨bm, rfl, m2, m3, m4⟩ := h.nms
    have ht : takeD d e = match d.nm e.anchor with
        | none => (d, false, 11)
        | some a => ((kidD d a).1, false, (kidD d a).2) := by unfold takeD; rw [if_neg h0, if_neg h1, if_neg h3, if_pos h7]; cases d.nm e.anchor <;> rfl
    rw [ht]
    (repeat (first | (with_reducible first | refine Stp.go ?_ | (refine i_cT ?_ ?_; · first | assumption | decide | exact rfl) | (refine i_cF ?_ ?_; · first | assumption | decide | exact rfl) | (refine i_T ?_ ?_; · first | assumption | exact rfl) | (refine i_F ?_ ?_; · first | assumption | exact rfl) | (refine Sts.go ?_ ?_; · first | omega | decide) | refine Stu.go ?_) | refine g_h1 h.hold rfl ?_ | refine g_h1 ce rfl ?_))
    refine g_lookOk m2 keyS ?_
    cases hn : d.nm e.anchor with
    | none =>
      have e1 : nmV d.nm e.anchor = none := by simp [nmV, hn]
      rw [e1]
      (repeat (with_reducible first | refine Stp.go ?_ | (refine i_cT ?_ ?_; · first | assumption | decide | exact rfl) | (refine i_cF ?_ ?_; · first | assumption | decide | exact rfl) | (refine i_T ?_ ?_; · first | assumption | exact rfl) | (refine i_F ?_ ?_; · first | assumption | exact rfl) | (refine Sts.go ?_ ?_; · first | omega | decide) | refine Stu.go ?_))
      refine i_F rfl ?_
      exact ⟨rfl, g, fun e => by cases e⟩
    | some a =>
      have e1 : nmV d.nm e.anchor = some (.int .i64 a) := by simp [nmV, hn]
      rw [e1]
      refine Stp.go ?_
      refine Stp.go ?_
      refine Stp.go ?_
      refine Stp.go ?_
      refine i_T rfl ?_
      have ha := h.nmin _ _ hn
      refine c_i (kid_ok hT h g hp hN hgl hop hkl ha) ?_
      rintro _ H8 ⟨rfl, g8, ⟨tk', h8⟩, _⟩
      exact ⟨rfl, g8, fun _ => ⟨gv, ov, tk', h8⟩⟩
  · have ht : takeD d e = ((nodeD d e).1, false, (nodeD d e).2) := by unfold takeD; rw [if_neg h0, if_neg h1, if_neg h3, if_neg h7]
    rw [ht]
    refine g_hN ce rfl ?_
    refine c_i (cnode_ok hT h g hp hN hop hkl e htl) ?_
    rintro _ H8 ⟨rfl, g8, h8⟩
    exact ⟨rfl, g8, h8⟩

end Go.SV
