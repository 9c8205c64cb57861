/- Contracts: rows of graphs; what they use, whether they keep within limits. Own text of the prover; nothing is assumed. -/
import Derived.Test.YtkbkhdgjdikjiaaDoorCp
set_option maxRecDepth 100000
namespace Go.SV

variable {T : Nat → Option Entry}

def heavyR (l : List (List Nd)) : Bool := l.any heavy || decide (5 < l.length)

theorem heavyR_ok (hT : Has T) {v : AV} {l : List (List Nd)} (hv : RowOf 1 IsGv v l) (hl : l.length < 2 ^ 63) (hg : ∀ g ∈ l, g.length < 2 ^ 63) (H : AH) :
    ∃ H', Den.of T 36 [v] H = some (.bool (heavyR l), H') ∧ Grow H H' := by
  refine gr_of (w36_ok hT ?_)
  unfold w36
  refine g_lenW hv ?_
  refine l1 (fun m a H' => ∃ i : Nat, a = .int .i64 i ∧ i ≤ l.length ∧ Grow H H' ∧ heavyR l = ((l.drop i).any heavy || decide (5 < l.length)) ∧ m = l.length - i) l.length ⟨0, rfl, Nat.zero_le _, .refl _, rfl, rfl⟩ ?_
  rintro m _ H1 ⟨i, rfl, hi, g1, he, hm⟩
  (repeat (with_reducible first | refine Stp.go ?_ | (refine i_cT ?_ ?_; · first | assumption | decide | exact rfl) | (refine i_cF ?_ ?_; · first | assumption | decide | exact rfl) | (refine i_T ?_ ?_; · first | assumption | exact rfl) | (refine i_F ?_ ?_; · first | assumption | exact rfl) | (refine Sts.go ?_ ?_; · first | omega | decide) | refine Stu.go ?_))
  refine i_dec (fun h => ?_) (fun h => ?_)
  rotate_left
  · rw [List.drop_eq_nil_of_le (by omega), List.any_nil, Bool.false_or] at he
    (repeat (first | (with_reducible first | refine Stp.go ?_ | (refine i_cT ?_ ?_; · first | assumption | decide | exact rfl) | (refine i_cF ?_ ?_; · first | assumption | decide | exact rfl) | (refine i_T ?_ ?_; · first | assumption | exact rfl) | (refine i_F ?_ ?_; · first | assumption | exact rfl) | (refine Sts.go ?_ ?_; · first | omega | decide) | refine Stu.go ?_) | refine g_lenW hv ?_))
    refine ⟨?_, g1⟩
    rw [he]
    congr 1
    rw [Bool.eq_iff_iff, decide_eq_true_eq, decide_eq_true_eq]
    omega
  have hlt : i < l.length := by omega
  have hgl := hg _ (List.getElem_mem hlt)
  rw [List.drop_eq_getElem_cons hlt, List.any_cons] at he
  refine g_atn hv (List.getElem?_eq_getElem hlt) fun x hx => ?_
  have hxg : IsG x l[i] := hx
  rw [hxg.cells]
  refine g_ldv ?_
  refine c_gb g1 (heavy_ok hT hxg hgl H1) fun H2 g2 => ?_
  refine i_i (fun hh => ?_) (fun hh => ?_)
  · exact ⟨by rw [he, hh]; rfl, g2⟩
  · (repeat (with_reducible first | refine Stp.go ?_ | (refine i_cT ?_ ?_; · first | assumption | decide | exact rfl) | (refine i_cF ?_ ?_; · first | assumption | decide | exact rfl) | (refine i_T ?_ ?_; · first | assumption | exact rfl) | (refine i_F ?_ ?_; · first | assumption | exact rfl) | (refine Sts.go ?_ ?_; · first | omega | decide) | refine Stu.go ?_))
    exact ⟨l.length - (i + 1), by omega, i + 1, by congr 1, by omega, g2, by rw [he, hh, Bool.false_or], rfl⟩

theorem lightR {l : List (List Nd)} (h : heavyR l = false) : (∀ g ∈ l, heavy g = false) ∧ (∀ g ∈ l, OkG g) ∧ l.length ≤ 5 := by
  simp only [heavyR, Bool.or_eq_false_iff, List.any_eq_false, decide_eq_false_iff_not] at h
  have h1 : ∀ g ∈ l, heavy g = false := fun g hg => by simpa using h.1 g hg
  exact ⟨h1, fun g hg => (light (h1 g hg)).1, by omega⟩

theorem memR {l : List (List Nd)} (h : ∀ g ∈ l, OkG g) (hl : l.length ≤ 100) : MemR l := ⟨by omega, fun g hg => (h g hg).mem⟩
theorem theirsR_ok (hT : Has T) {v : AV} {l : List (List Nd)} (hv : RowOf 1 IsGv v l) (hg : MemR l) (H : AH) (hp : 0 < H.toks.length) :
    ∃ v' H', Den.of T 37 [v] H = some (v', H') ∧ (∃ xs, Tok H H' 1 v' xs ∧ F2 IsGv xs l) ∧ Grow H H' := by
  refine w37_ok hT ?_
  unfold w37
  refine g_lenW hv ?_
  have hgl0 := hg.1
  refine l2 (fun m a c H' => ∃ (i : Nat) (xs : List AV), c = .int .i64 i ∧ i ≤ l.length ∧ Grow H H' ∧ Tok H H' 1 a xs ∧ F2 IsGv xs (l.take i) ∧ m = l.length - i) l.length ⟨0, [], rfl, Nat.zero_le _, .refl _, .nil _ _ _, by simp; exact .nil, rfl⟩ ?_
  rintro m ov _ H1 ⟨i, xs, rfl, hi, g1, ht, hf, hm⟩
  (repeat (with_reducible first | refine Stp.go ?_ | (refine i_cT ?_ ?_; · first | assumption | decide | exact rfl) | (refine i_cF ?_ ?_; · first | assumption | decide | exact rfl) | (refine i_T ?_ ?_; · first | assumption | exact rfl) | (refine i_F ?_ ?_; · first | assumption | exact rfl) | (refine Sts.go ?_ ?_; · first | omega | decide) | refine Stu.go ?_))
  refine i_dec (fun h => ?_) (fun h => ?_)
  rotate_left
  · rw [show i = l.length by omega, List.take_length] at hf
    exact ⟨⟨xs, ht, hf⟩, g1⟩
  have hlt : i < l.length := by omega
  have htk : l.take (i + 1) = l.take i ++ [l[i]] := by rw [List.take_add_one, List.getElem?_eq_getElem hlt]; rfl
  have hni := hg.2 _ (List.getElem_mem hlt)
  have hgl := hg.1
  refine g_atn hv (List.getElem?_eq_getElem hlt) fun x hx => ?_
  generalize l[i] = g at *
  have hxg : IsG x g := hx
  rw [hxg.cells]
  refine g_ldv ?_
  refine c_i (theirs_ok hT hxg hni H1 (g1.pos hp)) ?_
  rintro v2 H2 ⟨hv2, e2⟩
  have g2 := g1.trans e2
  refine s_lit (by have := hv2.def; have := hv2.cells; have := hv2.cell; simp [elemsOk, *]) ?_
  have hxl : xs.length = i := by rw [hf.1, List.length_take]; omega
  refine s_app (ht.grow e2) g2 hp (by simp) (by have := hv2.def; have := hv2.cells; have := hv2.cell; simp [elemsOk, *]) (by rw [hxl]; simp; omega) fun v3 H3 ht3 g3 ho => ?_
  (repeat (with_reducible first | refine Stp.go ?_ | (refine i_cT ?_ ?_; · first | assumption | decide | exact rfl) | (refine i_cF ?_ ?_; · first | assumption | decide | exact rfl) | (refine i_T ?_ ?_; · first | assumption | exact rfl) | (refine i_F ?_ ?_; · first | assumption | exact rfl) | (refine Sts.go ?_ ?_; · first | omega | decide) | refine Stu.go ?_))
  refine ⟨l.length - (i + 1), by omega, i + 1, xs ++ [v2], rfl, by omega, g3, ht3, ?_, rfl⟩
  rw [htk]
  exact hf.snoc hv2

/-! ### What graphs use -/
def nodesU (l : List (List Nd)) : Nat := (l.map fun g => (order g).length).sum
def deepU (l : List (List Nd)) : Nat := (l.map deepG).foldl max 0
def useL (l : List (List Nd)) : Lim := ⟨0, 0, l.length, nodesU l, deepU l⟩

theorem nodesU_le : ∀ {l : List (List Nd)}, (∀ g ∈ l, OkG g) → nodesU l ≤ l.length * 2 ^ 32 := by
  intro l
  induction l with
  | nil => intro _; simp [nodesU]
  | cons a l ih =>
    intro h
    have h1 := ih fun g hg => h g (by simp [hg])
    have h2 := (h a (by simp)).1
    have h3 := order_len a
    simp only [nodesU, List.map_cons, List.sum_cons, List.length_cons] at h1 ⊢
    omega

theorem use_ok (hT : Has T) (hK : Knows T) {v : AV} {l : List (List Nd)} (hv : RowOf 1 IsGv v l) (hl : l.length ≤ 100) (hg : ∀ g ∈ l, OkG g) (H : AH) (hp : 0 < H.toks.length) :
    ∃ H', Den.of T 41 [v] H = some (encL (useL l), H') ∧ Grow H H' := by
  refine gr_of (w41_ok hT ?_)
  unfold w41
  refine a_i ?_
  have c1 := Holds.push H [AV.int .i64 0, AV.int .i64 0, AV.int .i64 0, AV.int .i64 0, AV.int .i64 0]
  have le1 := Grow.len (.refl H)
  have g1 := Grow.trans (.refl H) (.push H (.cells [AV.int .i64 0, AV.int .i64 0, AV.int .i64 0, AV.int .i64 0, AV.int .i64 0]))
  generalize H.push (.cells [AV.int .i64 0, AV.int .i64 0, AV.int .i64 0, AV.int .i64 0, AV.int .i64 0]) = H1 at *
  generalize hb1 : H.obs.length = b1 at *
  refine g_lenW hv ?_
  refine gP_i (v := encL ⟨0, 0, l.length, 0, 0⟩) rfl ?_
  have q1 := c1.1
  refine a_i ?_
  have q2_c1 := Holds.lt c1
  replace c1 := Holds.pushed c1 (.cells [AV.int .i64 0, AV.int .i64 0, AV.int .i64 0, AV.int .i64 0, AV.int .i64 0])
  have c2 := Holds.push H1 [AV.int .i64 0, AV.int .i64 0, AV.int .i64 0, AV.int .i64 0, AV.int .i64 0]
  have le2 := Grow.len g1
  have g2 := Grow.trans g1 (.push H1 (.cells [AV.int .i64 0, AV.int .i64 0, AV.int .i64 0, AV.int .i64 0, AV.int .i64 0]))
  generalize H1.push (.cells [AV.int .i64 0, AV.int .i64 0, AV.int .i64 0, AV.int .i64 0, AV.int .i64 0]) = H2 at *
  generalize hb2 : H1.obs.length = b2 at *
  refine h_all (l := li5 0 0 l.length 0 0) c2 rfl rfl rfl fun c3 => ?_
  replace c1 := put_holds (o := .cells (li5 0 0 l.length 0 0)) c1 c2.1 (by omega)
  have g3 := g2.put (o := .cells (li5 0 0 l.length 0 0)) le2
  generalize H2.put b2 (.cells (li5 0 0 l.length 0 0)) = H3 at *
  have ne : b1 ≠ b2 := by omega
  clear c2 g1 g2 q1
  refine g_lenW hv ?_
  refine l1 (fun m a H' => ∃ i : Nat, a = .int .i64 i ∧ i ≤ l.length ∧ Grow H H' ∧ Holds H' b1 [AV.int .i64 0, AV.int .i64 0, AV.int .i64 0, AV.int .i64 0, AV.int .i64 0] ∧ Holds H' b2 (li5 0 0 l.length (nodesU (l.take i)) (deepU (l.take i))) ∧ m = l.length - i) l.length
    ⟨0, rfl, Nat.zero_le _, g3, c1, c3, rfl⟩ ?_
  rintro m _ H4 ⟨i, rfl, hi, g4, c1, c3, hm⟩
  (repeat (with_reducible first | refine Stp.go ?_ | (refine i_cT ?_ ?_; · first | assumption | decide | exact rfl) | (refine i_cF ?_ ?_; · first | assumption | decide | exact rfl) | (refine i_T ?_ ?_; · first | assumption | exact rfl) | (refine i_F ?_ ?_; · first | assumption | exact rfl) | (refine Sts.go ?_ ?_; · first | omega | decide) | refine Stu.go ?_))
  refine i_dec (fun h => ?_) (fun h => ?_)
  rotate_left
  · rw [show i = l.length by omega, List.take_length] at c3
    refine g_hN c3 rfl ?_
    refine h_all (l := lc (useL l)) c1 rfl rfl rfl fun c5 => ?_
    refine g_hN c5 rfl ?_
    exact ⟨rfl, g4.put (Nat.le_of_eq hb1)⟩
  have hlt : i < l.length := by omega
  have htk : l.take (i + 1) = l.take i ++ [l[i]] := by rw [List.take_add_one, List.getElem?_eq_getElem hlt]; rfl
  have hni := hg _ (List.getElem_mem hlt)
  have hnu := nodesU_le fun g (hgm : g ∈ l.take i) => hg g (List.mem_of_mem_take hgm)
  rw [List.length_take] at hnu
  refine g_atn hv (List.getElem?_eq_getElem hlt) fun x hx => ?_
  generalize l[i] = g at *
  have hxg : IsG x g := hx
  rw [hxg.cells]
  have hol := order_len g
  have hgl := hni.1
  have hN : nodesU (l.take (i + 1)) = nodesU (l.take i) + (order g).length := by rw [htk]; simp [nodesU]
  have hD : deepU (l.take (i + 1)) = max (deepU (l.take i)) (deepG g) := by rw [htk]; simp [deepU]
  (repeat (first | (with_reducible first | refine Stp.go ?_ | (refine i_cT ?_ ?_; · first | assumption | decide | exact rfl) | (refine i_cF ?_ ?_; · first | assumption | decide | exact rfl) | (refine i_T ?_ ?_; · first | assumption | exact rfl) | (refine i_F ?_ ?_; · first | assumption | exact rfl) | (refine Sts.go ?_ ?_; · first | omega | decide) | refine Stu.go ?_) | refine g_h1 c3 rfl ?_))
  refine c_i (order_ok hT hK hxg hni H4 (g4.pos hp)) ?_
  rintro ov H5 ⟨hov, e5⟩
  have g5 := g4.trans e5
  have d3 := c3.grow e5
  refine g_lenW hov ?_
  (repeat (with_reducible first | refine Stp.go ?_ | (refine i_cT ?_ ?_; · first | assumption | decide | exact rfl) | (refine i_cF ?_ ?_; · first | assumption | decide | exact rfl) | (refine i_T ?_ ?_; · first | assumption | exact rfl) | (refine i_F ?_ ?_; · first | assumption | exact rfl) | (refine Sts.go ?_ ?_; · first | omega | decide) | refine Stu.go ?_))
  refine h_one d3 (by simp) rfl fun c6 => ?_
  have e6 : (li5 0 0 l.length (nodesU (l.take i)) (deepU (l.take i))).set 3 (AV.int .i64 (nodesU (l.take i) + (order g).length)) = li5 0 0 l.length (nodesU (l.take (i + 1))) (deepU (l.take i)) := by
    rw [hN]; rfl
  rw [e6] at c6 ⊢
  have c16 := put_holds (o := .cells (li5 0 0 l.length (nodesU (l.take (i + 1))) (deepU (l.take i)))) (c1.grow e5) d3.1 ne
  have g6 := g5.put (o := .cells (li5 0 0 l.length (nodesU (l.take (i + 1))) (deepU (l.take i)))) le2
  refine ⟨same_grow e5 c3.1, ?_⟩
  generalize H5.put b2 (.cells (li5 0 0 l.length (nodesU (l.take (i + 1))) (deepU (l.take i)))) = H6 at *
  (repeat (first | (with_reducible first | refine Stp.go ?_ | (refine i_cT ?_ ?_; · first | assumption | decide | exact rfl) | (refine i_cF ?_ ?_; · first | assumption | decide | exact rfl) | (refine i_T ?_ ?_; · first | assumption | exact rfl) | (refine i_F ?_ ?_; · first | assumption | exact rfl) | (refine Sts.go ?_ ?_; · first | omega | decide) | refine Stu.go ?_) | refine g_h1 c6 rfl ?_))
  refine c_gr (deep_ok hT hK hxg hni H6 (g6.pos hp)) fun H7 e7 => ?_
  (repeat (with_reducible first | refine Stp.go ?_ | (refine i_cT ?_ ?_; · first | assumption | decide | exact rfl) | (refine i_cF ?_ ?_; · first | assumption | decide | exact rfl) | (refine i_T ?_ ?_; · first | assumption | exact rfl) | (refine i_F ?_ ?_; · first | assumption | exact rfl) | (refine Sts.go ?_ ?_; · first | omega | decide) | refine Stu.go ?_))
  refine h_one (c6.grow e7) (by simp) rfl fun c8 => ?_
  have e8 : (li5 0 0 l.length (nodesU (l.take (i + 1))) (deepU (l.take i))).set 4 (AV.int .i64 (max (deepU (l.take i)) (deepG g))) = li5 0 0 l.length (nodesU (l.take (i + 1))) (deepU (l.take (i + 1))) := by
    rw [hD]; simp only [lc, List.set_cons_succ, List.set_cons_zero]; congr 6; omega
  rw [e8] at c8 ⊢
  refine ⟨same_grow e7 c6.1, ?_⟩
  (repeat (with_reducible first | refine Stp.go ?_ | (refine i_cT ?_ ?_; · first | assumption | decide | exact rfl) | (refine i_cF ?_ ?_; · first | assumption | decide | exact rfl) | (refine i_T ?_ ?_; · first | assumption | exact rfl) | (refine i_F ?_ ?_; · first | assumption | exact rfl) | (refine Sts.go ?_ ?_; · first | omega | decide) | refine Stu.go ?_))
  exact ⟨l.length - (i + 1), by omega, i + 1, by congr 1, by omega, (g6.trans e7).put le2, put_holds (c16.grow e7) (c6.grow e7).1 ne, c8, rfl⟩

/-! ### Whether they keep within limits -/
theorem indexG_ok (hT : Has T) {v : AV} {l : List (List Nd)} (hv : RowOf 1 IsGv v l) (hl : l.length < 2 ^ 40) (F : Nat) (cap : List AV) (p : List Nd → Bool) (hF : F < 100000) (H : AH)
    (hp : ∀ g ∈ l, ∀ x, IsG x g → ∀ H', Grow H H' → ∃ H'', Den.of T F (x :: cap) H' = some (.bool (p g), H'') ∧ Grow H' H'') :
    ∃ v' H', Den.of T 89 [v, .fn (.func F) [] cap] H = some (v', H') ∧ (∃ i : Int, v' = .int .i64 i ∧ decide (i ≥ 0) = l.any p) ∧ Grow H H' := by
  refine w89_ok hT ?_
  unfold w89
  refine g_lenW hv ?_
  refine l1 (fun m a H' => ∃ i : Nat, a = .int .i64 i ∧ Grow H H' ∧ l.any p = (l.drop i).any p ∧ m = l.length - i) l.length ⟨0, rfl, .refl _, by simp, by simp⟩ ?_
  rintro m _ H1 ⟨i, rfl, hg, he, hm⟩
  (repeat' (first | (first | (with_reducible first | refine Stp.go ?_ | (refine i_cT ?_ ?_; · first | assumption | decide | exact rfl) | (refine i_cF ?_ ?_; · first | assumption | decide | exact rfl) | (refine i_T ?_ ?_; · first | assumption | exact rfl) | (refine i_F ?_ ?_; · first | assumption | exact rfl) | (refine Sts.go ?_ ?_; · first | omega | decide) | refine Stu.go ?_) | refine j_i ?_) | (with_reducible first | refine i_c (fun h => ?_) (fun h => ?_) | refine i_i (fun h => ?_) (fun h => ?_))))
  · have hlt : i < l.length := by omega
    refine g_atn hv (List.getElem?_eq_getElem hlt) fun x hx => ?_
    have hxg : IsG x l[i] := hx
    rw [hxg.cells]
    rw [List.drop_eq_getElem_cons hlt, List.any_cons] at he
    refine g_ldv ?_
    refine v_c hF rfl ?_
    refine c_gb hg (hp _ (List.getElem_mem hlt) _ hxg H1 hg) fun H2 hg2 => ?_
    (repeat' (first | (first | (with_reducible first | refine Stp.go ?_ | (refine i_cT ?_ ?_; · first | assumption | decide | exact rfl) | (refine i_cF ?_ ?_; · first | assumption | decide | exact rfl) | (refine i_T ?_ ?_; · first | assumption | exact rfl) | (refine i_F ?_ ?_; · first | assumption | exact rfl) | (refine Sts.go ?_ ?_; · first | omega | decide) | refine Stu.go ?_) | refine j_i ?_) | (with_reducible first | refine i_c (fun h => ?_) (fun h => ?_) | refine i_i (fun h => ?_) (fun h => ?_))))
    · exact ⟨⟨_, rfl, by rw [he, h]; simp⟩, hg2⟩
    · exact ⟨l.length - (i + 1), by omega, i + 1, by simp, hg2, by rw [he, h, Bool.false_or], rfl⟩
  · rw [List.drop_eq_nil_of_le (by omega)] at he
    exact ⟨⟨_, rfl, by rw [he]; rfl⟩, hg⟩

theorem containsG_ok (hT : Has T) {v : AV} {l : List (List Nd)} (hv : RowOf 1 IsGv v l) (hl : l.length < 2 ^ 40) (F : Nat) (cap : List AV) (p : List Nd → Bool) (hF : F < 100000) (H : AH)
    (hp : ∀ g ∈ l, ∀ x, IsG x g → ∀ H', Grow H H' → ∃ H'', Den.of T F (x :: cap) H' = some (.bool (p g), H'') ∧ Grow H' H'') :
    ∃ H', Den.of T 61 [v, .fn (.func F) [] cap] H = some (.bool (l.any p), H') ∧ Grow H H' := by
  refine gr_of (w61_ok hT ?_)
  unfold w61
  refine c_i (indexG_ok hT hv hl F cap p hF H hp) ?_
  rintro v' H' ⟨⟨i, rfl, hi⟩, hg⟩
  (repeat (with_reducible first | refine Stp.go ?_ | (refine i_cT ?_ ?_; · first | assumption | decide | exact rfl) | (refine i_cF ?_ ?_; · first | assumption | decide | exact rfl) | (refine i_T ?_ ?_; · first | assumption | exact rfl) | (refine i_F ?_ ?_; · first | assumption | exact rfl) | (refine Sts.go ?_ ?_; · first | omega | decide) | refine Stu.go ?_))
  exact ⟨by rw [hi], hg⟩

def fitL (l : Lim) (gs : List (List Nd)) : Lim := ⟨l.i, l.o, gs.length, nodesU gs, deepU gs⟩
def graphsL (l : Lim) (gs : List (List Nd)) : Int := if (rightL l && gs.any fun g => !rightG g) = true then 5 else keepsL l (decide (leastL (fitL l gs) l = fitL l gs))

theorem graphs_ok (hT : Has T) (hK : Knows T) (l : Lim) {v : AV} {gs : List (List Nd)} (hv : RowOf 1 IsGv v gs) (hl : gs.length ≤ 100) (hg : ∀ g ∈ gs, OkG g) (H : AH) (hp : 0 < H.toks.length) :
    ∃ H', Den.of T 39 [encL l, v] H = some (.int .i64 (graphsL l gs), H') ∧ Grow H H' := by
  refine gr_of (w39_ok hT ?_)
  unfold w39
  refine s_box rfl rfl ?_
  have c1 := Holds.push H (encL l).cells
  have le1 := Grow.len (.refl H)
  have g1 := Grow.trans (.refl H) (.push H (.cells (encL l).cells))
  generalize H.push (.cells (encL l).cells) = H1 at *
  generalize hb1 : H.obs.length = b1 at *
  refine s_box hv.def (by rw [hv.cells]; simp [hv.cell]) ?_
  rw [hv.cells]
  have q2_c1 := Holds.lt c1
  replace c1 := Holds.pushed c1 (.cells [v])
  have c2 := Holds.push H1 [v]
  have le2 := Grow.len g1
  have g2 := Grow.trans g1 (.push H1 (.cells [v]))
  generalize H1.push (.cells [v]) = H2 at *
  generalize hb2 : H1.obs.length = b2 at *
  refine j1 (fun a H' => a = .bool (rightL l && gs.any fun g => !rightG g) ∧ Grow H2 H') ?_ ?_
  · rintro _ H3 ⟨rfl, e3⟩
    have g3 := g2.trans e3
    refine i_i (fun h => ?_) (fun h => ?_)
    · exact ⟨by rw [graphsL, if_pos h], g3⟩
    refine g_hN (c1.grow e3) rfl ?_
    refine s_fn2 ?_
    refine c_gb g3 (keeps_ok hT l (is := decide (leastL (fitL l gs) l = fitL l gs)) H3 (by decide) fun H4 e4 => gr_of (w62_ok hT ?_)) fun H5 g5 => ⟨?_, g5⟩
    rotate_left
    · rw [graphsL, if_neg (by rw [h]; simp)]
    have f1 := c1.grow (e3.trans e4)
    have f2 := c2.grow (e3.trans e4)
    have g4 := g3.trans e4
    unfold w62
    refine g_h1 f2 rfl ?_
    refine c_gr (use_ok hT hK hv hl hg H4 (g4.pos hp)) fun H6 e6 => ?_
    replace f1 := f1.grow e6
    have g6 := e6
    have q1 := f1.1
    refine a_i ?_
    have q7_f1 := Holds.lt f1
    replace f1 := Holds.pushed f1 (.cells [AV.int .i64 0, AV.int .i64 0, AV.int .i64 0, AV.int .i64 0, AV.int .i64 0])
    have c7 := Holds.push H6 [AV.int .i64 0, AV.int .i64 0, AV.int .i64 0, AV.int .i64 0, AV.int .i64 0]
    have le7 := Grow.len g6
    have g7 := Grow.trans g6 (.push H6 (.cells [AV.int .i64 0, AV.int .i64 0, AV.int .i64 0, AV.int .i64 0, AV.int .i64 0]))
    generalize H6.push (.cells [AV.int .i64 0, AV.int .i64 0, AV.int .i64 0, AV.int .i64 0, AV.int .i64 0]) = H7 at *
    generalize hb7 : H6.obs.length = b7 at *
    refine h_all (l := lc (useL gs)) c7 rfl rfl rfl fun c8 => ?_
    replace f1 := put_holds (o := .cells (lc (useL gs))) f1 c7.1 (by omega)
    have g8 := g7.put (o := .cells (lc (useL gs))) le7
    generalize H7.put b7 (.cells (lc (useL gs))) = H8 at *
    (repeat (first | (with_reducible first | refine Stp.go ?_ | (refine i_cT ?_ ?_; · first | assumption | decide | exact rfl) | (refine i_cF ?_ ?_; · first | assumption | decide | exact rfl) | (refine i_T ?_ ?_; · first | assumption | exact rfl) | (refine i_F ?_ ?_; · first | assumption | exact rfl) | (refine Sts.go ?_ ?_; · first | omega | decide) | refine Stu.go ?_) | refine g_h1 f1 rfl ?_))
    have ne : b1 ≠ b7 := by omega
    refine h_one c8 (by simp) rfl fun c9 => ?_
    have i9 : (lc (useL gs)).set 0 (AV.int .i64 l.i) = lc { useL gs with i := l.i } := rfl
    rw [i9] at c9 ⊢
    have f9 := put_holds (o := .cells (lc { useL gs with i := l.i })) f1 c8.1 ne
    have g9 := g8.put (o := .cells (lc { useL gs with i := l.i })) le7
    generalize H8.put b7 (.cells (lc { useL gs with i := l.i })) = H9 at *
    (repeat (with_reducible first | refine Stp.go ?_ | (refine i_cT ?_ ?_; · first | assumption | decide | exact rfl) | (refine i_cF ?_ ?_; · first | assumption | decide | exact rfl) | (refine i_T ?_ ?_; · first | assumption | exact rfl) | (refine i_F ?_ ?_; · first | assumption | exact rfl) | (refine Sts.go ?_ ?_; · first | omega | decide) | refine Stu.go ?_))
    refine h_one c9 (by simp) rfl fun c10 => ?_
    have i10 : (lc { useL gs with i := l.i }).set 1 (AV.int .i64 l.o) = lc (fitL l gs) := rfl
    rw [i10] at c10 ⊢
    have f10 := put_holds (o := .cells (lc (fitL l gs))) f9 c9.1 ne
    have g10 := g9.put (o := .cells (lc (fitL l gs))) le7
    refine ⟨f9.same f1, ?_⟩
    generalize H9.put b7 (.cells (lc (fitL l gs))) = H10 at *
    refine g_hN c10 rfl ?_
    refine g_hN f10 rfl ?_
    refine c_gr (least_ok hT (fitL l gs) l H10) fun H11 e11 => ?_
    refine g_hN (c10.grow e11) rfl ?_
    refine s_eqL ?_
    exact ⟨same_grow e11 c10.1, rfl, g10.trans e11⟩
  · intro j hj
    refine g_hN c1 rfl ?_
    refine c_gr (lright_ok hT l H2) fun H6 e6 => ?_
    (repeat (with_reducible first | refine Stp.go ?_ | (refine i_cT ?_ ?_; · first | assumption | decide | exact rfl) | (refine i_cF ?_ ?_; · first | assumption | decide | exact rfl) | (refine i_T ?_ ?_; · first | assumption | exact rfl) | (refine i_F ?_ ?_; · first | assumption | exact rfl) | (refine Sts.go ?_ ?_; · first | omega | decide) | refine Stu.go ?_))
    refine i_i (fun h => ?_) (fun h => ?_)
    · refine g_h1 (c2.grow e6) rfl ?_
      refine c_gr (containsG_ok hT hv (by omega) _ [] (fun g => !rightG g) (by decide) H6 fun g hgm x hx H' e' => gr_of (w60_ok hT ?_)) fun H7 e7 => hj _ _ ⟨by rw [h, Bool.true_and], e6.trans e7⟩
      unfold w60
      refine c_gr (rightG_ok hT hK hx (hg g hgm) H' (((g2.trans e6).trans e').pos hp)) fun H8 e8 => ?_
      (repeat (with_reducible first | refine Stp.go ?_ | (refine i_cT ?_ ?_; · first | assumption | decide | exact rfl) | (refine i_cF ?_ ?_; · first | assumption | decide | exact rfl) | (refine i_T ?_ ?_; · first | assumption | exact rfl) | (refine i_F ?_ ?_; · first | assumption | exact rfl) | (refine Sts.go ?_ ?_; · first | omega | decide) | refine Stu.go ?_))
      exact ⟨rfl, e8⟩
    · exact hj _ _ ⟨by rw [h, Bool.false_and], e6⟩

end Go.SV
