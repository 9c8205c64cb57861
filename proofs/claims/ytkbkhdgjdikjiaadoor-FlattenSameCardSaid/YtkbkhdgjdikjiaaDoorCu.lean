/- Contracts: whether graphs, or events, are the same; the law of that. Own text of the prover; nothing is assumed. -/
import Derived.Test.YtkbkhdgjdikjiaaDoorPe
import Derived.Test.YtkbkhdgjdikjiaaDoorCp
set_option maxRecDepth 100000
namespace Go.SV

variable {T : Nat → Option Entry}

theorem drop_eq {α : Type} {l m : List α} {i : Nat} {a b : α} (ha : l[i]? = some a) (hb : m[i]? = some b) : (l.drop i = m.drop i) ↔ a = b ∧ l.drop (i + 1) = m.drop (i + 1) := by
  have h1 := getElem?_lt ha
  have h2 := getElem?_lt hb
  rw [List.getElem?_eq_getElem h1, Option.some.injEq] at ha
  rw [List.getElem?_eq_getElem h2, Option.some.injEq] at hb
  rw [List.drop_eq_getElem_cons h1, List.drop_eq_getElem_cons h2, ha, hb, List.cons.injEq]

theorem eqInts_ok (hT : Has T) {v w : AV} {l m : List Int} (hv : RowOf 1 IsI v l) (hw : RowOf 1 IsI w m) (hl : l.length < 2 ^ 62) (H : AH) :
    Den.of T 88 [v, w] H = some (.bool (decide (l = m)), H) := by
  refine eq_of (w88_ok hT ?_)
  unfold w88
  refine g_lenW hv ?_
  refine g_lenW hw ?_
  refine Stp.go ?_
  refine Stp.go ?_
  refine i_c (fun h => ?_) (fun h => ?_)
  rotate_left
  · exact ⟨by rw [decide_eq_false]; intro e; exact h (by rw [e]), rfl⟩
  refine g_lenW hv ?_
  refine l1 (fun k a H' => ∃ i : Nat, a = .int .i64 i ∧ i ≤ l.length ∧ H = H' ∧ (l = m ↔ l.drop i = m.drop i) ∧ k = l.length - i) l.length ⟨0, rfl, Nat.zero_le _, rfl, Iff.rfl, rfl⟩ ?_
  rintro k _ _ ⟨i, rfl, hi, rfl, he, hk⟩
  refine Stp.go ?_
  refine i_c (fun h2 => ?_) (fun h2 => ?_)
  rotate_left
  · rw [List.drop_eq_nil_of_le (by omega), List.drop_eq_nil_of_le (by omega)] at he
    exact ⟨by rw [decide_eq_true (he.2 rfl)], rfl⟩
  have h3 : i < l.length := by omega
  have h4 : i < m.length := by omega
  rw [drop_eq (List.getElem?_eq_getElem h3) (List.getElem?_eq_getElem h4)] at he
  refine g_atIn hv (List.getElem?_eq_getElem h3) ?_
  refine g_ldv ?_
  refine g_atIn hw (List.getElem?_eq_getElem h4) ?_
  refine g_ldv ?_
  refine Stp.go ?_
  refine Stp.go ?_
  refine i_c (fun h5 => ?_) (fun h5 => ?_)
  · (repeat (with_reducible first | refine Stp.go ?_ | (refine i_cT ?_ ?_; · first | assumption | decide | exact rfl) | (refine i_cF ?_ ?_; · first | assumption | decide | exact rfl) | (refine i_T ?_ ?_; · first | assumption | exact rfl) | (refine i_F ?_ ?_; · first | assumption | exact rfl) | (refine Sts.go ?_ ?_; · first | omega | decide) | refine Stu.go ?_))
    exact ⟨l.length - (i + 1), by omega, i + 1, by congr 1, by omega, rfl, he.trans ⟨fun h => h.2, fun h => ⟨h5, h⟩⟩, rfl⟩
  · exact ⟨by rw [decide_eq_false]; intro e; exact h5 (he.1 e).1, rfl⟩

theorem equal_ok (hT : Has T) {x y : AV} {a b : Nd} (hx : IsNd x a) (hy : IsNd y b) (ha : a.kids.length < 2 ^ 62) (H : AH) :
    ∃ H', Den.of T 56 [x, y] H = some (.bool (decide (a = b)), H') ∧ Grow H H' := by
  refine gr_of (w56_ok hT ?_)
  unfold w56
  have ox := hx.ok
  have oy := hy.ok
  obtain ⟨kx, rfl, hkx⟩ := hx
  obtain ⟨ky, rfl, hky⟩ := hy
  refine s_box ox.1 ox.2.2 ?_
  have c2 := Holds.push H (AV.agg [.int .i64 a.kind, .str a.tag, .str a.text, kx]).cells
  have le2 := Grow.len (.refl H)
  have g2 := Grow.trans (.refl H) (.push H (.cells (AV.agg [.int .i64 a.kind, .str a.tag, .str a.text, kx]).cells))
  generalize H.push (.cells (AV.agg [.int .i64 a.kind, .str a.tag, .str a.text, kx]).cells) = H2 at *
  generalize hb2 : H.obs.length = b2 at *
  refine s_box oy.1 oy.2.2 ?_
  have q3_c2 := Holds.lt c2
  replace c2 := Holds.pushed c2 (.cells (AV.agg [.int .i64 b.kind, .str b.tag, .str b.text, ky]).cells)
  have c3 := Holds.push H2 (AV.agg [.int .i64 b.kind, .str b.tag, .str b.text, ky]).cells
  have le3 := Grow.len g2
  have g3 := Grow.trans g2 (.push H2 (.cells (AV.agg [.int .i64 b.kind, .str b.tag, .str b.text, ky]).cells))
  generalize H2.push (.cells (AV.agg [.int .i64 b.kind, .str b.tag, .str b.text, ky]).cells) = H3 at *
  generalize hb3 : H2.obs.length = b3 at *
  have he : (a = b) ↔ a.kind = b.kind ∧ a.tag = b.tag ∧ a.text = b.text ∧ a.kids = b.kids := by
    obtain ⟨_, _, _, _⟩ := a
    obtain ⟨_, _, _, _⟩ := b
    simp
  (repeat (first | (with_reducible first | refine Stp.go ?_ | (refine i_cT ?_ ?_; · first | assumption | decide | exact rfl) | (refine i_cF ?_ ?_; · first | assumption | decide | exact rfl) | (refine i_T ?_ ?_; · first | assumption | exact rfl) | (refine i_F ?_ ?_; · first | assumption | exact rfl) | (refine Sts.go ?_ ?_; · first | omega | decide) | refine Stu.go ?_) | refine g_h1 c2 rfl ?_ | refine g_h1 c3 rfl ?_))
  refine i_c (fun h1 => ?_) (fun h1 => ?_)
  rotate_left
  · exact ⟨by rw [decide_eq_false]; intro e; exact h1 (he.1 e).1, g3⟩
  (repeat (first | (with_reducible first | refine Stp.go ?_ | (refine i_cT ?_ ?_; · first | assumption | decide | exact rfl) | (refine i_cF ?_ ?_; · first | assumption | decide | exact rfl) | (refine i_T ?_ ?_; · first | assumption | exact rfl) | (refine i_F ?_ ?_; · first | assumption | exact rfl) | (refine Sts.go ?_ ?_; · first | omega | decide) | refine Stu.go ?_) | refine g_h1 c2 rfl ?_ | refine g_h1 c3 rfl ?_))
  refine i_c (fun h2 => ?_) (fun h2 => ?_)
  rotate_left
  · exact ⟨by rw [decide_eq_false]; intro e; exact h2 (he.1 e).2.1, g3⟩
  (repeat (first | (with_reducible first | refine Stp.go ?_ | (refine i_cT ?_ ?_; · first | assumption | decide | exact rfl) | (refine i_cF ?_ ?_; · first | assumption | decide | exact rfl) | (refine i_T ?_ ?_; · first | assumption | exact rfl) | (refine i_F ?_ ?_; · first | assumption | exact rfl) | (refine Sts.go ?_ ?_; · first | omega | decide) | refine Stu.go ?_) | refine g_h1 c2 rfl ?_ | refine g_h1 c3 rfl ?_))
  refine i_c (fun h3 => ?_) (fun h3 => ?_)
  rotate_left
  · exact ⟨by rw [decide_eq_false]; intro e; exact h3 (he.1 e).2.2.1, g3⟩
  (repeat (first | (with_reducible first | refine Stp.go ?_ | (refine i_cT ?_ ?_; · first | assumption | decide | exact rfl) | (refine i_cF ?_ ?_; · first | assumption | decide | exact rfl) | (refine i_T ?_ ?_; · first | assumption | exact rfl) | (refine i_F ?_ ?_; · first | assumption | exact rfl) | (refine Sts.go ?_ ?_; · first | omega | decide) | refine Stu.go ?_) | refine g_h1 c2 rfl ?_ | refine g_h1 c3 rfl ?_))
  refine c_eq (eqInts_ok hT hkx hky ha H3) ?_
  refine ⟨?_, g3⟩
  congr 1
  rw [decide_eq_decide, he]
  exact ⟨fun h => ⟨h1, h2, h3, h⟩, fun h => h.2.2.2⟩

theorem equalF_ok (hT : Has T) {v w : AV} {a b : List Nd} (hv : IsG v a) (hw : IsG w b) (ha : a.length < 2 ^ 62) (hk : ∀ n ∈ a, n.kids.length < 2 ^ 62) (H : AH) :
    ∃ H', Den.of T 55 [v, w, .fn (.func 56) [] []] H = some (.bool (decide (a = b)), H') ∧ Grow H H' := by
  refine gr_of (w55_ok hT ?_)
  unfold w55
  refine g_lenW hv ?_
  refine g_lenW hw ?_
  refine Stp.go ?_
  refine Stp.go ?_
  refine i_c (fun h => ?_) (fun h => ?_)
  rotate_left
  · exact ⟨by rw [decide_eq_false]; intro e; exact h (by rw [e]), .refl _⟩
  refine g_lenW hv ?_
  refine l1 (fun k x H' => ∃ i : Nat, x = .int .i64 i ∧ i ≤ a.length ∧ Grow H H' ∧ (a = b ↔ a.drop i = b.drop i) ∧ k = a.length - i) a.length ⟨0, rfl, Nat.zero_le _, .refl _, Iff.rfl, rfl⟩ ?_
  rintro k _ H1 ⟨i, rfl, hi, g1, he, hkk⟩
  refine Stp.go ?_
  refine i_c (fun h2 => ?_) (fun h2 => ?_)
  rotate_left
  · rw [List.drop_eq_nil_of_le (by omega), List.drop_eq_nil_of_le (by omega)] at he
    exact ⟨by rw [decide_eq_true (he.2 rfl)], g1⟩
  have h3 : i < a.length := by omega
  have h4 : i < b.length := by omega
  have hka := hk _ (List.getElem_mem h3)
  rw [drop_eq (List.getElem?_eq_getElem h3) (List.getElem?_eq_getElem h4)] at he
  refine g_atn hv (List.getElem?_eq_getElem h3) fun x hx => ?_
  generalize a[i] = na at *
  have hx' := hx
  have ox := hx.ok
  obtain ⟨kx, rfl, hkx⟩ := hx
  refine g_ldv4 ?_
  refine a_i ?_
  have c8 := Holds.push H1 [.int .i64 0, .str [], .str [], .nils]
  have le8 := Grow.len g1
  have g8 := Grow.trans g1 (.push H1 (.cells [.int .i64 0, .str [], .str [], .nils]))
  generalize H1.push (.cells [.int .i64 0, .str [], .str [], .nils]) = H8 at *
  generalize hb8 : H1.obs.length = b8 at *
  refine h_all (l := [.int .i64 na.kind, .str na.tag, .str na.text, kx]) c8 rfl rfl ox.2.2 fun cc => ?_
  have g9 := g8.put (o := .cells [.int .i64 na.kind, .str na.tag, .str na.text, kx]) le8
  replace c8 := cc
  clear cc
  generalize H8.put b8 (.cells [.int .i64 na.kind, .str na.tag, .str na.text, kx]) = H9 at *
  refine g_atn hw (List.getElem?_eq_getElem h4) fun y hy => ?_
  generalize b[i] = nb at *
  have hy' := hy
  have oy := hy.ok
  obtain ⟨ky, rfl, hky⟩ := hy
  refine g_ldv4 ?_
  refine a_i ?_
  have q10_c8 := Holds.lt c8
  replace c8 := Holds.pushed c8 (.cells [.int .i64 0, .str [], .str [], .nils])
  have c10 := Holds.push H9 [.int .i64 0, .str [], .str [], .nils]
  have le10 := Grow.len g9
  have g10 := Grow.trans g9 (.push H9 (.cells [.int .i64 0, .str [], .str [], .nils]))
  generalize H9.push (.cells [.int .i64 0, .str [], .str [], .nils]) = H10 at *
  generalize hb10 : H9.obs.length = b10 at *
  refine h_all (l := [.int .i64 nb.kind, .str nb.tag, .str nb.text, ky]) c10 rfl rfl oy.2.2 fun cc => ?_
  replace c8 := put_holds (o := .cells [.int .i64 nb.kind, .str nb.tag, .str nb.text, ky]) c8 c10.1 (by omega)
  have g11 := g10.put (o := .cells [.int .i64 nb.kind, .str nb.tag, .str nb.text, ky]) le10
  replace c10 := cc
  clear cc
  generalize H10.put b10 (.cells [.int .i64 nb.kind, .str nb.tag, .str nb.text, ky]) = H11 at *
  refine g_hN c8 rfl ?_
  refine g_hN c10 rfl ?_
  refine v_0 (by decide) ?_
  refine c_gb g11 (equal_ok hT hx' hy' hka H11) fun H12 g12 => ?_
  refine Stp.go ?_
  refine Stp.go ?_
  refine i_c (fun h5 => ?_) (fun h5 => ?_)
  · (repeat (with_reducible first | refine Stp.go ?_ | (refine i_cT ?_ ?_; · first | assumption | decide | exact rfl) | (refine i_cF ?_ ?_; · first | assumption | decide | exact rfl) | (refine i_T ?_ ?_; · first | assumption | exact rfl) | (refine i_F ?_ ?_; · first | assumption | exact rfl) | (refine Sts.go ?_ ?_; · first | omega | decide) | refine Stu.go ?_))
    exact ⟨a.length - (i + 1), by omega, i + 1, by congr 1, by omega, g12, he.trans ⟨fun h => h.2, fun h => ⟨h5, h⟩⟩, rfl⟩
  · exact ⟨by rw [decide_eq_false]; intro e; exact h5 (he.1 e).1, g12⟩

def sameG (a b : List Nd) : Bool := rightG a && (rightG b && decide (normal a = normal b))
theorem same_ok (hT : Has T) (hK : Knows T) {v w : AV} {a b : List Nd} (hv : IsG v a) (hw : IsG w b) (ha : OkG a) (hb : OkG b) (H : AH) (hp : 0 < H.toks.length) :
    ∃ H', Den.of T 25 [v, w] H = some (.bool (sameG a b), H') ∧ Grow H H' := by
  refine gr_of (w25_ok hT ?_)
  unfold w25
  refine c_gr (rightG_ok hT hK hv ha H hp) fun H1 g1 => ?_
  refine d_t ?_
  refine i_i (fun h1 => ?_) (fun h1 => ?_)
  rotate_left
  · exact ⟨by rw [sameG, h1]; rfl, g1⟩
  refine c_gb g1 (rightG_ok hT hK hw hb H1 (g1.pos hp)) fun H2 g2 => ?_
  refine d_t ?_
  refine i_i (fun h2 => ?_) (fun h2 => ?_)
  rotate_left
  · exact ⟨by rw [sameG, h1, h2]; rfl, g2⟩
  refine c_i (normal_ok hT hK hv ha H2 (g2.pos hp)) ?_
  rintro nv H3 ⟨hnv, e3⟩
  have g3 := g2.trans e3
  refine c_i (normal_ok hT hK hw hb H3 (g3.pos hp)) ?_
  rintro nw H4 ⟨hnw, e4⟩
  have g4 := g3.trans e4
  have hn := normal_ok2 ha
  refine c_gb g4 (equalF_ok hT hnv hnw (by have := hn.1; omega) (fun n h => by have := (hn.2 n h).1; omega) H4) fun H5 g5 => ?_
  exact ⟨by rw [sameG, h1, h2]; rfl, g5⟩

theorem ours_ok (hT : Has T) {v : AV} {l : List Ev} (hv : RowOf 5 IsEv v l) (hl : l.length < 2 ^ 40) (H : AH) (hp : 0 < H.toks.length) :
    ∃ v' H', Den.of T 24 [v] H = some (v', H') ∧ RowOf 5 IsEv v' l ∧ Grow H H' := by
  refine w24_ok hT ?_
  unfold w24
  refine g_lenW hv ?_
  refine l2 (fun m a c H' => ∃ (i : Nat) (xs : List AV), c = .int .i64 i ∧ i ≤ l.length ∧ Grow H H' ∧ Tok H H' 5 a xs ∧ F2 IsEv xs (l.take i) ∧ m = l.length - i) l.length ⟨0, [], rfl, Nat.zero_le _, .refl _, .nil _ _ _, by simp; exact .nil, rfl⟩ ?_
  rintro m ov _ H1 ⟨i, xs, rfl, hi, g1, ht, hf, hm⟩
  refine Stp.go ?_
  refine i_c (fun h => ?_) (fun h => ?_)
  rotate_left
  · rw [show i = l.length by omega, List.take_length] at hf
    exact ⟨ht.row hf, g1⟩
  have hlt : i < l.length := by omega
  have htk : l.take (i + 1) = l.take i ++ [l[i]] := by rw [List.take_add_one, List.getElem?_eq_getElem hlt]; rfl
  refine g_atn hv (List.getElem?_eq_getElem hlt) fun x hx => ?_
  generalize l[i] = e at *
  cases hx
  refine g_ldv5 ?_
  refine a_i ?_
  refine h_top (c' := (encE e).cells) rfl rfl rfl (by simp) rfl ?_
  refine g_ln5 ?_
  have g3 := g1.trans (.push _ (.cells (encE e).cells))
  have ht3 := ht.grow (.push _ (.cells (encE e).cells))
  generalize H1.push (.cells (encE e).cells) = H3 at *
  refine s_lit (ys := [encE e]) (okE e) ?_
  have hxl : xs.length = i := by rw [hf.1, List.length_take]; omega
  refine s_app (ys := [encE e]) ht3 g3 hp (by simp) (okE e) (by rw [hxl]; simp; omega) fun v3 H4 ht4 g4 _ => ?_
  (repeat (with_reducible first | refine Stp.go ?_ | (refine i_cT ?_ ?_; · first | assumption | decide | exact rfl) | (refine i_cF ?_ ?_; · first | assumption | decide | exact rfl) | (refine i_T ?_ ?_; · first | assumption | exact rfl) | (refine i_F ?_ ?_; · first | assumption | exact rfl) | (refine Sts.go ?_ ?_; · first | omega | decide) | refine Stu.go ?_))
  refine ⟨l.length - (i + 1), by omega, i + 1, xs ++ [encE e], by congr 1, by omega, g4, ht4, ?_, rfl⟩
  rw [htk]
  exact hf.snoc (isEv e)

theorem refSame_ok (hT : Has T) {v w : AV} {l m : List Ev} (hv : RowOf 5 IsEv v l) (hw : RowOf 5 IsEv w m) (hl : l.length < 2 ^ 62) (H : AH) :
    Den.of T 23 [v, w] H = some (.bool (decide (l = m)), H) := by
  refine eq_of (w23_ok hT ?_)
  unfold w23
  refine g_lenW hv ?_
  refine g_lenW hw ?_
  refine Stp.go ?_
  refine Stp.go ?_
  refine i_c (fun h => ?_) (fun h => ?_)
  rotate_left
  · exact ⟨by rw [decide_eq_false]; intro e; exact h (by rw [e]), rfl⟩
  refine l1 (fun k a H' => ∃ i : Nat, a = .int .i64 i ∧ i ≤ l.length ∧ H = H' ∧ (l = m ↔ l.drop i = m.drop i) ∧ k = l.length - i) l.length ⟨0, rfl, Nat.zero_le _, rfl, Iff.rfl, rfl⟩ ?_
  rintro k _ _ ⟨i, rfl, hi, rfl, he, hk⟩
  refine g_lenW hv ?_
  refine Stp.go ?_
  refine i_c (fun h2 => ?_) (fun h2 => ?_)
  rotate_left
  · rw [List.drop_eq_nil_of_le (by omega), List.drop_eq_nil_of_le (by omega)] at he
    exact ⟨by rw [decide_eq_true (he.2 rfl)], rfl⟩
  have h3 : i < l.length := by omega
  have h4 : i < m.length := by omega
  rw [drop_eq (List.getElem?_eq_getElem h3) (List.getElem?_eq_getElem h4)] at he
  refine g_atn hv (List.getElem?_eq_getElem h3) fun x hx => ?_
  generalize l[i] = e at *
  cases hx
  refine g_ldv5 ?_
  refine g_atn hw (List.getElem?_eq_getElem h4) fun y hy => ?_
  generalize m[i] = f at *
  cases hy
  refine g_ldv5 ?_
  refine s_eqE (a := e) (b := f) ?_
  rw [if_pos rfl]
  refine Stp.go ?_
  refine i_c (fun h5 => ?_) (fun h5 => ?_)
  · (repeat (with_reducible first | refine Stp.go ?_ | (refine i_cT ?_ ?_; · first | assumption | decide | exact rfl) | (refine i_cF ?_ ?_; · first | assumption | decide | exact rfl) | (refine i_T ?_ ?_; · first | assumption | exact rfl) | (refine i_F ?_ ?_; · first | assumption | exact rfl) | (refine Sts.go ?_ ?_; · first | omega | decide) | refine Stu.go ?_))
    exact ⟨l.length - (i + 1), by omega, i + 1, by congr 1, by omega, rfl, he.trans ⟨fun h => h.2, fun h => ⟨h5, h⟩⟩, rfl⟩
  · exact ⟨by rw [decide_eq_false]; intro e; exact h5 (he.1 e).1, rfl⟩

theorem tell_out {g : List Nd} (hr : rightG g = true) (hg : OkG g) : (tellG g).out.length < 2 ^ 31 := by
  obtain ⟨hgl, _⟩ := rightG_kids hr
  have hol := order_len g
  have hop := order_pos hr
  have hnl : (normal g).length ≤ 2000 := by rw [normal_len]; omega
  have hnp : 0 < (normal g).length := by rw [normal_len]; exact hop
  have tl := told_of (names := namesG (normal g)) (normal_kids hr) (fun n hn => ((normal_ok2 hg).2 n hn).1) ((normal g).length + 1) ⟨[], 0, 0, 0⟩ 0 (by simp only [hasG, decide_eq_true_eq]; omega) (Nat.zero_le _) (Nat.le_refl _) (Nat.zero_le _)
  have := tl.out
  simp only [List.length_nil] at this
  unfold tellG
  omega

theorem events_one {g : List Nd} : (eventsG [g] = ([], 5)) ∨ (eventsG [g] = ([], 13)) ∨ (rightG g = true ∧ (tellG g).most ≤ 40 ∧ eventsG [g] = (docE g, 0)) := by
  unfold eventsG
  by_cases h1 : [g].all rightG = true
  · rw [if_pos h1]
    by_cases h2 : [g].any (fun g => decide (40 < (tellG g).most)) = true
    · rw [if_pos h2]; exact .inr (.inl rfl)
    · rw [if_neg h2]
      refine .inr (.inr ⟨by simpa using h1, by simpa using h2, by simp⟩)
  · rw [if_neg h1]; exact .inl rfl

theorem out_len {g : List Nd} (hr : rightG g = true) (hg : OkG g) : (docE g).length < 2 ^ 32 := by
  have := tell_out hr hg
  simp only [docE, List.length_cons, List.length_append, List.length_nil]; omega

/-- The law: graphs that are the same tell the same events, and just these do. -/
theorem lawSame (hT : Has T) (hK : Knows T) {va vb : AV} {a b : List Nd} (hva : IsG va a) (hvb : IsG vb b) (hla : a.length < 2 ^ 63) (hlb : b.length < 2 ^ 63) (H : AH) (hp : 0 < H.toks.length) :
    ∃ H', Den.of T 6 [va, vb] H = some (.bool true, H') ∧ Grow H H' := by
  refine gr_of (w6_ok hT ?_)
  unfold w6
  refine c_gr (alive_ok hT hK H hp) fun H1 g1 => ?_
  refine gP_i rfl ?_
  refine i_F rfl ?_
  refine j1 (fun x H' => x = .bool (heavy a || heavy b) ∧ Grow H H') ?_ ?_
  rotate_left
  · intro j hj
    refine c_gb g1 (heavy_ok hT hva hla H1) fun H2 g2 => ?_
    refine d_f ?_
    refine i_i (fun h => ?_) (fun h => ?_)
    · exact hj _ _ ⟨by rw [h]; rfl, g2⟩
    · refine c_gb g2 (heavy_ok hT hvb hlb H2) fun H3 g3 => ?_
      exact hj _ _ ⟨by rw [h, Bool.false_or], g3⟩
  rintro _ H2 ⟨rfl, g2⟩
  refine i_i (fun h => ?_) (fun h => ?_)
  · exact ⟨rfl, g2⟩
  obtain ⟨ha, hb⟩ := Bool.or_eq_false_iff.1 h
  obtain ⟨oka, hal, _⟩ := light ha
  obtain ⟨okb, hbl, _⟩ := light hb
  refine c_i (theirs_ok hT hva oka.mem H2 (g2.pos hp)) ?_
  rintro v3 H3 ⟨hv3, e3⟩
  have g3 := g2.trans e3
  refine s_lit (by have := hv3.def; have := hv3.cells; have := hv3.cell; simp [elemsOk, *]) ?_
  refine c_i (events_ok hT hK (rowG11 0 hv3) (by simp) (fun g' hg' => by simp only [List.mem_singleton] at hg'; rw [hg']; exact oka) H3 (g3.pos hp)) ?_
  rintro _ H5 ⟨⟨ov, rfl, hov⟩, e5⟩
  have g5 := g3.trans e5
  refine Stp.go ?_
  refine Stp.go ?_
  refine c_i (theirs_ok hT hvb okb.mem H5 (g5.pos hp)) ?_
  rintro v6 H6 ⟨hv6, e6⟩
  have g6 := g5.trans e6
  refine s_lit (by have := hv6.def; have := hv6.cells; have := hv6.cell; simp [elemsOk, *]) ?_
  refine c_i (events_ok hT hK (rowG11 0 hv6) (by simp) (fun g' hg' => by simp only [List.mem_singleton] at hg'; rw [hg']; exact okb) H6 (g6.pos hp)) ?_
  rintro _ H8 ⟨⟨ow, rfl, how⟩, e8⟩
  have g8 := g6.trans e8
  refine Stp.go ?_
  refine Stp.go ?_
  refine j1 (fun x H' => x = .bool (!((eventsG [a]).2 == 0) || !((eventsG [b]).2 == 0)) ∧ H8 = H') ?_ ?_
  rotate_left
  · intro j hj
    refine Stp.go ?_
    refine d_f ?_
    refine i_i (fun h => ?_) (fun h => ?_)
    · exact hj _ _ ⟨by rw [h]; rfl, rfl⟩
    · refine Stp.go ?_
      exact hj _ _ ⟨by rw [h, Bool.false_or], rfl⟩
  rintro _ _ ⟨rfl, rfl⟩
  refine i_i (fun h => ?_) (fun h => ?_)
  · exact ⟨rfl, g8⟩
  obtain ⟨h1, h2⟩ := Bool.or_eq_false_iff.1 h
  have ea : rightG a = true ∧ (tellG a).most ≤ 40 ∧ eventsG [a] = (docE a, 0) := by
    rcases events_one (g := a) with e | e | e
    · rw [e] at h1; exact absurd h1 (by decide)
    · rw [e] at h1; exact absurd h1 (by decide)
    · exact e
  have eb : rightG b = true ∧ (tellG b).most ≤ 40 ∧ eventsG [b] = (docE b, 0) := by
    rcases events_one (g := b) with e | e | e
    · rw [e] at h2; exact absurd h2 (by decide)
    · rw [e] at h2; exact absurd h2 (by decide)
    · exact e
  replace hov : RowOf 5 IsEv ov (docE a) := by rw [ea.2.2] at hov; exact hov
  replace how : RowOf 5 IsEv ow (docE b) := by rw [eb.2.2] at how; exact how
  have la := out_len ea.1 oka
  have lb := out_len eb.1 okb
  refine c_i (ours_ok hT hov (by omega) H8 (g8.pos hp)) ?_
  rintro v10 H10 ⟨hv10, e10⟩
  have g10 := g8.trans e10
  refine c_i (ours_ok hT how (by omega) H10 (g10.pos hp)) ?_
  rintro v11 H11 ⟨hv11, e11⟩
  have g11 := g10.trans e11
  refine c_eq (refSame_ok hT hv10 hv11 (by omega) H11) ?_
  refine c_i (theirs_ok hT hva oka.mem H11 (g11.pos hp)) ?_
  rintro v13 H13 ⟨hv13, e13⟩
  have g13 := g11.trans e13
  refine c_i (theirs_ok hT hvb okb.mem H13 (g13.pos hp)) ?_
  rintro v14 H14 ⟨hv14, e14⟩
  have g14 := g13.trans e14
  refine c_gb g14 (same_ok hT hK hv13 hv14 oka okb H14 (g14.pos hp)) fun H15 g15 => ?_
  refine g_eqb ?_
  refine ⟨?_, g15⟩
  congr 1
  have hd := doc_same ea.1 eb.1
  have hs : sameG a b = decide (docE a = docE b) := by
    rw [sameG, ea.1, eb.1, Bool.true_and, Bool.true_and, decide_eq_decide]
    exact hd.symm
  rw [hs]
  simp

end Go.SV
