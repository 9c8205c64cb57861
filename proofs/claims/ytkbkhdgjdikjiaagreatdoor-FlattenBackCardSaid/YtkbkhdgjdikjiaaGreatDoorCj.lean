/- Contracts: events of nodes, how often nodes are met. Own text of the prover; nothing is assumed. -/
import Derived.Test.YtkbkhdgjdikjiaaGreatDoorCi
set_option maxRecDepth 100000
namespace Go.SV

variable {T : Nat → Option Entry}

structure Ev where
  kind : Int
  anchor : List UInt8
  tag : List UInt8
  text : List UInt8
  plain : Bool
  deriving DecidableEq

def encE (e : Ev) : AV := .agg [.int .i64 e.kind, .str e.anchor, .str e.tag, .str e.text, .bool e.plain]
def IsEv (x : AV) (e : Ev) : Prop := x = encE e
theorem okE (e : Ev) : elemsOk 5 [encE e] = true := rfl
theorem okEs (l : List Ev) : elemsOk 5 (l.map encE) = true := by simp [elemsOk, encE, AV.def?, AV.cells, AV.isCell]

def unlT (t p : List UInt8) : List UInt8 := if t = p then [] else t
def eventOf (n : Nd) : Ev :=
  if n.kind = 1 then ⟨2, [], unlT n.tag tSeq, [], false⟩
  else if n.kind = 2 then ⟨4, [], unlT n.tag tMap, [], false⟩
  else if n.kind = 0 then if plainT n.text = true ∧ resolve n.text = n.tag then ⟨6, [], [], n.text, true⟩ else ⟨6, [], unlT n.tag tStr, n.text, false⟩
  else ⟨0, [], [], [], false⟩

theorem event_ok (hT : Has T) (hK : Knows T) {x : AV} {n : Nd} (hx : IsNd x n) (hn : OkN n) (H : AH) :
    ∃ H', Den.of T 23 [x] H = some (encE (eventOf n), H') ∧ Grow H H' := by
  refine gr_of (w23_ok hT ?_)
  unfold w23
  have ho := hx.ok
  obtain ⟨kv, rfl, hk⟩ := hx
  refine s_box ho.1 ho.2.2 ?_
  refine a_i ?_
  have c1 := (Holds.push H (AV.agg [AV.int IntKind.i64 n.kind, AV.str n.tag, AV.str n.text, kv]).cells).pushed (.cells [(.int .i64 0), (.str []), (.str []), (.str []), (.bool false)])
  have c2 := Holds.push (H.push (.cells (AV.agg [AV.int IntKind.i64 n.kind, AV.str n.tag, AV.str n.text, kv]).cells)) [(.int .i64 0), (.str []), (.str []), (.str []), (.bool false)]
  have g2 : Grow H ((H.push (.cells (AV.agg [AV.int IntKind.i64 n.kind, AV.str n.tag, AV.str n.text, kv]).cells)).push (.cells [(.int .i64 0), (.str []), (.str []), (.str []), (.bool false)])) := (Grow.push _ _).trans (Grow.push _ _)
  have l2 : H.obs.length < (H.push (.cells (AV.agg [AV.int IntKind.i64 n.kind, AV.str n.tag, AV.str n.text, kv]).cells)).obs.length := by rw [push_len]; omega
  generalize (H.push (.cells (AV.agg [AV.int IntKind.i64 n.kind, AV.str n.tag, AV.str n.text, kv]).cells)).push (.cells [(.int .i64 0), (.str []), (.str []), (.str []), (.bool false)]) = H2 at *
  generalize (H.push (.cells (AV.agg [AV.int IntKind.i64 n.kind, AV.str n.tag, AV.str n.text, kv]).cells)).obs.length = b2 at *
  have hb : ∀ {vs : List (Nat × Nat × AV)} {l : List AV} {k : AV → Prop}, aBuild [(.int .i64 0), (.str []), (.str []), (.str []), (.bool false)] vs = some l → k (.agg l) → gP ((aBuild [(.int .i64 0), (.str []), (.str []), (.str []), (.bool false)] vs).map .agg) k := fun h hk => gP_i (by rw [h]; rfl) hk
  (repeat (first | (with_reducible first | refine Stp.go ?_ | (refine i_cT ?_ ?_; · first | assumption | decide | exact rfl) | (refine i_cF ?_ ?_; · first | assumption | decide | exact rfl) | (refine i_T ?_ ?_; · first | assumption | exact rfl) | (refine i_F ?_ ?_; · first | assumption | exact rfl) | (refine Sts.go ?_ ?_; · first | omega | decide) | refine Stu.go ?_) | refine g_h1 c1 rfl ?_))
  refine i_int (fun h1 => ?_) (fun h1 => ?_)
  · (repeat (first | (with_reducible first | refine Stp.go ?_ | (refine i_cT ?_ ?_; · first | assumption | decide | exact rfl) | (refine i_cF ?_ ?_; · first | assumption | decide | exact rfl) | (refine i_T ?_ ?_; · first | assumption | exact rfl) | (refine i_F ?_ ?_; · first | assumption | exact rfl) | (refine Sts.go ?_ ?_; · first | omega | decide) | refine Stu.go ?_) | refine g_h1 c1 rfl ?_ | with_reducible refine c_eq (unless_ok hT _ _ _) ?_))
    refine hb rfl ?_
    refine h_all c2 rfl rfl rfl fun c3 => ?_
    refine g_hN c3 rfl ?_
    exact ⟨by rw [eventOf, if_pos h1]; rfl, g2.put (Nat.le_of_lt l2)⟩
  (repeat (with_reducible first | refine Stp.go ?_ | (refine i_cT ?_ ?_; · first | assumption | decide | exact rfl) | (refine i_cF ?_ ?_; · first | assumption | decide | exact rfl) | (refine i_T ?_ ?_; · first | assumption | exact rfl) | (refine i_F ?_ ?_; · first | assumption | exact rfl) | (refine Sts.go ?_ ?_; · first | omega | decide) | refine Stu.go ?_))
  refine i_int (fun h2 => ?_) (fun h2 => ?_)
  · (repeat (first | (with_reducible first | refine Stp.go ?_ | (refine i_cT ?_ ?_; · first | assumption | decide | exact rfl) | (refine i_cF ?_ ?_; · first | assumption | decide | exact rfl) | (refine i_T ?_ ?_; · first | assumption | exact rfl) | (refine i_F ?_ ?_; · first | assumption | exact rfl) | (refine Sts.go ?_ ?_; · first | omega | decide) | refine Stu.go ?_) | refine g_h1 c1 rfl ?_ | with_reducible refine c_eq (unless_ok hT _ _ _) ?_))
    refine hb rfl ?_
    refine h_all c2 rfl rfl rfl fun c3 => ?_
    refine g_hN c3 rfl ?_
    exact ⟨by rw [eventOf, if_neg h1, if_pos h2]; rfl, g2.put (Nat.le_of_lt l2)⟩
  (repeat (with_reducible first | refine Stp.go ?_ | (refine i_cT ?_ ?_; · first | assumption | decide | exact rfl) | (refine i_cF ?_ ?_; · first | assumption | decide | exact rfl) | (refine i_T ?_ ?_; · first | assumption | exact rfl) | (refine i_F ?_ ?_; · first | assumption | exact rfl) | (refine Sts.go ?_ ?_; · first | omega | decide) | refine Stu.go ?_))
  refine i_int (fun h3 => ?_) (fun h3 => ?_)
  rotate_left
  · refine hb rfl ?_
    refine h_all c2 rfl rfl rfl fun c3 => ?_
    refine g_hN c3 rfl ?_
    exact ⟨by rw [eventOf, if_neg h1, if_neg h2, if_neg h3]; rfl, g2.put (Nat.le_of_lt l2)⟩
  refine a_i ?_
  replace c1 := c1.pushed (.cells [(.int .i64 0), (.str []), (.str []), (.str []), (.bool false)])
  have hb2 := c2.1
  replace c2 := c2.pushed (.cells [(.int .i64 0), (.str []), (.str []), (.str []), (.bool false)])
  have c3 := Holds.push H2 [(.int .i64 0), (.str []), (.str []), (.str []), (.bool false)]
  have hl2 := g2.len
  replace g2 := g2.trans (.push _ (.cells [(.int .i64 0), (.str []), (.str []), (.str []), (.bool false)]))
  generalize H2.push (.cells [(.int .i64 0), (.str []), (.str []), (.str []), (.bool false)]) = H7 at *
  generalize H2.obs.length = b3 at *
  (repeat (first | (with_reducible first | refine Stp.go ?_ | (refine i_cT ?_ ?_; · first | assumption | decide | exact rfl) | (refine i_cF ?_ ?_; · first | assumption | decide | exact rfl) | (refine i_T ?_ ?_; · first | assumption | exact rfl) | (refine i_F ?_ ?_; · first | assumption | exact rfl) | (refine Sts.go ?_ ?_; · first | omega | decide) | refine Stu.go ?_) | refine g_h1 c1 rfl ?_ | with_reducible refine c_eq (unless_ok hT _ _ _) ?_))
  refine hb (l := [.int .i64 6, .str [], .str (unlT n.tag tStr), .str n.text, .bool false]) rfl ?_
  refine h_all c3 rfl rfl rfl fun c4 => ?_
  refine ⟨same_rfl, fun b hb => ?_, ?_⟩
  · cases hb; exact c3.2
  have c1' := c1.put (o := .cells [.int .i64 6, .str [], .str (unlT n.tag tStr), .str n.text, .bool false]) c3.1 (by omega)
  have c2' := c2.put (o := .cells [.int .i64 6, .str [], .str (unlT n.tag tStr), .str n.text, .bool false]) c3.1 (by omega)
  have g9 := g2.put (o := .cells [.int .i64 6, .str [], .str (unlT n.tag tStr), .str n.text, .bool false]) hl2
  change Holds (H7.put b3 (.cells [.int .i64 6, .str [], .str (unlT n.tag tStr), .str n.text, .bool false])) b3 [.int .i64 6, .str [], .str (unlT n.tag tStr), .str n.text, .bool false] at c4
  change jP 0 _ _
  generalize hH9 : H7.put b3 (.cells [.int .i64 6, .str [], .str (unlT n.tag tStr), .str n.text, .bool false]) = H9 at *
  refine j0 (fun H' => Grow H H' ∧ Holds H' b2 [(.int .i64 0), (.str []), (.str []), (.str []), (.bool false)] ∧ Holds H' b3 (encE (eventOf n)).cells) ?_ ?_
  · rintro H10 ⟨g10, d2, d3⟩
    refine g_hN d3 rfl ?_
    refine h_all d2 rfl rfl rfl fun d4 => ?_
    refine g_hN d4 rfl ?_
    exact ⟨rfl, g10.put (by omega)⟩
  intro j hj
  have hev : eventOf n = if plainT n.text = true ∧ resolve n.text = n.tag then ⟨6, [], [], n.text, true⟩ else ⟨6, [], unlT n.tag tStr, n.text, false⟩ := by rw [eventOf, if_neg h1, if_neg h2, if_pos h3]
  refine j1 (fun a H' => a = .bool (decide (plainT n.text = true ∧ resolve n.text = n.tag)) ∧ Grow H H' ∧ Holds H' b2 [(.int .i64 0), (.str []), (.str []), (.str []), (.bool false)] ∧ Holds H' b3 [.int .i64 6, .str [], .str (unlT n.tag tStr), .str n.text, .bool false]) ?_ ?_
  · rintro _ H12 ⟨rfl, g12, d2, d3⟩
    refine i_dec (fun hp => ?_) (fun hp => ?_)
    · rw [if_pos hp] at hev
      (repeat (with_reducible first | refine Stp.go ?_ | (refine i_cT ?_ ?_; · first | assumption | decide | exact rfl) | (refine i_cF ?_ ?_; · first | assumption | decide | exact rfl) | (refine i_T ?_ ?_; · first | assumption | exact rfl) | (refine i_F ?_ ?_; · first | assumption | exact rfl) | (refine Sts.go ?_ ?_; · first | omega | decide) | refine Stu.go ?_))
      refine h_one d3 (by simp) rfl fun d4 => ?_
      have d2' := d2.put (o := .cells ([AV.int .i64 6, .str [], .str (unlT n.tag tStr), .str n.text, .bool false].set 2 (.str []))) d3.1 (by omega)
      have g13 := g12.put (o := .cells ([AV.int .i64 6, .str [], .str (unlT n.tag tStr), .str n.text, .bool false].set 2 (.str []))) hl2
      generalize H12.put b3 (.cells ([AV.int .i64 6, .str [], .str (unlT n.tag tStr), .str n.text, .bool false].set 2 (.str []))) = H13 at *
      (repeat (with_reducible first | refine Stp.go ?_ | (refine i_cT ?_ ?_; · first | assumption | decide | exact rfl) | (refine i_cF ?_ ?_; · first | assumption | decide | exact rfl) | (refine i_T ?_ ?_; · first | assumption | exact rfl) | (refine i_F ?_ ?_; · first | assumption | exact rfl) | (refine Sts.go ?_ ?_; · first | omega | decide) | refine Stu.go ?_))
      refine h_one d4 (by simp) rfl fun d5 => ?_
      refine hj _ ⟨g13.put hl2, d2'.put d4.1 (by omega), ?_⟩
      rw [hev]; exact d5
    · rw [if_neg hp] at hev
      exact hj _ ⟨g12, d2, by rw [hev]; exact d3⟩
  · intro j' hj'
    have hpl := fun H => plainT_ok hT hK n.text (by have := hn.2.1; omega) H
    have hre := fun H => resolve_ok hT n.text (by have := hn.2.1; omega) H
    (repeat (first | (with_reducible first | refine Stp.go ?_ | (refine i_cT ?_ ?_; · first | assumption | decide | exact rfl) | (refine i_cF ?_ ?_; · first | assumption | decide | exact rfl) | (refine i_T ?_ ?_; · first | assumption | exact rfl) | (refine i_F ?_ ?_; · first | assumption | exact rfl) | (refine Sts.go ?_ ?_; · first | omega | decide) | refine Stu.go ?_) | refine g_h1 c1' rfl ?_))
    refine c_gr (hpl _) fun H15 g15 => ?_
    refine d_t ?_
    refine i_i (fun hp => ?_) (fun hp => ?_)
    · (repeat (first | (with_reducible first | refine Stp.go ?_ | (refine i_cT ?_ ?_; · first | assumption | decide | exact rfl) | (refine i_cF ?_ ?_; · first | assumption | decide | exact rfl) | (refine i_T ?_ ?_; · first | assumption | exact rfl) | (refine i_F ?_ ?_; · first | assumption | exact rfl) | (refine Sts.go ?_ ?_; · first | omega | decide) | refine Stu.go ?_) | refine g_h1 (c1'.grow g15) rfl ?_ | with_reducible refine c_eq (hre _) ?_))
      refine ⟨same_rfl, hj' _ _ ⟨?_, g9.trans g15, c2'.grow g15, c4.grow g15⟩⟩
      congr 1
      rw [beq_dec]
      simp [hp]
    · exact ⟨same_rfl, hj' _ _ ⟨by simp [hp], g9.trans g15, c2'.grow g15, c4.grow g15⟩⟩

/-! ### How often nodes are met -/
def cnt (n : Nat) (done : List Int) : List Int := (List.range n).map fun (i : Nat) => ((done.count (i : Int) : Nat) : Int)
def ins (g : List Nd) : List Int := if rightG g = true then cnt g.length (g.flatMap (·.kids)) else []
theorem cnt_len (n : Nat) (l : List Int) : (cnt n l).length = n := by simp [cnt]
theorem cnt_at (n : Nat) (l : List Int) (i : Nat) (h : i < n) : (cnt n l)[i]? = some ((l.count (i : Int) : Nat) : Int) := by simp [cnt, h]
theorem cnt_nil (n : Nat) : cnt n [] = List.replicate n 0 := by
  unfold cnt
  refine List.ext_getElem? fun i => ?_
  rcases Nat.lt_or_ge i n with h | h
  · simp [h]
  · rw [List.getElem?_eq_none (by simpa using h), List.getElem?_eq_none (by simpa using h)]
theorem cnt_set (n : Nat) (l : List Int) (k : Int) (h0 : 0 ≤ k) (hk : k.toNat < n) : (cnt n l).set k.toNat (((l.count k : Nat) : Int) + 1) = cnt n (l ++ [k]) := by
  refine List.ext_getElem? fun i => ?_
  rw [List.getElem?_set]
  rcases Nat.lt_or_ge i n with h | h
  · rw [cnt_at _ _ _ h, cnt_at _ _ _ h]
    by_cases e : k.toNat = i
    · subst e
      rw [if_pos rfl, if_pos (by rw [cnt_len]; exact hk), Int.toNat_of_nonneg h0]
      simp
    · rw [if_neg e]
      have : (i : Int) ≠ k := by omega
      rw [List.count_append, List.count_singleton]
      rw [if_neg (by simpa using fun e => this e.symm)]
      simp
  · rw [List.getElem?_eq_none (by rw [cnt_len]; exact h), List.getElem?_eq_none (by rw [cnt_len]; exact h)]
    split
    · omega
    · rfl

theorem ins_ok (hT : Has T) (hK : Knows T) {v : AV} {g : List Nd} (hv : IsG v g) (hg : OkG g) (H : AH) (hp : 0 < H.toks.length) :
    ∃ v' H', Den.of T 67 [v] H = some (v', H') ∧ RowOf 1 IsI v' (ins g) ∧ Grow H H' := by
  refine w67_ok hT ?_
  unfold w67
  refine c_gr (rightG_ok hT hK hv hg H hp) fun H1 g1 => ?_
  (repeat (with_reducible first | refine Stp.go ?_ | (refine i_cT ?_ ?_; · first | assumption | decide | exact rfl) | (refine i_cF ?_ ?_; · first | assumption | decide | exact rfl) | (refine i_T ?_ ?_; · first | assumption | exact rfl) | (refine i_F ?_ ?_; · first | assumption | exact rfl) | (refine Sts.go ?_ ?_; · first | omega | decide) | refine Stu.go ?_))
  refine i_i (fun hr => ?_) (fun hr => ?_)
  rotate_left
  · exact ⟨.inl ⟨rfl, by rw [ins, if_neg (by simp [hr])]⟩, g1⟩
  obtain ⟨hgl, hk⟩ := rightG_kids hr
  refine g_lenW hv ?_
  refine s_mkR (by omega) (by omega) rfl ?_
  rw [iv_rep, ← cnt_nil]
  have cn := Holds.push H1 (iv (cnt g.length []))
  have hbn := g1.len
  have g2 : Grow H (H1.push (.cells (iv (cnt g.length [])))) := g1.pushed
  generalize H1.push (.cells (iv (cnt g.length []))) = H2 at *
  generalize H1.obs.length = bn at *
  refine g_lenW hv ?_
  refine l1 (fun m a H' => ∃ i : Nat, a = .int .i64 i ∧ i ≤ g.length ∧ Grow H H' ∧ Holds H' bn (iv (cnt g.length ((g.take i).flatMap (·.kids)))) ∧ m = g.length - i) g.length ⟨0, rfl, Nat.zero_le _, g2, by simpa using cn, rfl⟩ ?_
  rintro m _ H3 ⟨i, rfl, hi, g3, cn3, hm⟩
  (repeat (with_reducible first | refine Stp.go ?_ | (refine i_cT ?_ ?_; · first | assumption | decide | exact rfl) | (refine i_cF ?_ ?_; · first | assumption | decide | exact rfl) | (refine i_T ?_ ?_; · first | assumption | exact rfl) | (refine i_F ?_ ?_; · first | assumption | exact rfl) | (refine Sts.go ?_ ?_; · first | omega | decide) | refine Stu.go ?_))
  refine i_dec (fun h => ?_) (fun h => ?_)
  rotate_left
  · rw [show i = g.length by omega, List.take_length] at cn3
    have hs := s_sealT (k := fun a H' => RowOf 1 IsI a (ins g) ∧ Grow H H') cn3 ⟨by rw [ins, if_pos hr]; exact RowOf.ints 0, g3.put hbn⟩
    rw [cnt_len] at hs
    exact hs
  have hlt : i < g.length := by omega
  have hkin := hk _ (List.getElem_mem hlt)
  have hkl := (hg.2 _ (List.getElem_mem hlt)).1
  have htk : (g.take (i + 1)).flatMap (·.kids) = (g.take i).flatMap (·.kids) ++ g[i].kids := by
    rw [List.take_add_one, List.getElem?_eq_getElem hlt, List.flatMap_append]; simp
  have htl : ∀ i, ((g.take i).flatMap (·.kids)).length ≤ g.length * 2 ^ 20 := by
    intro i
    have : ∀ (l : List Nd), (∀ n ∈ l, n.kids.length < 2 ^ 20) → (l.flatMap (·.kids)).length ≤ l.length * 2 ^ 20 := by
      intro l
      induction l with
      | nil => intro _; simp
      | cons a l ih =>
        intro h
        have h1 := h a (by simp)
        have h2 := ih fun n hn => h n (by simp [hn])
        simp only [List.flatMap_cons, List.length_append, List.length_cons]
        omega
    have h1 := this (g.take i) fun n hn => (hg.2 n (List.mem_of_mem_take hn)).1
    have h2 : (g.take i).length ≤ g.length := by simp; omega
    exact Nat.le_trans h1 (Nat.mul_le_mul_right _ h2)
  refine g_atn hv (List.getElem?_eq_getElem hlt) fun x hx => ?_
  have hok := hx.ok
  generalize g[i] = n at *
  obtain ⟨kv, rfl, hkv⟩ := hx
  refine g_ldv4 ?_
  refine a_i ?_
  refine h_top (c' := [AV.int IntKind.i64 n.kind, AV.str n.tag, AV.str n.text, kv]) hok.1 hok.2.1 hok.2.2 (by simp) rfl ?_
  have cb := Holds.push H3 [AV.int IntKind.i64 n.kind, AV.str n.tag, AV.str n.text, kv]
  replace g3 := g3.trans (.push _ (.cells [AV.int IntKind.i64 n.kind, AV.str n.tag, AV.str n.text, kv]))
  replace cn3 := cn3.grow (.push _ (.cells [AV.int IntKind.i64 n.kind, AV.str n.tag, AV.str n.text, kv]))
  generalize H3.push (.cells [AV.int IntKind.i64 n.kind, AV.str n.tag, AV.str n.text, kv]) = H5 at *
  generalize H3.obs.length = b5 at *
  (repeat (first | (with_reducible first | refine Stp.go ?_ | (refine i_cT ?_ ?_; · first | assumption | decide | exact rfl) | (refine i_cF ?_ ?_; · first | assumption | decide | exact rfl) | (refine i_T ?_ ?_; · first | assumption | exact rfl) | (refine i_F ?_ ?_; · first | assumption | exact rfl) | (refine Sts.go ?_ ?_; · first | omega | decide) | refine Stu.go ?_) | refine g_h1 cb rfl ?_ | refine g_lenW hkv ?_))
  refine l1 (fun m a H' => ∃ j : Nat, a = .int .i64 j ∧ j ≤ n.kids.length ∧ Grow H H' ∧ Holds H' bn (iv (cnt g.length ((g.take i).flatMap (·.kids) ++ n.kids.take j))) ∧ m = n.kids.length - j) n.kids.length ⟨0, rfl, Nat.zero_le _, g3, by simpa using cn3, rfl⟩ ?_
  rintro m2 _ H6 ⟨j, rfl, hj, g6, cn6, hm2⟩
  (repeat (with_reducible first | refine Stp.go ?_ | (refine i_cT ?_ ?_; · first | assumption | decide | exact rfl) | (refine i_cF ?_ ?_; · first | assumption | decide | exact rfl) | (refine i_T ?_ ?_; · first | assumption | exact rfl) | (refine i_F ?_ ?_; · first | assumption | exact rfl) | (refine Sts.go ?_ ?_; · first | omega | decide) | refine Stu.go ?_))
  refine i_dec (fun h6 => ?_) (fun h6 => ?_)
  rotate_left
  · (repeat (with_reducible first | refine Stp.go ?_ | (refine i_cT ?_ ?_; · first | assumption | decide | exact rfl) | (refine i_cF ?_ ?_; · first | assumption | decide | exact rfl) | (refine i_T ?_ ?_; · first | assumption | exact rfl) | (refine i_F ?_ ?_; · first | assumption | exact rfl) | (refine Sts.go ?_ ?_; · first | omega | decide) | refine Stu.go ?_))
    rw [show j = n.kids.length by omega, List.take_length, ← htk] at cn6
    exact ⟨g.length - (i + 1), by omega, i + 1, by congr 1, by omega, g6, cn6, rfl⟩
  have hlt6 : j < n.kids.length := by omega
  have hk6 := hkin _ (List.getElem_mem hlt6)
  simp only [hasG, decide_eq_true_eq] at hk6
  refine g_atIn hkv (List.getElem?_eq_getElem hlt6) ?_
  refine g_ldv ?_
  refine g_idxR1 (by omega) ?_
  have hc1 := List.count_le_length (a := n.kids[j]) (l := (g.take i).flatMap (·.kids) ++ n.kids.take j)
  have hc2 := htl i
  simp only [List.length_append, List.length_take] at hc1
  refine g_h1 cn6 (v := .int .i64 ((((g.take i).flatMap (·.kids) ++ n.kids.take j).count n.kids[j] : Nat) : Int)) ?_ ?_
  · rw [iv, List.getElem?_map, cnt_at _ _ _ (by omega), Int.toNat_of_nonneg hk6.1]; rfl
  (repeat (with_reducible first | refine Stp.go ?_ | (refine i_cT ?_ ?_; · first | assumption | decide | exact rfl) | (refine i_cF ?_ ?_; · first | assumption | decide | exact rfl) | (refine i_T ?_ ?_; · first | assumption | exact rfl) | (refine i_F ?_ ?_; · first | assumption | exact rfl) | (refine Sts.go ?_ ?_; · first | omega | decide) | refine Stu.go ?_))
  refine g_idxR1 (by omega) ?_
  refine h_one cn6 (by simp [cnt_len]; omega) rfl fun cn7 => ?_
  rw [iv_set, cnt_set _ _ _ hk6.1 (by omega)] at cn7 ⊢
  (repeat (with_reducible first | refine Stp.go ?_ | (refine i_cT ?_ ?_; · first | assumption | decide | exact rfl) | (refine i_cF ?_ ?_; · first | assumption | decide | exact rfl) | (refine i_T ?_ ?_; · first | assumption | exact rfl) | (refine i_F ?_ ?_; · first | assumption | exact rfl) | (refine Sts.go ?_ ?_; · first | omega | decide) | refine Stu.go ?_))
  have htk2 : n.kids.take (j + 1) = n.kids.take j ++ [n.kids[j]] := by rw [List.take_add_one, List.getElem?_eq_getElem hlt6]; rfl
  exact ⟨n.kids.length - (j + 1), by omega, j + 1, by congr 1, by omega, g6.put hbn, by rw [htk2, ← List.append_assoc]; exact cn7, rfl⟩

end Go.SV
