/- Contracts: normal forms, how often nodes are met. Own text of the prover; nothing is assumed. -/
import Derived.Test.YtkbkhdgjdikjiaaGreatDoorCh
set_option maxRecDepth 100000
namespace Go.SV

variable {T : Nat → Option Entry}

instance : Inhabited Nd := ⟨⟨0, [], [], []⟩⟩

theorem meet_has {g : List Nd} (hk : ∀ n ∈ g, ∀ k ∈ n.kids, hasG g k = true) : ∀ (n : Nat) (s : List Nat × List Int) (i : Int), hasG g i = true → (∀ a ∈ s.2, hasG g a = true) → ∀ a ∈ (meetF g n s i).2, hasG g a = true := by
  intro n
  induction n with
  | zero => intro s i _ h; exact h
  | succ n ih =>
    intro s i hi h
    simp only [meetF]
    split
    · exact h
    · have fold : ∀ (ks : List Int) (s : List Nat × List Int), (∀ k ∈ ks, hasG g k = true) → (∀ a ∈ s.2, hasG g a = true) → ∀ a ∈ (ks.foldl (fun s k => meetF g n s k) s).2, hasG g a = true := by
        intro ks
        induction ks with
        | nil => intro s _ h; exact h
        | cons k ks ihk =>
          intro s h1 h2
          exact ihk _ (fun k hk => h1 k (by simp [hk])) (ih s k (h1 k (by simp)) h2)
      refine fold _ _ ?_ ?_
      · simp only [hasG, decide_eq_true_eq] at hi
        have hig : i.toNat < g.length := by omega
        simp only [List.getElem?_eq_getElem hig, Option.map_some, Option.getD_some]
        exact hk _ (List.getElem_mem hig)
      · intro a ha
        simp only [List.mem_append, List.mem_singleton] at ha
        rcases ha with ha | rfl
        · exact h a ha
        · exact hi

theorem order_has (g : List Nd) : ∀ a ∈ order g, hasG g a = true := by
  unfold order
  split
  · rename_i hr
    obtain ⟨hl, hk⟩ := rightG_kids hr
    exact meet_has hk _ _ _ (by simp [hasG]; omega) (by simp)
  · simp
theorem order_len (g : List Nd) : (order g).length ≤ g.length := by
  unfold order
  split
  · rename_i hr
    obtain ⟨hl, hk⟩ := rightG_kids hr
    have := (met_of g hk (g.length + 1) (List.replicate g.length 0, []) 0 (by simp [hasG]; omega) (by simp)).out
    simp only [zeros_rep, List.length_nil] at this
    omega
  · simp

def setAll : List Int → Nat → List Int → List Int
  | [], _, l => l
  | a :: o, i, l => setAll o (i + 1) (l.set a.toNat i)
def numbers (g : List Nd) : List Int := setAll (order g) 0 (List.replicate g.length 0)
def renum (nb : List Int) (n : Nd) : Nd := { n with kids := n.kids.map fun k => (nb[k.toNat]?).getD 0 }
def normal (g : List Nd) : List Nd := (order g).map fun a => renum (numbers g) ((g[a.toNat]?).getD default)

theorem setAll_len : ∀ (o : List Int) (i : Nat) (l : List Int), (setAll o i l).length = l.length := by
  intro o
  induction o with
  | nil => intro i l; rfl
  | cons a o ih => intro i l; simp [setAll, ih]

abbrev iv (l : List Int) : List AV := l.map (AV.int .i64)
theorem iv_set (l : List Int) (i : Nat) (m : Int) : (iv l).set i (.int .i64 m) = iv (l.set i m) := by simp [iv, List.map_set]
theorem iv_get {l : List Int} {i : Nat} (h : i < l.length) : (iv l)[i]? = some (.int .i64 l[i]) := by simp [iv, h]
theorem iv_rep (n : Nat) : (List.replicate n [AV.int .i64 0]).flatten = iv (List.replicate n 0) := by
  induction n with
  | zero => rfl
  | succ n ih => rw [List.replicate_succ, List.flatten_cons, ih]; rfl

/-- A copy of a row, at work. -/
def KR (H0 H : AH) (b10 bn : Nat) (kv : AV) (l : List Int) : Prop := (kv = .nils ∧ l = []) ∨ ∃ bk, kv = .slr bk 0 l.length 1 ∧ H0.obs.length ≤ bk ∧ bk ≠ b10 ∧ bk ≠ bn ∧ Holds H bk (iv l)

theorem g_lenK {H0 H H' : AH} {b10 bn : Nat} {kv : AV} {l : List Int} {k : AV → Prop} (h : KR H0 H b10 bn kv l) (hk : k (.int .i64 l.length)) : gP (aLen .row kv H') k := by
  rcases h with ⟨rfl, rfl⟩ | ⟨bk, rfl, _⟩
  · exact g_lenN hk
  · exact g_lenR hk

theorem elemsOk_nd {x : AV} {n : Nd} (h : IsNd x n) : elemsOk 4 [x] = true := by
  obtain ⟨h1, h2, h3⟩ := h.ok
  simp [elemsOk, h1, h2, h3]

def half (f : Int → Int) (l : List Int) (j : Nat) : List Int := (l.take j).map f ++ l.drop j
theorem half_len (f : Int → Int) (l : List Int) (j : Nat) : (half f l j).length = l.length := by simp [half]; omega
theorem half_at (f : Int → Int) (l : List Int) (j : Nat) (h : j < l.length) : (half f l j)[j]? = some l[j] := by
  unfold half
  rw [List.getElem?_append_right (by simp; omega)]
  simp
  rw [show j - min j l.length = 0 by omega]
  simp [h]
theorem half_set (f : Int → Int) (l : List Int) (j : Nat) (h : j < l.length) : (half f l j).set j (f l[j]) = half f l (j + 1) := by
  unfold half
  rw [List.set_append_right _ _ (by simp; omega)]
  have h1 : (l.take (j + 1)).map f = (l.take j).map f ++ [f l[j]] := by rw [List.take_add_one, List.getElem?_eq_getElem h, List.map_append]; rfl
  rw [h1, List.append_assoc]
  congr 1
  rw [show j - ((l.take j).map f).length = 0 by simp; omega]
  rw [List.drop_eq_getElem_cons h]; rfl
theorem half_zero (f : Int → Int) (l : List Int) : half f l 0 = l := by simp [half]
theorem half_all (f : Int → Int) (l : List Int) : half f l l.length = l.map f := by simp [half]

theorem RowOf.ints {l : List Int} (t : Nat) : RowOf 1 IsI (.sl t 1 (iv l)) l := .inr ⟨t, _, rfl, F2.map (AV.int .i64) (fun _ => rfl) l⟩

theorem normal_ok (hT : Has T) (hK : Knows T) {v : AV} {g : List Nd} (hv : IsG v g) (hg : OkG g) (H : AH) (hp : 0 < H.toks.length) :
    ∃ v' H', Den.of T 19 [v] H = some (v', H') ∧ IsG v' (normal g) ∧ Grow H H' := by
  refine w19_ok hT ?_
  unfold w19
  refine c_i (order_ok hT hK hv hg H hp) ?_
  rintro ov H1 ⟨ho, g1⟩
  have hgl := hg.1
  have hol := order_len g
  have hoh := order_has g
  refine g_lenW hv ?_
  refine s_mkR (by omega) (by omega) rfl ?_
  rw [iv_rep]
  refine g_lenW ho ?_
  have cn := Holds.push H1 (iv (List.replicate g.length 0))
  have g2 : Grow H (H1.push (.cells (iv (List.replicate g.length 0)))) := g1.pushed
  have hbn : H.obs.length ≤ H1.obs.length := g1.len
  generalize H1.push (.cells (iv (List.replicate g.length 0))) = H2 at *
  generalize H1.obs.length = bn at *
  have hin : ∀ (i : Nat) (h : i < (order g).length), 0 ≤ (order g)[i] ∧ (order g)[i].toNat < g.length := by
    intro i h
    have := hoh _ (List.getElem_mem h)
    simp only [hasG, decide_eq_true_eq] at this; omega
  refine l1 (fun m a H' => ∃ (i : Nat) (nb : List Int), a = .int .i64 i ∧ Grow H H' ∧ Holds H' bn (iv nb) ∧ nb.length = g.length ∧ numbers g = setAll ((order g).drop i) i nb ∧ m = (order g).length - i) (order g).length
    ⟨0, _, rfl, g2, cn, by simp, rfl, rfl⟩ ?_
  rintro m _ H3 ⟨i, nb, rfl, g3, cn, hnl, hnb, hm⟩
  (repeat (with_reducible first | refine Stp.go ?_ | (refine i_cT ?_ ?_; · first | assumption | decide | exact rfl) | (refine i_cF ?_ ?_; · first | assumption | decide | exact rfl) | (refine i_T ?_ ?_; · first | assumption | exact rfl) | (refine i_F ?_ ?_; · first | assumption | exact rfl) | (refine Sts.go ?_ ?_; · first | omega | decide) | refine Stu.go ?_))
  refine i_dec (fun h => ?_) (fun h => ?_)
  · have hlt : i < (order g).length := by omega
    obtain ⟨h1, h2⟩ := hin i hlt
    refine g_atIn ho (List.getElem?_eq_getElem hlt) ?_
    refine g_ldv ?_
    refine g_idxR1 (by omega) ?_
    refine h_st cn.2 rfl rfl rfl (by simp; omega) ?_
    rw [splice1 _ _ _ rfl, iv_set]
    (repeat (with_reducible first | refine Stp.go ?_ | (refine i_cT ?_ ?_; · first | assumption | decide | exact rfl) | (refine i_cF ?_ ?_; · first | assumption | decide | exact rfl) | (refine i_T ?_ ?_; · first | assumption | exact rfl) | (refine i_F ?_ ?_; · first | assumption | exact rfl) | (refine Sts.go ?_ ?_; · first | omega | decide) | refine Stu.go ?_))
    rw [List.drop_eq_getElem_cons hlt, setAll] at hnb
    exact ⟨(order g).length - (i + 1), by omega, i + 1, _, by congr 1, g3.put hbn, ⟨by rw [put_len]; exact cn.1, by rw [put_get cn.1, if_pos rfl]⟩, by simpa using hnl, hnb, rfl⟩
  rw [List.drop_eq_nil_of_le (by omega)] at hnb
  simp only [setAll] at hnb
  subst hnb
  refine g_lenW ho ?_
  refine l2 (fun m a b H' => ∃ (i : Nat) (xs : List AV), b = .int .i64 i ∧ i ≤ (order g).length ∧ Grow H H' ∧ Holds H' bn (iv (numbers g)) ∧ Tok H H' 4 a xs ∧ F2 IsNd xs (((order g).take i).map fun a => renum (numbers g) ((g[a.toNat]?).getD default)) ∧ m = (order g).length - i) (order g).length
    ⟨0, [], rfl, Nat.zero_le _, g3, cn, .nil _ _ _, by simp; exact .nil, rfl⟩ ?_
  rintro m2 ov2 _ H5 ⟨i2, xs, rfl, hi2, g5, cn5, ht5, hf5, hm2⟩
  (repeat (with_reducible first | refine Stp.go ?_ | (refine i_cT ?_ ?_; · first | assumption | decide | exact rfl) | (refine i_cF ?_ ?_; · first | assumption | decide | exact rfl) | (refine i_T ?_ ?_; · first | assumption | exact rfl) | (refine i_F ?_ ?_; · first | assumption | exact rfl) | (refine Sts.go ?_ ?_; · first | omega | decide) | refine Stu.go ?_))
  refine i_dec (fun h5 => ?_) (fun h5 => ?_)
  rotate_left
  · refine ⟨?_, g5⟩
    rw [show i2 = (order g).length by omega, List.take_length] at hf5
    exact ht5.row hf5
  have hlt : i2 < (order g).length := by omega
  obtain ⟨h1, h2⟩ := hin i2 hlt
  refine g_atIn ho (List.getElem?_eq_getElem hlt) ?_
  refine g_ldv ?_
  refine g_at hv h1 (List.getElem?_eq_getElem h2) fun x hx => ?_
  have hx' := hx
  have hng : (((order g).take (i2 + 1)).map fun a => renum (numbers g) ((g[a.toNat]?).getD default)) = (((order g).take i2).map fun a => renum (numbers g) ((g[a.toNat]?).getD default)) ++ [renum (numbers g) g[(order g)[i2].toNat]] := by
    rw [List.take_add_one, List.getElem?_eq_getElem hlt, List.map_append]
    congr 1
    simp [List.getElem?_eq_getElem h2]
  have hkl := (hg.2 _ (List.getElem_mem h2)).1
  have hkin : ∀ k ∈ (g[(order g)[i2].toNat]).kids, 0 ≤ k ∧ k.toNat < g.length := by
    intro k hk
    have hr : rightG g = true := by
      rcases Bool.eq_false_or_eq_true (rightG g) with h | h
      · exact h
      · rw [order, if_neg (by simp [h])] at hlt; simp at hlt
    have := (rightG_kids hr).2 _ (List.getElem_mem h2) k hk
    simp only [hasG, decide_eq_true_eq] at this; omega
  generalize g[(order g)[i2].toNat] = n at *
  obtain ⟨kv, rfl, hkv⟩ := hx
  have hok := hx'.ok
  refine g_ldv4 ?_
  refine a_i ?_
  refine h_top (c' := [AV.int IntKind.i64 n.kind, AV.str n.tag, AV.str n.text, kv]) hok.1 hok.2.1 hok.2.2 (by simp) rfl ?_
  have cb := Holds.push H5 [AV.int IntKind.i64 n.kind, AV.str n.tag, AV.str n.text, kv]
  have hbl := g5.len
  have hbb : bn < H5.obs.length := cn5.1
  replace g5 := g5.trans (.push _ (.cells [AV.int IntKind.i64 n.kind, AV.str n.tag, AV.str n.text, kv]))
  replace cn5 := cn5.grow (.push _ (.cells [AV.int IntKind.i64 n.kind, AV.str n.tag, AV.str n.text, kv]))
  replace ht5 := ht5.grow (.push _ (.cells [AV.int IntKind.i64 n.kind, AV.str n.tag, AV.str n.text, kv]))
  generalize H5.push (.cells [AV.int IntKind.i64 n.kind, AV.str n.tag, AV.str n.text, kv]) = H7 at *
  generalize H5.obs.length = b10 at *
  (repeat (first | (with_reducible first | refine Stp.go ?_ | (refine i_cT ?_ ?_; · first | assumption | decide | exact rfl) | (refine i_cF ?_ ?_; · first | assumption | decide | exact rfl) | (refine i_T ?_ ?_; · first | assumption | exact rfl) | (refine i_F ?_ ?_; · first | assumption | exact rfl) | (refine Sts.go ?_ ?_; · first | omega | decide) | refine Stu.go ?_) | refine g_h1 cb rfl ?_))
  refine c_i (clone1_ok hT hkv (by omega) H7) ?_
  rintro kv' H8 ⟨g8, hc⟩
  have hcb := cb.1
  replace cb := cb.grow g8
  (repeat (with_reducible first | refine Stp.go ?_ | (refine i_cT ?_ ?_; · first | assumption | decide | exact rfl) | (refine i_cF ?_ ?_; · first | assumption | decide | exact rfl) | (refine i_T ?_ ?_; · first | assumption | exact rfl) | (refine i_F ?_ ?_; · first | assumption | exact rfl) | (refine Sts.go ?_ ?_; · first | omega | decide) | refine Stu.go ?_))
  have hkvd : kv'.def? = true ∧ kv'.cells = [kv'] ∧ kv'.isCell = true := by
    rcases hc with ⟨rfl, _⟩ | ⟨b, rfl, _⟩ <;> exact ⟨rfl, rfl, rfl⟩
  refine h_st cb.2 hkvd.1 (by rw [hkvd.2.1]; rfl) (by rw [hkvd.2.1]; simp [hkvd.2.2]) (by simp) ?_
  rw [splice1 _ _ _ hkvd.2.1]
  simp only [List.set_cons_succ, List.set_cons_zero]
  have g9 := (g5.trans g8).put (o := .cells [AV.int IntKind.i64 n.kind, AV.str n.tag, AV.str n.text, kv']) hbl
  have cn9 := (cn5.grow g8).put (o := .cells [AV.int IntKind.i64 n.kind, AV.str n.tag, AV.str n.text, kv']) cb.1 (by omega)
  have ht9 : Tok H (H8.put b10 (.cells [AV.int IntKind.i64 n.kind, AV.str n.tag, AV.str n.text, kv'])) 4 ov2 xs := (ht5.grow g8).same rfl
  have cb9 : Holds (H8.put b10 (.cells [AV.int IntKind.i64 n.kind, AV.str n.tag, AV.str n.text, kv'])) b10 [AV.int IntKind.i64 n.kind, AV.str n.tag, AV.str n.text, kv'] := ⟨by rw [put_len]; exact cb.1, by rw [put_get cb.1, if_pos rfl]⟩
  have hk9 : KR H (H8.put b10 (.cells [AV.int IntKind.i64 n.kind, AV.str n.tag, AV.str n.text, kv'])) b10 bn kv' n.kids := by
    rcases hc with h | ⟨b, rfl, hb1, hb2⟩
    · exact .inl h
    · exact .inr ⟨b, rfl, by omega, by omega, by omega, hb2.put cb.1 (by omega)⟩
  generalize H8.put b10 (.cells [AV.int IntKind.i64 n.kind, AV.str n.tag, AV.str n.text, kv']) = H9 at *
  (repeat (first | (with_reducible first | refine Stp.go ?_ | (refine i_cT ?_ ?_; · first | assumption | decide | exact rfl) | (refine i_cF ?_ ?_; · first | assumption | decide | exact rfl) | (refine i_T ?_ ?_; · first | assumption | exact rfl) | (refine i_F ?_ ?_; · first | assumption | exact rfl) | (refine Sts.go ?_ ?_; · first | omega | decide) | refine Stu.go ?_) | refine g_h1 cb9 rfl ?_ | refine g_lenK hk9 ?_))
  have hnbl : (numbers g).length = g.length := by simp [numbers, setAll_len]
  refine l1 (fun m a H' => ∃ (j : Nat), a = .int .i64 j ∧ j ≤ n.kids.length ∧ Grow H H' ∧ Holds H' bn (iv (numbers g)) ∧ Tok H H' 4 ov2 xs ∧ Holds H' b10 [AV.int IntKind.i64 n.kind, AV.str n.tag, AV.str n.text, kv'] ∧
    KR H H' b10 bn kv' (half (fun k => ((numbers g)[k.toNat]?).getD 0) n.kids j) ∧ m = n.kids.length - j) n.kids.length
    ⟨0, rfl, Nat.zero_le _, g9, cn9, ht9, cb9, by rw [half_zero]; exact hk9, rfl⟩ ?_
  rintro m3 _ H10 ⟨j, rfl, hj, g10, cn10, ht10, cb10, hk10, hm3⟩
  (repeat (with_reducible first | refine Stp.go ?_ | (refine i_cT ?_ ?_; · first | assumption | decide | exact rfl) | (refine i_cF ?_ ?_; · first | assumption | decide | exact rfl) | (refine i_T ?_ ?_; · first | assumption | exact rfl) | (refine i_F ?_ ?_; · first | assumption | exact rfl) | (refine Sts.go ?_ ?_; · first | omega | decide) | refine Stu.go ?_))
  refine i_dec (fun h6 => ?_) (fun h6 => ?_)
  · have hlt6 : j < n.kids.length := by omega
    rcases hk10 with ⟨_, h0⟩ | ⟨bk, hkk, q1, q2, q3, q4⟩
    · have := congrArg List.length h0
      rw [half_len] at this
      simp only [List.length_nil] at this
      omega
    rw [half_len] at hkk
    subst hkk
    obtain ⟨r1, r2⟩ := hkin _ (List.getElem_mem hlt6)
    refine g_idxR1 (by omega) ?_
    refine g_ld1 q4.2 (v := .int .i64 n.kids[j]) (by rw [Int.toNat_natCast]; have := half_at (fun k => ((numbers g)[k.toNat]?).getD 0) n.kids j hlt6; simp only [iv, List.getElem?_map, this, Option.map_some]) ?_
    (repeat (first | (with_reducible first | refine Stp.go ?_ | (refine i_cT ?_ ?_; · first | assumption | decide | exact rfl) | (refine i_cF ?_ ?_; · first | assumption | decide | exact rfl) | (refine i_T ?_ ?_; · first | assumption | exact rfl) | (refine i_F ?_ ?_; · first | assumption | exact rfl) | (refine Sts.go ?_ ?_; · first | omega | decide) | refine Stu.go ?_) | refine g_h1 cb10 rfl ?_))
    refine g_idxR1 (by omega) ?_
    refine g_h1 cn10 (iv_get (by omega)) ?_
    refine g_idxR1 (by omega) ?_
    refine h_st q4.2 rfl rfl rfl (by simp [half_len]; omega) ?_
    rw [splice1 _ _ _ rfl, Int.toNat_natCast, iv_set]
    have hst := half_set (fun k => ((numbers g)[k.toNat]?).getD 0) n.kids j hlt6
    simp only [List.getElem?_eq_getElem (show n.kids[j].toNat < (numbers g).length by omega), Option.getD_some] at hst
    rw [hst]
    (repeat (with_reducible first | refine Stp.go ?_ | (refine i_cT ?_ ?_; · first | assumption | decide | exact rfl) | (refine i_cF ?_ ?_; · first | assumption | decide | exact rfl) | (refine i_T ?_ ?_; · first | assumption | exact rfl) | (refine i_F ?_ ?_; · first | assumption | exact rfl) | (refine Sts.go ?_ ?_; · first | omega | decide) | refine Stu.go ?_))
    refine ⟨n.kids.length - (j + 1), by omega, j + 1, by congr 1, by omega, g10.put q1, cn10.put q4.1 q3.symm, ht10.same rfl, cb10.put q4.1 q2.symm, .inr ⟨bk, by rw [half_len], q1, q2, q3, ?_⟩, rfl⟩
    exact ⟨by rw [put_len]; exact q4.1, by rw [put_get q4.1, if_pos rfl]⟩
  rw [show j = n.kids.length by omega, half_all] at hk10
  rcases hk10 with ⟨rfl, h0⟩ | ⟨bk, hkk, q1, q2, q3, q4⟩
  · refine h_sealN cb10 rfl ?_
    refine g_hN cb10 rfl ?_
    have hnd : IsNd (.agg [AV.int IntKind.i64 n.kind, AV.str n.tag, AV.str n.text, .nils]) (renum (numbers g) n) := ⟨.nils, rfl, .inl ⟨rfl, h0⟩⟩
    refine s_lit (elemsOk_nd hnd) ?_
    have hxl := hf5.1
    simp only [List.length_map, List.length_take] at hxl
    refine s_app ht10 g10 hp (by simp) (elemsOk_nd hnd) (by simp; omega) fun v' H14 ht14 g14 ho14 => ?_
    (repeat (with_reducible first | refine Stp.go ?_ | (refine i_cT ?_ ?_; · first | assumption | decide | exact rfl) | (refine i_cF ?_ ?_; · first | assumption | decide | exact rfl) | (refine i_T ?_ ?_; · first | assumption | exact rfl) | (refine i_F ?_ ?_; · first | assumption | exact rfl) | (refine Sts.go ?_ ?_; · first | omega | decide) | refine Stu.go ?_))
    exact ⟨(order g).length - (i2 + 1), by omega, i2 + 1, _, by congr 1, by omega, g14, cn10.obs ho14, ht14, by rw [hng]; exact hf5.snoc hnd, rfl⟩
  · subst hkk
    refine h_sealC cb10 rfl q4 q2 ?_
    have cb11 : Holds ((H10.put bk .dead).put b10 (.cells ([AV.int IntKind.i64 n.kind, AV.str n.tag, AV.str n.text, AV.slr bk 0 (n.kids.map fun k => ((numbers g)[k.toNat]?).getD 0).length 1].set 3 (.sl 0 1 (iv (n.kids.map fun k => ((numbers g)[k.toNat]?).getD 0)))))) b10
        [AV.int IntKind.i64 n.kind, AV.str n.tag, AV.str n.text, .sl 0 1 (iv (n.kids.map fun k => ((numbers g)[k.toNat]?).getD 0))] :=
      ⟨by rw [put_len, put_len]; exact cb10.1, by rw [put_get (by rw [put_len]; exact cb10.1), if_pos rfl]; rfl⟩
    have cn11 := (cn10.put (o := .dead) q4.1 q3.symm).put (c := b10) (o := .cells ([AV.int IntKind.i64 n.kind, AV.str n.tag, AV.str n.text, AV.slr bk 0 (n.kids.map fun k => ((numbers g)[k.toNat]?).getD 0).length 1].set 3 (.sl 0 1 (iv (n.kids.map fun k => ((numbers g)[k.toNat]?).getD 0))))) (by rw [put_len]; exact cb10.1) (by omega)
    have g11 := (g10.put (o := .dead) q1).put (b := b10) (o := .cells ([AV.int IntKind.i64 n.kind, AV.str n.tag, AV.str n.text, AV.slr bk 0 (n.kids.map fun k => ((numbers g)[k.toNat]?).getD 0).length 1].set 3 (.sl 0 1 (iv (n.kids.map fun k => ((numbers g)[k.toNat]?).getD 0))))) hbl
    have ht11 : Tok H ((H10.put bk .dead).put b10 (.cells ([AV.int IntKind.i64 n.kind, AV.str n.tag, AV.str n.text, AV.slr bk 0 (n.kids.map fun k => ((numbers g)[k.toNat]?).getD 0).length 1].set 3 (.sl 0 1 (iv (n.kids.map fun k => ((numbers g)[k.toNat]?).getD 0)))))) 4 ov2 xs := ht10.same rfl
    generalize (H10.put bk .dead).put b10 (.cells ([AV.int IntKind.i64 n.kind, AV.str n.tag, AV.str n.text, AV.slr bk 0 (n.kids.map fun k => ((numbers g)[k.toNat]?).getD 0).length 1].set 3 (.sl 0 1 (iv (n.kids.map fun k => ((numbers g)[k.toNat]?).getD 0))))) = H12 at *
    refine g_hN cb11 rfl ?_
    have hnd : IsNd (.agg [AV.int IntKind.i64 n.kind, AV.str n.tag, AV.str n.text, .sl 0 1 (iv (n.kids.map fun k => ((numbers g)[k.toNat]?).getD 0))]) (renum (numbers g) n) := ⟨_, rfl, RowOf.ints 0⟩
    refine s_lit (elemsOk_nd hnd) ?_
    have hxl := hf5.1
    simp only [List.length_map, List.length_take] at hxl
    refine s_app ht11 g11 hp (by simp) (elemsOk_nd hnd) (by simp; omega) fun v' H14 ht14 g14 ho14 => ?_
    (repeat (with_reducible first | refine Stp.go ?_ | (refine i_cT ?_ ?_; · first | assumption | decide | exact rfl) | (refine i_cF ?_ ?_; · first | assumption | decide | exact rfl) | (refine i_T ?_ ?_; · first | assumption | exact rfl) | (refine i_F ?_ ?_; · first | assumption | exact rfl) | (refine Sts.go ?_ ?_; · first | omega | decide) | refine Stu.go ?_))
    exact ⟨(order g).length - (i2 + 1), by omega, i2 + 1, _, by congr 1, by omega, g14, cn11.obs ho14, ht14, by rw [hng]; exact hf5.snoc hnd, rfl⟩

end Go.SV
