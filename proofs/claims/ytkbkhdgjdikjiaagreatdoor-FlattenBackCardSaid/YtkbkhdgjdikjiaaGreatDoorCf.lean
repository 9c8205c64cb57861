/- Contracts: keys that stand twice, graphs that may be. Own text of the prover; nothing is assumed. -/
import Derived.Test.YtkbkhdgjdikjiaaGreatDoorCe
import Derived.Test.YtkbkhdgjdikjiaaGreatDoorLe
set_option maxRecDepth 100000
namespace Go.SV

variable {T : Nat → Option Entry}

theorem wrong_ok (hT : Has T) (hK : Knows T) {v x : AV} {g : List Nd} {n : Nd} (hv : IsG v g) (hx : IsNd x n) (hn : OkN n) {b : Nat} {H : AH} (hb : Holds H b [v]) (hp : 0 < H.toks.length) :
    ∃ H', Den.of T 60 [x, .ptr b 0] H = some (.bool (!rightN g n), H') ∧ Grow H H' := by
  refine gr_of (w60_ok hT ?_)
  unfold w60
  have ho := hx.ok
  have hx' := hx
  obtain ⟨kv, rfl, hk⟩ := hx
  refine s_box ho.1 ho.2.2 ?_
  have hc := Holds.push H (AV.agg [AV.int IntKind.i64 n.kind, AV.str n.tag, AV.str n.text, kv]).cells
  refine g_h1 (hb.pushed _) rfl ?_
  refine g_hN hc rfl ?_
  refine c_gb (.push _ _) (right_ok hT hK hv hx' hn _ (by simpa [AH.push] using hp)) fun H2 g2 => ?_
  (repeat (with_reducible first | refine Stp.go ?_ | (refine i_cT ?_ ?_; · first | assumption | decide | exact rfl) | (refine i_cF ?_ ?_; · first | assumption | decide | exact rfl) | (refine i_T ?_ ?_; · first | assumption | exact rfl) | (refine i_F ?_ ?_; · first | assumption | exact rfl) | (refine Sts.go ?_ ?_; · first | omega | decide) | refine Stu.go ?_))
  exact ⟨rfl, g2⟩

/-- Are there two keys alike? -/
def twN (g : List Nd) : List Int → List (List UInt8 × List UInt8) → List Int → Bool
  | _, _, [] => false
  | sn, sl, k :: ks =>
    if hasG g k = true then
      if k ∈ sn then true
      else match g[k.toNat]? with
        | some x => if x.kind = 0 then (if (x.tag, x.text) ∈ sl then true else twN g (k :: sn) ((x.tag, x.text) :: sl) ks) else twN g (k :: sn) sl ks
        | none => false
    else twN g sn sl ks
def twice (g : List Nd) : Bool := g.any fun n => n.kind == 2 && twN g [] [] (evens n.kids)

def ones {κ : Type} [DecidableEq κ] (l : List κ) : κ → Option AV := fun k => if k ∈ l then some (.int .i64 1) else none

theorem ones_cons {κ : Type} [DecidableEq κ] (l : List κ) (k : κ) : setK (ones l) k (.int .i64 1) = ones (k :: l) := by
  funext x
  simp only [setK, ones, List.mem_cons]
  by_cases h : x = k <;> simp [h]

theorem Holds.put {H : AH} {b c : Nat} {l : List AV} {o : AObj} (h : Holds H b l) (hc : c < H.obs.length) (hne : b ≠ c) : Holds (H.put c o) b l :=
  ⟨by rw [put_len]; exact h.1, by rw [put_get hc, if_neg hne]; exact h.2⟩

theorem twice_ok (hT : Has T) {v : AV} {g : List Nd} (hv : IsG v g) (hg : OkG g) (H : AH) (hp : 0 < H.toks.length) :
    ∃ H', Den.of T 63 [v] H = some (.bool (twice g), H') ∧ Grow H H' := by
  refine gr_of (w63_ok hT ?_)
  unfold w63
  refine g_lenW hv ?_
  have hgl := hg.1
  refine l1 (fun m a H' => ∃ i : Nat, a = .int .i64 i ∧ Grow H H' ∧ twice g = ((g.drop i).any fun n => n.kind == 2 && twN g [] [] (evens n.kids)) ∧ m = g.length - i) g.length ⟨0, rfl, .refl _, by simp [twice], by simp⟩ ?_
  rintro m _ H1 ⟨i, rfl, g1, he, hm⟩
  (repeat (with_reducible first | refine Stp.go ?_ | (refine i_cT ?_ ?_; · first | assumption | decide | exact rfl) | (refine i_cF ?_ ?_; · first | assumption | decide | exact rfl) | (refine i_T ?_ ?_; · first | assumption | exact rfl) | (refine i_F ?_ ?_; · first | assumption | exact rfl) | (refine Sts.go ?_ ?_; · first | omega | decide) | refine Stu.go ?_))
  refine i_dec (fun h => ?_) (fun h => ?_)
  rotate_left
  · rw [List.drop_eq_nil_of_le (by omega)] at he
    exact ⟨by rw [he]; rfl, g1⟩
  have hlt : i < g.length := by omega
  rw [List.drop_eq_getElem_cons hlt, List.any_cons] at he
  have hni : OkN g[i] := hg.2 _ (List.getElem_mem hlt)
  refine j0 (fun H' => Grow H H' ∧ (g[i].kind == 2 && twN g [] [] (evens g[i].kids)) = false) ?_ ?_
  · rintro H2 ⟨g2, hf⟩
    (repeat (with_reducible first | refine Stp.go ?_ | (refine i_cT ?_ ?_; · first | assumption | decide | exact rfl) | (refine i_cF ?_ ?_; · first | assumption | decide | exact rfl) | (refine i_T ?_ ?_; · first | assumption | exact rfl) | (refine i_F ?_ ?_; · first | assumption | exact rfl) | (refine Sts.go ?_ ?_; · first | omega | decide) | refine Stu.go ?_))
    refine ⟨g.length - (i + 1), by omega, i + 1, by congr 1, g2, by rw [he, hf, Bool.false_or], rfl⟩
  intro j hj
  refine g_atn hv (List.getElem?_eq_getElem hlt) fun x hx => ?_
  have hx' := hx
  generalize hn : g[i] = n at *
  obtain ⟨kv, rfl, hk⟩ := hx
  have ho := hx'.ok
  refine g_ldv4 ?_
  refine a_i ?_
  refine h_top (c' := [AV.int IntKind.i64 n.kind, AV.str n.tag, AV.str n.text, kv]) ho.1 ho.2.1 ho.2.2 (by simp) rfl ?_
  have g4 : Grow H (H1.push (.cells [AV.int IntKind.i64 n.kind, AV.str n.tag, AV.str n.text, kv])) := g1.trans (.push _ _)
  (repeat (with_reducible first | refine Stp.go ?_ | (refine i_cT ?_ ?_; · first | assumption | decide | exact rfl) | (refine i_cF ?_ ?_; · first | assumption | decide | exact rfl) | (refine i_T ?_ ?_; · first | assumption | exact rfl) | (refine i_F ?_ ?_; · first | assumption | exact rfl) | (refine Sts.go ?_ ?_; · first | omega | decide) | refine Stu.go ?_))
  refine i_int (fun h2 => ?_) (fun h2 => ?_)
  rotate_left
  · exact hj _ ⟨g4, by simp [h2]⟩
  have hb4 := Holds.push H1 [AV.int IntKind.i64 n.kind, AV.str n.tag, AV.str n.text, kv]
  generalize H1.push (.cells [AV.int IntKind.i64 n.kind, AV.str n.tag, AV.str n.text, kv]) = H4 at *
  refine s_map ?_
  refine s_map ?_
  refine g_hN ((hb4.pushed _).pushed _) rfl ?_
  have hHl : H.obs.length ≤ H4.obs.length := g4.len
  have m1 := (MapAt.push (.scal .int) (AV.int .i64) H4).grow (.push _ (.map [] 0))
  have m2 := MapAt.push (.struct [.str, .str]) enc2 (H4.push (.map [] 0))
  have hne : H4.obs.length < (H4.push (.map [] 0)).obs.length := by rw [push_len]; omega
  have g6 : Grow H ((H4.push (.map [] 0)).push (.map [] 0)) := (g4.trans (.push _ _)).trans (.push _ _)
  generalize (H4.push (.map [] 0)).obs.length = b2 at *
  generalize H4.obs.length = b1 at *
  generalize hH6 : (H4.push (.map [] 0)).push (.map [] 0) = H6 at *
  refine c_i (keys_ok hT hx' hni.1 H6 (g6.pos hp)) ?_
  rintro kl H7 ⟨hkl, g7'⟩
  replace m1 := m1.grow g7'
  replace m2 := m2.grow g7'
  have g7 := g6.trans g7'
  have hel := evens_len _ n.kids (Nat.le_refl _)
  have hkids := hni.1
  refine g_lenW hkl ?_
  refine l1 (fun q a H' => ∃ (k : Nat) (sn : List Int) (sl : List (List UInt8 × List UInt8)), a = .int .i64 k ∧ Grow H H' ∧ MapAt (.scal .int) (AV.int .i64) (ones sn) H' b1 ∧ MapAt (.struct [.str, .str]) enc2 (ones sl) H' b2 ∧
    twN g [] [] (evens n.kids) = twN g sn sl ((evens n.kids).drop k) ∧ q = (evens n.kids).length - k) (evens n.kids).length ⟨0, [], [], rfl, g7, m1, m2, rfl, rfl⟩ ?_
  rintro q _ H8 ⟨k, sn, sl, rfl, g8, n1, n2, ht, hq⟩
  (repeat (with_reducible first | refine Stp.go ?_ | (refine i_cT ?_ ?_; · first | assumption | decide | exact rfl) | (refine i_cF ?_ ?_; · first | assumption | decide | exact rfl) | (refine i_T ?_ ?_; · first | assumption | exact rfl) | (refine i_F ?_ ?_; · first | assumption | exact rfl) | (refine Sts.go ?_ ?_; · first | omega | decide) | refine Stu.go ?_))
  refine i_dec (fun h => ?_) (fun h => ?_)
  rotate_left
  · rw [List.drop_eq_nil_of_le (by omega)] at ht
    exact hj _ ⟨g8, by rw [ht]; simp [twN]⟩
  have hkl2 : k < (evens n.kids).length := by omega
  rw [List.drop_eq_getElem_cons hkl2] at ht
  refine j0 (fun H' => ∃ (sn : List Int) (sl : List (List UInt8 × List UInt8)), Grow H H' ∧ MapAt (.scal .int) (AV.int .i64) (ones sn) H' b1 ∧ MapAt (.struct [.str, .str]) enc2 (ones sl) H' b2 ∧ twN g [] [] (evens n.kids) = twN g sn sl ((evens n.kids).drop (k + 1))) ?_ ?_
  · rintro H9 ⟨sn, sl, g9, o1, o2, o3⟩
    (repeat (with_reducible first | refine Stp.go ?_ | (refine i_cT ?_ ?_; · first | assumption | decide | exact rfl) | (refine i_cF ?_ ?_; · first | assumption | decide | exact rfl) | (refine i_T ?_ ?_; · first | assumption | exact rfl) | (refine i_F ?_ ?_; · first | assumption | exact rfl) | (refine Sts.go ?_ ?_; · first | omega | decide) | refine Stu.go ?_))
    exact ⟨(evens n.kids).length - (k + 1), by omega, k + 1, sn, sl, by congr 1, g9, o1, o2, o3, rfl⟩
  intro j4 hj4
  refine g_atIn hkl (List.getElem?_eq_getElem hkl2) ?_
  generalize (evens n.kids)[k] = y at *
  rw [twN] at ht
  (repeat (first | (with_reducible first | refine Stp.go ?_ | (refine i_cT ?_ ?_; · first | assumption | decide | exact rfl) | (refine i_cF ?_ ?_; · first | assumption | decide | exact rfl) | (refine i_T ?_ ?_; · first | assumption | exact rfl) | (refine i_F ?_ ?_; · first | assumption | exact rfl) | (refine Sts.go ?_ ?_; · first | omega | decide) | refine Stu.go ?_) | with_reducible refine c_eq (has_ok hT hv _ _) ?_))
  refine i_i (fun hh => ?_) (fun hh => ?_)
  rotate_left
  · rw [hh] at ht
    exact hj4 _ ⟨sn, sl, g8, n1, n2, by rw [ht]; simp⟩
  rw [if_pos hh] at ht
  have hyy : 0 ≤ y ∧ y.toNat < g.length := by simp only [hasG, decide_eq_true_eq] at hh; omega
  rw [List.getElem?_eq_getElem hyy.2] at ht
  simp only at ht
  refine g_look n1 keyI ?_
  have hone : ((ones sn y).getD (.int .i64 0)) = .int .i64 (if y ∈ sn then 1 else 0) := by unfold ones; split <;> rfl
  rw [hone]
  (repeat (with_reducible first | refine Stp.go ?_ | (refine i_cT ?_ ?_; · first | assumption | decide | exact rfl) | (refine i_cF ?_ ?_; · first | assumption | decide | exact rfl) | (refine i_T ?_ ?_; · first | assumption | exact rfl) | (refine i_F ?_ ?_; · first | assumption | exact rfl) | (refine Sts.go ?_ ?_; · first | omega | decide) | refine Stu.go ?_))
  refine s_upd n1 keyI rfl fun o n1' => ?_
  refine g_look n1' keyI ?_
  have hset : (setK (ones sn) y (AV.int .i64 ((if y ∈ sn then 1 else 0) + 1)) y).getD (.int .i64 0) = .int .i64 ((if y ∈ sn then 1 else 0) + 1) := by simp [setK]
  rw [hset]
  have hp8 := g8.put (o := o) hHl
  (repeat (with_reducible first | refine Stp.go ?_ | (refine i_cT ?_ ?_; · first | assumption | decide | exact rfl) | (refine i_cF ?_ ?_; · first | assumption | decide | exact rfl) | (refine i_T ?_ ?_; · first | assumption | exact rfl) | (refine i_F ?_ ?_; · first | assumption | exact rfl) | (refine Sts.go ?_ ?_; · first | omega | decide) | refine Stu.go ?_))
  refine i_dec (fun h3 => ?_) (fun h3 => ?_)
  · have hy : y ∈ sn := by
      by_cases h : y ∈ sn
      · exact h
      · rw [if_neg h] at h3; omega
    rw [if_pos hy] at ht
    exact ⟨by rw [he, ht]; simp [h2], hp8⟩
  have hy : y ∉ sn := by
    intro h
    rw [if_pos h] at h3; omega
  rw [if_neg hy] at ht n1'
  rw [show (0 : Int) + 1 = 1 from rfl, ones_cons] at n1'
  replace n2 := n2.put (o := o) n1.1 (by omega)
  generalize H8.put b1 o = H11 at *
  refine g_at hv hyy.1 (List.getElem?_eq_getElem hyy.2) fun x2 hx2 => ?_
  have hx2' := hx2
  generalize g[y.toNat] = n3 at *
  obtain ⟨kv2, rfl, hk2⟩ := hx2
  have ho2 := hx2'.ok
  refine g_ldv4 ?_
  refine a_i ?_
  refine h_top (c' := [AV.int IntKind.i64 n3.kind, AV.str n3.tag, AV.str n3.text, kv2]) ho2.1 ho2.2.1 ho2.2.2 (by simp) rfl ?_
  have g13 : Grow H (H11.push (.cells [AV.int IntKind.i64 n3.kind, AV.str n3.tag, AV.str n3.text, kv2])) := hp8.trans (.push _ _)
  have c9 := Holds.push H11 [AV.int IntKind.i64 n3.kind, AV.str n3.tag, AV.str n3.text, kv2]
  replace n1' := n1'.grow (.push _ (.cells [AV.int IntKind.i64 n3.kind, AV.str n3.tag, AV.str n3.text, kv2]))
  have hb9 : b2 < H11.obs.length := n2.1
  replace n2 := n2.grow (.push _ (.cells [AV.int IntKind.i64 n3.kind, AV.str n3.tag, AV.str n3.text, kv2]))
  generalize H11.push (.cells [AV.int IntKind.i64 n3.kind, AV.str n3.tag, AV.str n3.text, kv2]) = H13 at *
  generalize H11.obs.length = b9 at *
  (repeat (first | (with_reducible first | refine Stp.go ?_ | (refine i_cT ?_ ?_; · first | assumption | decide | exact rfl) | (refine i_cF ?_ ?_; · first | assumption | decide | exact rfl) | (refine i_T ?_ ?_; · first | assumption | exact rfl) | (refine i_F ?_ ?_; · first | assumption | exact rfl) | (refine Sts.go ?_ ?_; · first | omega | decide) | refine Stu.go ?_) | refine g_h1 c9 rfl ?_))
  refine i_int (fun h4 => ?_) (fun h4 => ?_)
  rotate_left
  · rw [if_neg h4] at ht
    exact hj4 _ ⟨y :: sn, sl, g13, n1', n2, ht⟩
  rw [if_pos h4] at ht
  have hbld : ∀ {k : AV → Prop}, k (enc2 (n3.tag, n3.text)) → gP ((aBuild [(.str []), (.str [])] [(0, 1, .str n3.tag), (1, 1, .str n3.text)]).map .agg) k := fun h => gP_i rfl h
  (repeat (first | (with_reducible first | refine Stp.go ?_ | (refine i_cT ?_ ?_; · first | assumption | decide | exact rfl) | (refine i_cF ?_ ?_; · first | assumption | decide | exact rfl) | (refine i_T ?_ ?_; · first | assumption | exact rfl) | (refine i_F ?_ ?_; · first | assumption | exact rfl) | (refine Sts.go ?_ ?_; · first | omega | decide) | refine Stu.go ?_) | refine g_h1 c9 rfl ?_ | refine hbld ?_))
  refine g_look n2 key2 ?_
  have hone2 : ((ones sl (n3.tag, n3.text)).getD (.int .i64 0)) = .int .i64 (if (n3.tag, n3.text) ∈ sl then 1 else 0) := by unfold ones; split <;> rfl
  rw [hone2]
  (repeat (with_reducible first | refine Stp.go ?_ | (refine i_cT ?_ ?_; · first | assumption | decide | exact rfl) | (refine i_cF ?_ ?_; · first | assumption | decide | exact rfl) | (refine i_T ?_ ?_; · first | assumption | exact rfl) | (refine i_F ?_ ?_; · first | assumption | exact rfl) | (refine Sts.go ?_ ?_; · first | omega | decide) | refine Stu.go ?_))
  refine s_entry n2 key2 fun o1 st e1 => ?_
  refine g_ext1 ?_
  refine s_entSt e1 key2 rfl fun o2 e2 => ?_
  refine ⟨same_entry n2 key2 e1, ?_⟩
  have hl13 : b2 < H13.obs.length := n2.1
  have hbH : H.obs.length ≤ b2 := by omega
  have c9' := (c9.put (o := o1) hl13 (by omega)).put (o := o2) (by rw [put_len]; exact hl13) (by omega)
  have n1'' := (n1'.put (o := o1) hl13 (by omega)).put (o := o2) (by rw [put_len]; exact hl13) (by omega)
  have g15 := (g13.put (o := o1) hbH).put (o := o2) hbH
  have hcol : ∀ (f : List UInt8 × List UInt8 → Option AV) k a b, setK (setK f k a) k b = setK f k b := by
    intro f k a b; funext x; simp only [setK]; by_cases h : x = k <;> simp [h]
  rw [hcol] at e2
  (repeat (first | (with_reducible first | refine Stp.go ?_ | (refine i_cT ?_ ?_; · first | assumption | decide | exact rfl) | (refine i_cF ?_ ?_; · first | assumption | decide | exact rfl) | (refine i_T ?_ ?_; · first | assumption | exact rfl) | (refine i_F ?_ ?_; · first | assumption | exact rfl) | (refine Sts.go ?_ ?_; · first | omega | decide) | refine Stu.go ?_) | refine g_h1 c9' rfl ?_ | refine hbld ?_))
  refine g_look e2 key2 ?_
  have hset2 : (setK (ones sl) (n3.tag, n3.text) (AV.int .i64 ((if (n3.tag, n3.text) ∈ sl then 1 else 0) + 1)) (n3.tag, n3.text)).getD (.int .i64 0) = .int .i64 ((if (n3.tag, n3.text) ∈ sl then 1 else 0) + 1) := by simp [setK]
  rw [hset2]
  (repeat (with_reducible first | refine Stp.go ?_ | (refine i_cT ?_ ?_; · first | assumption | decide | exact rfl) | (refine i_cF ?_ ?_; · first | assumption | decide | exact rfl) | (refine i_T ?_ ?_; · first | assumption | exact rfl) | (refine i_F ?_ ?_; · first | assumption | exact rfl) | (refine Sts.go ?_ ?_; · first | omega | decide) | refine Stu.go ?_))
  refine i_dec (fun h5 => ?_) (fun h5 => ?_)
  · have hy2 : (n3.tag, n3.text) ∈ sl := by
      by_cases h : (n3.tag, n3.text) ∈ sl
      · exact h
      · rw [if_neg h] at h5; omega
    rw [if_pos hy2] at ht
    exact ⟨by rw [he, ht]; simp [h2], g15⟩
  have hy2 : (n3.tag, n3.text) ∉ sl := by
    intro h
    rw [if_pos h] at h5; omega
  rw [if_neg hy2] at ht e2
  rw [show (0 : Int) + 1 = 1 from rfl, ones_cons] at e2
  exact hj4 _ ⟨y :: sn, (n3.tag, n3.text) :: sl, g15, n1'', e2, ht⟩

def rightG (g : List Nd) : Bool := decide (1 ≤ g.length ∧ g.length ≤ 2000) && (!(g.any fun n => !rightN g n) && !twice g)

theorem rightG_ok (hT : Has T) (hK : Knows T) {v : AV} {g : List Nd} (hv : IsG v g) (hg : OkG g) (H : AH) (hp : 0 < H.toks.length) :
    ∃ H', Den.of T 37 [v] H = some (.bool (rightG g), H') ∧ Grow H H' := by
  refine gr_of (w37_ok hT ?_)
  unfold w37
  refine s_box hv.def (by rw [hv.cells]; simp [hv.cell]) ?_
  rw [hv.cells]
  have hc := Holds.push H [v]
  have g1 := Grow.push H (.cells [v])
  generalize H.push (.cells [v]) = H1 at *
  generalize H.obs.length = b at *
  have ld : ∀ {H' : AH} {k : AV → Prop}, Grow H1 H' → k v → gP (aLoad none (.ptr b 0) H') k := fun g h => g_h1 (hc.grow g) rfl h
  have hgl := hg.1
  refine j1 (fun a H' => a = .bool (!decide (1 ≤ g.length ∧ g.length ≤ 2000)) ∧ Grow H1 H') ?_ ?_
  · rintro _ H2 ⟨rfl, g2⟩
    refine i_not ?_
    refine i_dec (fun hl => ?_) (fun hl => ?_)
    · refine s_fn1 ?_
      refine ld g2 ?_
      refine c_gb g2 (containsNode_ok hT hv (by omega) _ _ (fun n => !rightN g n) (by decide) H2 fun n hn x hx H' g' => wrong_ok hT hK hv hx (hg.2 n hn) ((hc.grow g2).grow g') (((g1.trans g2).trans g').pos hp)) fun H4 g4 => ?_
      have tw := fun H' (g' : Grow H1 H') => twice_ok hT hv hg H' ((g1.trans g').pos hp)
      (repeat' (first | (first | (with_reducible first | refine Stp.go ?_ | (refine i_cT ?_ ?_; · first | assumption | decide | exact rfl) | (refine i_cF ?_ ?_; · first | assumption | decide | exact rfl) | (refine i_T ?_ ?_; · first | assumption | exact rfl) | (refine i_F ?_ ?_; · first | assumption | exact rfl) | (refine Sts.go ?_ ?_; · first | omega | decide) | refine Stu.go ?_) | refine j_i ?_) | refine ld g4 ?_ | (with_reducible refine c_gb (H0 := H1) ?_ (tw _ g4) ?_; (· (first | assumption | exact .refl _)); refine fun _ _ => ?_) | (with_reducible first | refine i_c (fun h => ?_) (fun h => ?_) | refine i_i (fun h => ?_) (fun h => ?_))))
      all_goals refine ⟨?_, by first | exact g1.trans g4 | exact g1.trans (by assumption)⟩
      all_goals unfold rightG
      all_goals rw [decide_eq_true hl]
      all_goals simp [*]
    · exact ⟨by unfold rightG; rw [decide_eq_false hl]; rfl, g1.trans g2⟩
  · intro j hj
    (repeat' (first | (first | (with_reducible first | refine Stp.go ?_ | (refine i_cT ?_ ?_; · first | assumption | decide | exact rfl) | (refine i_cF ?_ ?_; · first | assumption | decide | exact rfl) | (refine i_T ?_ ?_; · first | assumption | exact rfl) | (refine i_F ?_ ?_; · first | assumption | exact rfl) | (refine Sts.go ?_ ?_; · first | omega | decide) | refine Stu.go ?_) | refine j_i ?_) | refine ld (.refl _) ?_ | refine g_lenW hv ?_ | (with_reducible first | refine i_c (fun h => ?_) (fun h => ?_) | refine i_i (fun h => ?_) (fun h => ?_))))
    all_goals refine hj _ _ ⟨?_, .refl _⟩
    all_goals congr 1
    all_goals rw [Bool.eq_iff_iff, Bool.not_eq_true', decide_eq_false_iff_not]
    all_goals first
      | (simp only [true_iff]; omega)
      | (rw [decide_eq_true_eq]; omega)
      | omega

end Go.SV
