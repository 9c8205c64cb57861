/- Contracts: events of graphs, tags of events, what the laws ask. Own text of the prover; nothing is assumed. -/
import Derived.Test.YtkbkhdgjdikjiaaGreatDoorCl
import Derived.KernelRfl
set_option maxRecDepth 100000
namespace Go.SV

variable {T : Nat → Option Entry}

def IsGv (x : AV) (g : List Nd) : Prop := IsG x g
def evB : Ev := ⟨0, [], [], [], false⟩
def evE : Ev := ⟨1, [], [], [], false⟩
def docE (g : List Nd) : List Ev := evB :: ((tellG g).out ++ [evE])
def eventsG (l : List (List Nd)) : List Ev × Int :=
  if l.all rightG = true then if l.any (fun g => decide (40 < (tellG g).most)) = true then ([], 13) else (l.flatMap docE, 0) else ([], 5)

theorem docs_len : ∀ (l : List (List Nd)), (∀ g ∈ l, (tellG g).out.length < 2 ^ 31) → (l.flatMap docE).length ≤ l.length * (2 ^ 31 + 2) := by
  intro l
  induction l with
  | nil => intro _; simp
  | cons a l ih =>
    intro h
    have h1 := h a (by simp)
    have h2 := ih fun n hn => h n (by simp [hn])
    simp only [List.flatMap_cons, List.length_append, List.length_cons, docE, List.length_nil]
    omega

theorem events_ok (hT : Has T) (hK : Knows T) {v : AV} {l : List (List Nd)} (hv : RowOf 1 IsGv v l) (hl : l.length ≤ 100) (hg : ∀ g ∈ l, OkG g) (H : AH) (hp : 0 < H.toks.length) :
    ∃ v' H', Den.of T 14 [v] H = some (v', H') ∧ (∃ ov, v' = .tup [ov, .int .i64 (eventsG l).2] ∧ RowOf 5 IsEv ov (eventsG l).1) ∧ Grow H H' := by
  refine w14_ok hT ?_
  unfold w14
  refine g_lenW hv ?_
  refine l2 (fun m a c H' => ∃ i : Nat, a = .nils ∧ c = .int .i64 i ∧ i ≤ l.length ∧ Grow H H' ∧ (l.take i).all rightG = true ∧ m = l.length - i) l.length ⟨0, rfl, rfl, Nat.zero_le _, .refl _, rfl, rfl⟩ ?_
  rintro m _ _ H1 ⟨i, rfl, rfl, hi, g1, hr, hm⟩
  (repeat (with_reducible first | refine Stp.go ?_ | (refine i_cT ?_ ?_; · first | assumption | decide | exact rfl) | (refine i_cF ?_ ?_; · first | assumption | decide | exact rfl) | (refine i_T ?_ ?_; · first | assumption | exact rfl) | (refine i_F ?_ ?_; · first | assumption | exact rfl) | (refine Sts.go ?_ ?_; · first | omega | decide) | refine Stu.go ?_))
  refine i_dec (fun h => ?_) (fun h => ?_)
  · have hlt : i < l.length := by omega
    refine g_atn hv (List.getElem?_eq_getElem hlt) fun x hx => ?_
    have hxg : IsG x l[i] := hx
    rw [hxg.cells]
    refine g_ldv ?_
    refine c_gb g1 (rightG_ok hT hK hxg (hg _ (List.getElem_mem hlt)) H1 (g1.pos hp)) fun H2 g2 => ?_
    (repeat (with_reducible first | refine Stp.go ?_ | (refine i_cT ?_ ?_; · first | assumption | decide | exact rfl) | (refine i_cF ?_ ?_; · first | assumption | decide | exact rfl) | (refine i_T ?_ ?_; · first | assumption | exact rfl) | (refine i_F ?_ ?_; · first | assumption | exact rfl) | (refine Sts.go ?_ ?_; · first | omega | decide) | refine Stu.go ?_))
    refine i_i (fun hr2 => ?_) (fun hr2 => ?_)
    · (repeat (with_reducible first | refine Stp.go ?_ | (refine i_cT ?_ ?_; · first | assumption | decide | exact rfl) | (refine i_cF ?_ ?_; · first | assumption | decide | exact rfl) | (refine i_T ?_ ?_; · first | assumption | exact rfl) | (refine i_F ?_ ?_; · first | assumption | exact rfl) | (refine Sts.go ?_ ?_; · first | omega | decide) | refine Stu.go ?_))
      refine ⟨l.length - (i + 1), by omega, i + 1, rfl, by congr 1, by omega, g2, ?_, rfl⟩
      rw [List.take_add_one, List.getElem?_eq_getElem hlt, List.all_append, hr]
      simp [hr2]
    · have he : eventsG l = ([], 5) := by
        rw [eventsG, if_neg]
        intro hall
        rw [List.all_eq_true] at hall
        have := hall _ (List.getElem_mem hlt)
        rw [hr2] at this; simp at this
      exact ⟨⟨.nils, by rw [he], by rw [he]; exact .inl ⟨rfl, rfl⟩⟩, g2⟩
  rw [show i = l.length by omega, List.take_length] at hr
  have hrall : ∀ g ∈ l, rightG g = true := fun g hgm => List.all_eq_true.1 hr g hgm
  have he : eventsG l = if l.any (fun g => decide (40 < (tellG g).most)) = true then ([], 13) else (l.flatMap docE, 0) := by rw [eventsG, if_pos hr]
  refine g_lenW hv ?_
  refine l2 (fun m a c H' => ∃ (i : Nat) (xs : List AV), c = .int .i64 i ∧ i ≤ l.length ∧ Grow H H' ∧ Tok H H' 5 a xs ∧ F2 IsEv xs ((l.take i).flatMap docE) ∧ (∀ g ∈ l.take i, (tellG g).most ≤ 40 ∧ (tellG g).out.length < 2 ^ 31) ∧ m = l.length - i) l.length
    ⟨0, [], rfl, Nat.zero_le _, g1, .nil _ _ _, by simp; exact .nil, by simp, rfl⟩ ?_
  rintro m2 ov _ H3 ⟨i, xs, rfl, hi2, g3, ht3, hf3, hsm, hm2⟩
  (repeat (with_reducible first | refine Stp.go ?_ | (refine i_cT ?_ ?_; · first | assumption | decide | exact rfl) | (refine i_cF ?_ ?_; · first | assumption | decide | exact rfl) | (refine i_T ?_ ?_; · first | assumption | exact rfl) | (refine i_F ?_ ?_; · first | assumption | exact rfl) | (refine Sts.go ?_ ?_; · first | omega | decide) | refine Stu.go ?_))
  refine i_dec (fun h3 => ?_) (fun h3 => ?_)
  rotate_left
  · rw [show i = l.length by omega, List.take_length] at hf3 hsm
    rw [if_neg] at he
    · rw [he]
      exact ⟨⟨ov, rfl, ht3.row hf3⟩, g3⟩
    · rw [Bool.not_eq_true, List.any_eq_false]
      intro g hgm
      have := (hsm g hgm).1
      simp; omega
  have hlt : i < l.length := by omega
  have htk : l.take (i + 1) = l.take i ++ [l[i]] := by rw [List.take_add_one, List.getElem?_eq_getElem hlt]; rfl
  refine g_atn hv (List.getElem?_eq_getElem hlt) fun x hx => ?_
  have hxg : IsG x l[i] := hx
  have hgi := hg _ (List.getElem_mem hlt)
  have hri := hrall _ (List.getElem_mem hlt)
  have hmi : l[i] ∈ l := List.getElem_mem hlt
  rw [hxg.cells]
  refine g_ldv ?_
  refine c_i (tell_ok hT hK hxg hgi hri H3 (g3.pos hp)) ?_
  rintro _ H4 ⟨⟨b, gv, tv, nv, m', d', ts, rfl, hc, ht4, hf4⟩, g4', hb1, hb2⟩
  have g4 := g3.trans g4'
  generalize l[i] = g at *
  (repeat (first | (with_reducible first | refine Stp.go ?_ | (refine i_cT ?_ ?_; · first | assumption | decide | exact rfl) | (refine i_cF ?_ ?_; · first | assumption | decide | exact rfl) | (refine i_T ?_ ?_; · first | assumption | exact rfl) | (refine i_F ?_ ?_; · first | assumption | exact rfl) | (refine Sts.go ?_ ?_; · first | omega | decide) | refine Stu.go ?_) | refine g_h1 hc rfl ?_))
  refine i_dec (fun h5 => ?_) (fun h5 => ?_)
  · rw [if_pos] at he
    · rw [he]
      exact ⟨⟨.nils, rfl, .inl ⟨rfl, rfl⟩⟩, g4⟩
    · rw [List.any_eq_true]
      exact ⟨g, hmi, by simp; omega⟩
  have hdl := docs_len (l.take i) fun g hgm => (hsm g hgm).2
  have hxl : xs.length = ((l.take i).flatMap docE).length := hf3.1
  have htl : (l.take i).length ≤ 100 := by rw [List.length_take]; omega
  have htsl : ts.length = (tellG g).out.length := hf4.1
  refine gP_i (v := encE evB) rfl ?_
  refine s_lit (okE _) ?_
  refine s_app (ht3.grow g4') g4 hp (by simp) (okE _) (by simp only [List.length_cons, List.length_nil]; omega) fun v1 H6 ht6 g6 ho6 => ?_
  (repeat (with_reducible first | refine Stp.go ?_ | (refine i_cT ?_ ?_; · first | assumption | decide | exact rfl) | (refine i_cF ?_ ?_; · first | assumption | decide | exact rfl) | (refine i_T ?_ ?_; · first | assumption | exact rfl) | (refine i_F ?_ ?_; · first | assumption | exact rfl) | (refine Sts.go ?_ ?_; · first | omega | decide) | refine Stu.go ?_))
  have hc6 := hc.obs' ho6
  refine g_h1 hc6 rfl ?_
  have fin : ∀ (v2 : AV) (H7 : AH), Tok H H7 5 v2 (xs ++ [encE evB] ++ ts) → Grow H H7 → H7.obs = H6.obs →
      gP ((aBuild [(.int .i64 0), (.str []), (.str []), (.str []), (.bool false)] [(0, 1, (.int .i64 1))]).map .agg) fun x41 =>
      sP (aLit .ro 5 [x41] H7) fun x42 H8 =>
      sP (aAppend .tok 5 64 v2 x42 H8) fun x43 H9 =>
      (sameR (.load none (.cst (.ptr b 1))) H6 H4) ∧
      gP (aBin .add (.int .i64 i) (.int .i64 1)) fun x44 =>
      (fun a c H' => ∃ m, m < m2 ∧ ∃ (i : Nat) (xs : List AV), c = .int .i64 i ∧ i ≤ l.length ∧ Grow H H' ∧ Tok H H' 5 a xs ∧ F2 IsEv xs ((l.take i).flatMap docE) ∧ (∀ g ∈ l.take i, (tellG g).most ≤ 40 ∧ (tellG g).out.length < 2 ^ 31) ∧ m = l.length - i) x43 x44 H9 := by
    intro v2 H7 ht7 g7 ho7
    refine gP_i (v := encE evE) rfl ?_
    refine s_lit (okE _) ?_
    refine s_app ht7 g7 hp (by simp) (okE _) (by simp only [List.length_append, List.length_cons, List.length_nil]; omega) fun v3 H9 ht9 g9 ho9 => ?_
    refine ⟨same_obs ho6, ?_⟩
    (repeat (with_reducible first | refine Stp.go ?_ | (refine i_cT ?_ ?_; · first | assumption | decide | exact rfl) | (refine i_cF ?_ ?_; · first | assumption | decide | exact rfl) | (refine i_T ?_ ?_; · first | assumption | exact rfl) | (refine i_F ?_ ?_; · first | assumption | exact rfl) | (refine Sts.go ?_ ?_; · first | omega | decide) | refine Stu.go ?_))
    refine ⟨l.length - (i + 1), by omega, i + 1, _, by congr 1, by omega, g9, ht9, ?_, ?_, rfl⟩
    · rw [htk, List.flatMap_append]
      have : [g].flatMap docE = [evB] ++ (tellG g).out ++ [evE] := by simp [docE]
      rw [this, ← List.append_assoc, ← List.append_assoc]
      exact ((hf3.snoc (isEv _)).app hf4).snoc (isEv _)
    · intro g' hg'
      rw [htk, List.mem_append] at hg'
      rcases hg' with hg' | hg'
      · exact hsm g' hg'
      · simp only [List.mem_singleton] at hg'
        subst hg'
        exact ⟨by omega, hb2⟩
  rcases ht4 with ⟨rfl, rfl⟩ | ⟨t, rfl, q1, q2⟩
  · -- nothing was told (this is never so)
    refine s_app0 rfl ?_ ?_
    · rcases ht6 with ⟨_, e⟩ | ⟨t, e, _⟩
      · simp at e
      · exact .inr ⟨t, _, e⟩
    · exact fin _ _ (by simpa using ht6) g6 rfl
  · by_cases hts : ts = []
    · subst hts
      refine s_app0 (by simp [elems]) ?_ ?_
      · rcases ht6 with ⟨_, e⟩ | ⟨t, e, _⟩
        · simp at e
        · exact .inr ⟨t, _, e⟩
      · exact fin _ _ (by simpa using ht6) g6 rfl
    · have hok : elemsOk 5 ts = true := by
        have : ts = (tellG g).out.map encE := by
          refine List.ext_getElem? fun k => ?_
          rw [List.getElem?_map]
          rcases Nat.lt_or_ge k ts.length with hk | hk
          · have hk2 : k < (tellG g).out.length := by omega
            rw [List.getElem?_eq_getElem hk, List.getElem?_eq_getElem hk2]
            exact congrArg some (hf4.2 k _ _ (List.getElem?_eq_getElem hk) (List.getElem?_eq_getElem hk2))
          · rw [List.getElem?_eq_none hk, List.getElem?_eq_none (by omega)]; rfl
        rw [this]; exact okEs _
      refine s_app ht6 g6 hp hts hok (by simp only [List.length_append, List.length_cons, List.length_nil]; omega) fun v2 H7 ht7 g7 ho7 => ?_
      exact fin v2 H7 ht7 g7 ho7

def deepG (g : List Nd) : Nat := if rightG g = true then (tellG g).most else 0
theorem deep_ok (hT : Has T) (hK : Knows T) {v : AV} {g : List Nd} (hv : IsG v g) (hg : OkG g) (H : AH) (hp : 0 < H.toks.length) :
    ∃ H', Den.of T 21 [v] H = some (.int .i64 (deepG g), H') ∧ Grow H H' := by
  refine gr_of (w21_ok hT ?_)
  unfold w21
  refine c_gr (rightG_ok hT hK hv hg H hp) fun H1 g1 => ?_
  (repeat (with_reducible first | refine Stp.go ?_ | (refine i_cT ?_ ?_; · first | assumption | decide | exact rfl) | (refine i_cF ?_ ?_; · first | assumption | decide | exact rfl) | (refine i_T ?_ ?_; · first | assumption | exact rfl) | (refine i_F ?_ ?_; · first | assumption | exact rfl) | (refine Sts.go ?_ ?_; · first | omega | decide) | refine Stu.go ?_))
  refine i_i (fun hr => ?_) (fun hr => ?_)
  · refine c_i (tell_ok hT hK hv hg hr H1 (g1.pos hp)) ?_
    rintro _ H4 ⟨⟨b, gv, tv, nv, m', d', ts, rfl, hc, ht4, hf4⟩, g4', hb1, hb2⟩
    (repeat (first | (with_reducible first | refine Stp.go ?_ | (refine i_cT ?_ ?_; · first | assumption | decide | exact rfl) | (refine i_cF ?_ ?_; · first | assumption | decide | exact rfl) | (refine i_T ?_ ?_; · first | assumption | exact rfl) | (refine i_F ?_ ?_; · first | assumption | exact rfl) | (refine Sts.go ?_ ?_; · first | omega | decide) | refine Stu.go ?_) | refine g_h1 hc rfl ?_))
    exact ⟨by rw [deepG, if_pos hr], g1.trans g4'⟩
  · exact ⟨by rw [deepG, if_neg (by simp [hr])]; rfl, g1⟩

/-! ### Tags of events -/
def namedT (t p : List UInt8) : List UInt8 × Int := if t = [] ∨ t = p then (p, 0) else if own0 t = true then (t, 0) else ([], 14)
theorem namedT_ok (hT : Has T) (t p : List UInt8) (H : AH) :
    ∃ H', Den.of T 140 [.str t, .str p] H = some (.tup [.str (namedT t p).1, .int .i64 (namedT t p).2], H') ∧ Grow H H' := by
  refine gr_of (w140_ok hT ?_)
  unfold w140
  refine j1 (fun a H' => a = .bool (decide (t = [] ∨ t = p)) ∧ H = H') ?_ ?_
  · rintro _ _ ⟨rfl, rfl⟩
    (with_reducible first | refine i_c (fun h => ?_) (fun h => ?_) | refine i_i (fun h => ?_) (fun h => ?_))
    · exact ⟨by rw [namedT, if_pos h], .refl _⟩
    have n1 := h
    refine j1 (fun a H' => a = .bool (own0 t) ∧ Grow H H') ?_ ?_
    · rintro _ H2 ⟨rfl, g2⟩
      (with_reducible first | refine i_c (fun h => ?_) (fun h => ?_) | refine i_i (fun h => ?_) (fun h => ?_))
      · exact ⟨by rw [namedT, if_neg n1, if_pos h], g2⟩
      · exact ⟨by rw [namedT, if_neg n1, if_neg (by simp [h])], g2⟩
    · intro j hj
      have tr := fun H => tagRight_ok hT t H
      (repeat' (first | (first | (with_reducible first | refine Stp.go ?_ | (refine i_cT ?_ ?_; · first | assumption | decide | exact rfl) | (refine i_cF ?_ ?_; · first | assumption | decide | exact rfl) | (refine i_T ?_ ?_; · first | assumption | exact rfl) | (refine i_F ?_ ?_; · first | assumption | exact rfl) | (refine Sts.go ?_ ?_; · first | omega | decide) | refine Stu.go ?_) | refine j_i ?_) | (with_reducible refine c_gb (H0 := H) ?_ (tr _) ?_; (· (first | assumption | exact .refl _)); refine fun _ _ => ?_) | with_reducible refine c_eq (core_ok hT _ _) ?_ | (with_reducible first | refine i_c (fun h => ?_) (fun h => ?_) | refine i_i (fun h => ?_) (fun h => ?_))))
      all_goals refine hj _ _ ⟨?_, by assumption⟩
      all_goals unfold own0
      all_goals simp [*]
  · intro j hj
    (repeat' (first | (first | (with_reducible first | refine Stp.go ?_ | (refine i_cT ?_ ?_; · first | assumption | decide | exact rfl) | (refine i_cF ?_ ?_; · first | assumption | decide | exact rfl) | (refine i_T ?_ ?_; · first | assumption | exact rfl) | (refine i_F ?_ ?_; · first | assumption | exact rfl) | (refine Sts.go ?_ ?_; · first | omega | decide) | refine Stu.go ?_) | refine j_i ?_) | (with_reducible first | refine i_c (fun h => ?_) (fun h => ?_) | refine i_i (fun h => ?_) (fun h => ?_))))
    all_goals exact hj _ _ ⟨by simp [beq_dec, *], rfl⟩

def tagOf (e : Ev) : List UInt8 × Int :=
  if e.kind = 2 then namedT e.tag tSeq
  else if e.kind = 4 then namedT e.tag tMap
  else if e.kind = 6 then if e.tag = [] ∧ e.plain = true then (resolve e.text, 0) else if e.tag = [] then (tStr, 0) else if fits e.tag e.text = true then (e.tag, 0) else ([], 14)
  else ([], 5)
theorem tagOf_ok (hT : Has T) (e : Ev) (hl : e.text.length < 2 ^ 60) (H : AH) :
    ∃ H', Den.of T 115 [encE e] H = some (.tup [.str (tagOf e).1, .int .i64 (tagOf e).2], H') ∧ Grow H H' := by
  refine gr_of (w115_ok hT ?_)
  unfold w115
  refine s_box rfl rfl ?_
  have c := Holds.push H (encE e).cells
  have g1 := Grow.push H (.cells (encE e).cells)
  generalize H.push (.cells (encE e).cells) = H1 at *
  generalize H.obs.length = b at *
  have nm := fun t p H => namedT_ok hT t p H
  have rs := fun H => resolve_ok hT e.text hl H
  have ft := fun H => fits_ok hT e.tag e.text hl H
  (repeat (first | (with_reducible first | refine Stp.go ?_ | (refine i_cT ?_ ?_; · first | assumption | decide | exact rfl) | (refine i_cF ?_ ?_; · first | assumption | decide | exact rfl) | (refine i_T ?_ ?_; · first | assumption | exact rfl) | (refine i_F ?_ ?_; · first | assumption | exact rfl) | (refine Sts.go ?_ ?_; · first | omega | decide) | refine Stu.go ?_) | refine g_h1 c rfl ?_))
  refine i_int (fun h1 => ?_) (fun h1 => ?_)
  · (repeat (first | (with_reducible first | refine Stp.go ?_ | (refine i_cT ?_ ?_; · first | assumption | decide | exact rfl) | (refine i_cF ?_ ?_; · first | assumption | decide | exact rfl) | (refine i_T ?_ ?_; · first | assumption | exact rfl) | (refine i_F ?_ ?_; · first | assumption | exact rfl) | (refine Sts.go ?_ ?_; · first | omega | decide) | refine Stu.go ?_) | refine g_h1 c rfl ?_ | (with_reducible refine c_gb (H0 := H) ?_ (nm _ _ _) ?_; (· (first | assumption | exact .refl _)); refine fun _ _ => ?_)))
    exact ⟨by rw [tagOf, if_pos h1]; rfl, by assumption⟩
  (repeat (with_reducible first | refine Stp.go ?_ | (refine i_cT ?_ ?_; · first | assumption | decide | exact rfl) | (refine i_cF ?_ ?_; · first | assumption | decide | exact rfl) | (refine i_T ?_ ?_; · first | assumption | exact rfl) | (refine i_F ?_ ?_; · first | assumption | exact rfl) | (refine Sts.go ?_ ?_; · first | omega | decide) | refine Stu.go ?_))
  refine i_int (fun h2 => ?_) (fun h2 => ?_)
  · (repeat (first | (with_reducible first | refine Stp.go ?_ | (refine i_cT ?_ ?_; · first | assumption | decide | exact rfl) | (refine i_cF ?_ ?_; · first | assumption | decide | exact rfl) | (refine i_T ?_ ?_; · first | assumption | exact rfl) | (refine i_F ?_ ?_; · first | assumption | exact rfl) | (refine Sts.go ?_ ?_; · first | omega | decide) | refine Stu.go ?_) | refine g_h1 c rfl ?_ | (with_reducible refine c_gb (H0 := H) ?_ (nm _ _ _) ?_; (· (first | assumption | exact .refl _)); refine fun _ _ => ?_)))
    exact ⟨by rw [tagOf, if_neg h1, if_pos h2]; rfl, by assumption⟩
  (repeat (with_reducible first | refine Stp.go ?_ | (refine i_cT ?_ ?_; · first | assumption | decide | exact rfl) | (refine i_cF ?_ ?_; · first | assumption | decide | exact rfl) | (refine i_T ?_ ?_; · first | assumption | exact rfl) | (refine i_F ?_ ?_; · first | assumption | exact rfl) | (refine Sts.go ?_ ?_; · first | omega | decide) | refine Stu.go ?_))
  refine i_int (fun h3 => ?_) (fun h3 => ?_)
  rotate_left
  · exact ⟨by rw [tagOf, if_neg h1, if_neg h2, if_neg h3], g1⟩
  have he : tagOf e = if e.tag = [] ∧ e.plain = true then (resolve e.text, 0) else if e.tag = [] then (tStr, 0) else if fits e.tag e.text = true then (e.tag, 0) else ([], 14) := by rw [tagOf, if_neg h1, if_neg h2, if_pos h3]
  refine j1 (fun a H' => a = .bool (decide (e.tag = [] ∧ e.plain = true)) ∧ H1 = H') ?_ ?_
  · rintro _ _ ⟨rfl, rfl⟩
    (with_reducible first | refine i_c (fun h => ?_) (fun h => ?_) | refine i_i (fun h => ?_) (fun h => ?_))
    · (repeat (first | (with_reducible first | refine Stp.go ?_ | (refine i_cT ?_ ?_; · first | assumption | decide | exact rfl) | (refine i_cF ?_ ?_; · first | assumption | decide | exact rfl) | (refine i_T ?_ ?_; · first | assumption | exact rfl) | (refine i_F ?_ ?_; · first | assumption | exact rfl) | (refine Sts.go ?_ ?_; · first | omega | decide) | refine Stu.go ?_) | refine g_h1 c rfl ?_ | with_reducible refine c_eq (rs _) ?_))
      exact ⟨by rw [he, if_pos h], g1⟩
    have n1 := h
    rw [if_neg n1] at he
    (repeat' (first | (first | (with_reducible first | refine Stp.go ?_ | (refine i_cT ?_ ?_; · first | assumption | decide | exact rfl) | (refine i_cF ?_ ?_; · first | assumption | decide | exact rfl) | (refine i_T ?_ ?_; · first | assumption | exact rfl) | (refine i_F ?_ ?_; · first | assumption | exact rfl) | (refine Sts.go ?_ ?_; · first | omega | decide) | refine Stu.go ?_) | refine j_i ?_) | refine g_h1 c rfl ?_ | (with_reducible refine c_gb (H0 := H1) ?_ (ft _) ?_; (· (first | assumption | exact .refl _)); refine fun _ _ => ?_) | refine g_h1 (c.grow (by assumption)) rfl ?_ | (with_reducible first | refine i_c (fun h => ?_) (fun h => ?_) | refine i_i (fun h => ?_) (fun h => ?_))))
    · exact ⟨by rw [he, if_pos h]; rfl, g1⟩
    · rename_i m1 _ _
      exact ⟨by rw [he, if_neg m1, if_pos h], g1.trans (by assumption)⟩
    · rename_i m1 _ _
      exact ⟨by rw [he, if_neg m1, if_neg (by simp [h])], g1.trans (by assumption)⟩
  · intro j hj
    (repeat' (first | (first | (with_reducible first | refine Stp.go ?_ | (refine i_cT ?_ ?_; · first | assumption | decide | exact rfl) | (refine i_cF ?_ ?_; · first | assumption | decide | exact rfl) | (refine i_T ?_ ?_; · first | assumption | exact rfl) | (refine i_F ?_ ?_; · first | assumption | exact rfl) | (refine Sts.go ?_ ?_; · first | omega | decide) | refine Stu.go ?_) | refine j_i ?_) | refine g_h1 c rfl ?_ | (with_reducible first | refine i_c (fun h => ?_) (fun h => ?_) | refine i_i (fun h => ?_) (fun h => ?_))))
    all_goals exact hj _ _ ⟨by simp [beq_dec, *], rfl⟩


/-! ### What the laws ask first -/
def heavy (g : List Nd) : Bool := g.any (fun n => decide (200 < n.kids.length ∨ 2000 < n.text.length ∨ 2000 < n.tag.length)) || decide (120 < g.length)

theorem heavy_ok (hT : Has T) {v : AV} {g : List Nd} (hv : IsG v g) (hl : g.length < 2 ^ 63) (H : AH) :
    ∃ H', Den.of T 32 [v] H = some (.bool (heavy g), H') ∧ Grow H H' := by
  refine gr_of (w32_ok hT ?_)
  unfold w32
  refine g_lenW hv ?_
  refine l1 (fun m a H' => ∃ i : Nat, a = .int .i64 i ∧ i ≤ g.length ∧ Grow H H' ∧ heavy g = ((g.drop i).any (fun n => decide (200 < n.kids.length ∨ 2000 < n.text.length ∨ 2000 < n.tag.length)) || decide (120 < g.length)) ∧ m = g.length - i) g.length ⟨0, rfl, Nat.zero_le _, .refl _, rfl, rfl⟩ ?_
  rintro m _ H1 ⟨i, rfl, hi, g1, he, hm⟩
  (repeat (with_reducible first | refine Stp.go ?_ | (refine i_cT ?_ ?_; · first | assumption | decide | exact rfl) | (refine i_cF ?_ ?_; · first | assumption | decide | exact rfl) | (refine i_T ?_ ?_; · first | assumption | exact rfl) | (refine i_F ?_ ?_; · first | assumption | exact rfl) | (refine Sts.go ?_ ?_; · first | omega | decide) | refine Stu.go ?_))
  refine i_dec (fun h => ?_) (fun h => ?_)
  rotate_left
  · rw [List.drop_eq_nil_of_le (by omega), List.any_nil, Bool.false_or] at he
    (repeat (first | (with_reducible first | refine Stp.go ?_ | (refine i_cT ?_ ?_; · first | assumption | decide | exact rfl) | (refine i_cF ?_ ?_; · first | assumption | decide | exact rfl) | (refine i_T ?_ ?_; · first | assumption | exact rfl) | (refine i_F ?_ ?_; · first | assumption | exact rfl) | (refine Sts.go ?_ ?_; · first | omega | decide) | refine Stu.go ?_) | refine g_lenW hv ?_))
    refine ⟨?_, g1⟩
    rw [he]
    congr 1
    rw [Bool.eq_iff_iff, decide_eq_true_eq, decide_eq_true_eq]
    omega
  have hlt : i < g.length := by omega
  rw [List.drop_eq_getElem_cons hlt, List.any_cons] at he
  refine g_atn hv (List.getElem?_eq_getElem hlt) fun x hx => ?_
  have hok := hx.ok
  generalize g[i] = n at *
  obtain ⟨kv, rfl, hkv⟩ := hx
  refine g_ldv4 ?_
  refine a_i ?_
  refine h_top (c' := [AV.int IntKind.i64 n.kind, AV.str n.tag, AV.str n.text, kv]) hok.1 hok.2.1 hok.2.2 (by simp) rfl ?_
  have cb := Holds.push H1 [AV.int IntKind.i64 n.kind, AV.str n.tag, AV.str n.text, kv]
  replace g1 := g1.trans (.push _ (.cells [AV.int IntKind.i64 n.kind, AV.str n.tag, AV.str n.text, kv]))
  generalize H1.push (.cells [AV.int IntKind.i64 n.kind, AV.str n.tag, AV.str n.text, kv]) = H3 at *
  generalize H1.obs.length = b at *
  refine j1 (fun a H' => a = .bool (decide (200 < n.kids.length ∨ 2000 < n.text.length ∨ 2000 < n.tag.length)) ∧ H3 = H') ?_ ?_
  · rintro _ _ ⟨rfl, rfl⟩
    (with_reducible first | refine i_c (fun h => ?_) (fun h => ?_) | refine i_i (fun h => ?_) (fun h => ?_))
    · exact ⟨by rw [he, decide_eq_true h]; rfl, g1⟩
    · rw [decide_eq_false h, Bool.false_or] at he
      (repeat (with_reducible first | refine Stp.go ?_ | (refine i_cT ?_ ?_; · first | assumption | decide | exact rfl) | (refine i_cF ?_ ?_; · first | assumption | decide | exact rfl) | (refine i_T ?_ ?_; · first | assumption | exact rfl) | (refine i_F ?_ ?_; · first | assumption | exact rfl) | (refine Sts.go ?_ ?_; · first | omega | decide) | refine Stu.go ?_))
      exact ⟨g.length - (i + 1), by omega, i + 1, by congr 1, by omega, g1, he, rfl⟩
  · intro j hj
    (repeat' (first | (first | (with_reducible first | refine Stp.go ?_ | (refine i_cT ?_ ?_; · first | assumption | decide | exact rfl) | (refine i_cF ?_ ?_; · first | assumption | decide | exact rfl) | (refine i_T ?_ ?_; · first | assumption | exact rfl) | (refine i_F ?_ ?_; · first | assumption | exact rfl) | (refine Sts.go ?_ ?_; · first | omega | decide) | refine Stu.go ?_) | refine j_i ?_) | refine g_h1 cb rfl ?_ | refine g_lenW hkv ?_ | (with_reducible first | refine i_c (fun h => ?_) (fun h => ?_) | refine i_i (fun h => ?_) (fun h => ?_))))
    all_goals refine hj _ _ ⟨?_, rfl⟩
    all_goals congr 1
    all_goals rw [Bool.eq_iff_iff, decide_eq_true_eq]
    all_goals first
      | (simp only [true_iff]; omega)
      | (rw [decide_eq_true_eq]; omega)

theorem light {g : List Nd} (h : heavy g = false) : OkG g ∧ g.length ≤ 120 ∧ ∀ n ∈ g, n.kids.length ≤ 200 ∧ n.text.length ≤ 2000 ∧ n.tag.length ≤ 2000 := by
  simp only [heavy, Bool.or_eq_false_iff, List.any_eq_false, decide_eq_true_eq, decide_eq_false_iff_not] at h
  have h2 : ∀ n ∈ g, n.kids.length ≤ 200 ∧ n.text.length ≤ 2000 ∧ n.tag.length ≤ 2000 := fun n hn => by have := h.1 n hn; omega
  refine ⟨⟨by omega, fun n hn => ?_⟩, by omega, h2⟩
  have := h2 n hn
  exact ⟨by omega, by omega, by omega⟩

theorem clone_ok (hT : Has T) {v : AV} {l : List Int} (hv : RowOf 1 IsI v l) (hl : l.length * 8 ≤ 2 ^ 47) (H : AH) (hp : 0 < H.toks.length) :
    ∃ v' H', Den.of T 48 [v] H = some (v', H') ∧ RowOf 1 IsI v' l ∧ Grow H H' := by
  refine w48_ok hT ?_
  unfold w48
  rcases hv with ⟨rfl, rfl⟩ | ⟨t, xs, rfl, hf⟩
  · refine gP_i rfl ?_
    refine i_T rfl ?_
    exact ⟨.inl ⟨rfl, rfl⟩, .refl _⟩
  · refine gP_i (v := .bool false) rfl ?_
    refine i_F rfl ?_
    refine sP_i (v := .sl H.toks.length 1 []) (H := ⟨H.obs, H.toks ++ [(0, 1)]⟩) rfl ?_
    have g1 : Grow H ⟨H.obs, H.toks ++ [(0, 1)]⟩ := ⟨⟨[], by simp⟩, ⟨_, rfl⟩⟩
    have ht : Tok H ⟨H.obs, H.toks ++ [(0, 1)]⟩ 1 (.sl H.toks.length 1 []) [] := .inr ⟨_, rfl, Nat.le_refl _, by simp⟩
    by_cases hx : xs = []
    · subst hx
      refine s_app0 (by simp [elems]) (.inr ⟨_, _, rfl⟩) ?_
      exact ⟨ht.row hf, g1⟩
    · have hxx := hf.ints
      refine s_app ht g1 hp hx (by rw [hxx]; exact ok_ints l) (by rw [hf.1]; simp; omega) fun v' H' ht' g' _ => ?_
      exact ⟨ht'.row (by simpa using hf), g'⟩

theorem theirs_ok (hT : Has T) {v : AV} {g : List Nd} (hv : IsG v g) (hg : MemG g) (H : AH) (hp : 0 < H.toks.length) :
    ∃ v' H', Den.of T 33 [v] H = some (v', H') ∧ IsG v' g ∧ Grow H H' := by
  refine w33_ok hT ?_
  unfold w33
  refine g_lenW hv ?_
  have hgl := hg.1
  refine l2 (fun m a c H' => ∃ (i : Nat) (xs : List AV), c = .int .i64 i ∧ i ≤ g.length ∧ Grow H H' ∧ Tok H H' 4 a xs ∧ F2 IsNd xs (g.take i) ∧ m = g.length - i) g.length ⟨0, [], rfl, Nat.zero_le _, .refl _, .nil _ _ _, by simp; exact .nil, rfl⟩ ?_
  rintro m ov _ H1 ⟨i, xs, rfl, hi, g1, ht, hf, hm⟩
  (repeat (with_reducible first | refine Stp.go ?_ | (refine i_cT ?_ ?_; · first | assumption | decide | exact rfl) | (refine i_cF ?_ ?_; · first | assumption | decide | exact rfl) | (refine i_T ?_ ?_; · first | assumption | exact rfl) | (refine i_F ?_ ?_; · first | assumption | exact rfl) | (refine Sts.go ?_ ?_; · first | omega | decide) | refine Stu.go ?_))
  refine i_dec (fun h => ?_) (fun h => ?_)
  rotate_left
  · rw [show i = g.length by omega, List.take_length] at hf
    exact ⟨ht.row hf, g1⟩
  have hlt : i < g.length := by omega
  have htk : g.take (i + 1) = g.take i ++ [g[i]] := by rw [List.take_add_one, List.getElem?_eq_getElem hlt]; rfl
  have hni := hg.2 _ (List.getElem_mem hlt)
  refine g_atn hv (List.getElem?_eq_getElem hlt) fun x hx => ?_
  have hok := hx.ok
  generalize g[i] = n at *
  obtain ⟨kv, rfl, hkv⟩ := hx
  refine g_ldv4 ?_
  refine a_i ?_
  refine h_top (c' := [AV.int IntKind.i64 n.kind, AV.str n.tag, AV.str n.text, kv]) hok.1 hok.2.1 hok.2.2 (by simp) rfl ?_
  have cb := Holds.push H1 [AV.int IntKind.i64 n.kind, AV.str n.tag, AV.str n.text, kv]
  have g3 := g1.trans (.push _ (.cells [AV.int IntKind.i64 n.kind, AV.str n.tag, AV.str n.text, kv]))
  have ht3 := ht.grow (.push _ (.cells [AV.int IntKind.i64 n.kind, AV.str n.tag, AV.str n.text, kv]))
  generalize H1.push (.cells [AV.int IntKind.i64 n.kind, AV.str n.tag, AV.str n.text, kv]) = H3 at *
  generalize H1.obs.length = b at *
  (repeat (first | (with_reducible first | refine Stp.go ?_ | (refine i_cT ?_ ?_; · first | assumption | decide | exact rfl) | (refine i_cF ?_ ?_; · first | assumption | decide | exact rfl) | (refine i_T ?_ ?_; · first | assumption | exact rfl) | (refine i_F ?_ ?_; · first | assumption | exact rfl) | (refine Sts.go ?_ ?_; · first | omega | decide) | refine Stu.go ?_) | refine g_h1 cb rfl ?_))
  refine c_i (clone_ok hT hkv (by omega) H3 (g3.pos hp)) ?_
  rintro kv' H4 ⟨hkv', g4⟩
  have hnd : IsNd (.agg [AV.int IntKind.i64 n.kind, AV.str n.tag, AV.str n.text, kv']) n := ⟨kv', rfl, hkv'⟩
  refine gP_i (v := .agg [AV.int IntKind.i64 n.kind, AV.str n.tag, AV.str n.text, kv']) ?_ ?_
  · have hd : kv'.def? = true := hkv'.def
    have hc : kv'.cells = [kv'] := hkv'.cells
    simp only [aBuild, hd, hc]
    rfl
  refine s_lit (elemsOk_nd hnd) ?_
  have hxl := hf.1
  rw [List.length_take] at hxl
  refine s_app (ht3.grow g4) (g3.trans g4) hp (by simp) (elemsOk_nd hnd) (by simp; omega) fun v' H6 ht6 g6 _ => ?_
  refine ⟨same_grow g4 cb.1, same_grow g4 cb.1, same_grow g4 cb.1, ?_⟩
  (repeat (with_reducible first | refine Stp.go ?_ | (refine i_cT ?_ ?_; · first | assumption | decide | exact rfl) | (refine i_cF ?_ ?_; · first | assumption | decide | exact rfl) | (refine i_T ?_ ?_; · first | assumption | exact rfl) | (refine i_F ?_ ?_; · first | assumption | exact rfl) | (refine Sts.go ?_ ?_; · first | omega | decide) | refine Stu.go ?_))
  exact ⟨g.length - (i + 1), by omega, i + 1, _, by congr 1, by omega, g6, ht6, by rw [htk]; exact hf.snoc hnd, rfl⟩

end Go.SV
