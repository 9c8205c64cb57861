/- Contracts: orders, copies, normal forms. Own text of the prover; nothing is assumed. -/
import Derived.Test.YtkbkhdgjdikjiaaGreatDoorCg
set_option maxRecDepth 100000
namespace Go.SV

variable {T : Nat → Option Entry}

theorem rightG_kids {g : List Nd} (h : rightG g = true) : (1 ≤ g.length ∧ g.length ≤ 2000) ∧ ∀ n ∈ g, ∀ k ∈ n.kids, hasG g k = true := by
  simp only [rightG, Bool.and_eq_true, decide_eq_true_eq, Bool.not_eq_true'] at h
  refine ⟨h.1, fun n hn k hk => ?_⟩
  have h2 := h.2.1
  rw [List.any_eq_false] at h2
  have h3 := h2 n hn
  simp only [Bool.not_eq_true', Bool.not_eq_false] at h3
  unfold rightN at h3
  split at h3
  · simp at h3
  · rename_i h4
    rw [Bool.not_eq_true, List.any_eq_false] at h4
    have := h4 k hk
    simpa using this

theorem zeros_rep (n : Nat) : zeros (List.replicate n 0) = n := by simp [zeros]
theorem pot_rep : ∀ (g : List Nd), (∀ n ∈ g, n.kids.length < 2 ^ 20) → pot g (List.replicate g.length 0) ≤ g.length * 2 ^ 20 := by
  intro g
  induction g with
  | nil => intro _; simp [pot]
  | cons n g ih =>
    intro h
    have h1 := h n (by simp)
    have h2 := ih fun n hn => h n (by simp [hn])
    simp only [List.length_cons, List.replicate_succ, pot, if_true]
    omega

theorem rep_ints (n : Nat) : (List.replicate n [AV.int .i64 0]).flatten = ints (List.replicate n 0) := by
  induction n with
  | zero => rfl
  | succ n ih => rw [List.replicate_succ, List.flatten_cons, ih]; rfl

theorem order_ok (hT : Has T) (hK : Knows T) {v : AV} {g : List Nd} (hv : IsG v g) (hg : OkG g) (H : AH) (hp : 0 < H.toks.length) :
    ∃ v' H', Den.of T 34 [v] H = some (v', H') ∧ RowOf 1 IsI v' (order g) ∧ Grow H H' := by
  refine w34_ok hT ?_
  unfold w34
  refine s_box hv.def (by rw [hv.cells]; simp [hv.cell]) ?_
  rw [hv.cells]
  refine a_i ?_
  have c1 := (Holds.push H [v]).pushed (.cells [.nils])
  have c2 := Holds.push (H.push (.cells [v])) [.nils]
  have g2 : Grow H ((H.push (.cells [v])).push (.cells [.nils])) := (Grow.push _ _).trans (Grow.push _ _)
  have l2 : H.obs.length < (H.push (.cells [v])).obs.length := by rw [push_len]; omega
  generalize (H.push (.cells [v])).push (.cells [.nils]) = H2 at *
  generalize (H.push (.cells [v])).obs.length = b2 at *
  refine g_h1 c1 rfl ?_
  refine c_gr (rightG_ok hT hK hv hg H2 (g2.pos hp)) fun H3 g3 => ?_
  replace c1 := c1.grow g3
  have hb2 := c2.1
  replace c2 := c2.grow g3
  have g03 := g2.trans g3
  have hlen := g3.len
  (repeat (with_reducible first | refine Stp.go ?_ | (refine i_cT ?_ ?_; · first | assumption | decide | exact rfl) | (refine i_cF ?_ ?_; · first | assumption | decide | exact rfl) | (refine i_T ?_ ?_; · first | assumption | exact rfl) | (refine i_F ?_ ?_; · first | assumption | exact rfl) | (refine Sts.go ?_ ?_; · first | omega | decide) | refine Stu.go ?_))
  refine i_i (fun hr => ?_) (fun hr => ?_)
  rotate_left
  · refine h_st c2.2 rfl rfl rfl (by simp) ?_
    refine g_ld1 (c := [.nils]) (by rw [put_get c2.1, if_pos rfl]; rfl) rfl ?_
    exact ⟨.inl ⟨rfl, by rw [order, if_neg (by simp [hr])]⟩, g03.put (Nat.le_of_lt l2)⟩
  obtain ⟨hgl, hk⟩ := rightG_kids hr
  refine g_h1 c1 rfl ?_
  refine g_lenW hv ?_
  refine s_mkR (by omega) (by omega) rfl ?_
  rw [rep_ints]
  refine a_i ?_
  refine h_top (c' := [.slr H3.obs.length 0 g.length 1]) rfl rfl rfl (by simp) rfl ?_
  refine a_i ?_
  refine s_fn4 ?_
  refine h_top (c' := [meetFn H.obs.length b2 (H3.push (.cells (ints (List.replicate g.length 0)))).obs.length ((H3.push (.cells (ints (List.replicate g.length 0)))).push (.cells [.slr H3.obs.length 0 g.length 1])).obs.length]) rfl rfl rfl (by simp) rfl ?_
  have k1 : (H3.push (.cells (ints (List.replicate g.length 0)))).obs.length = H3.obs.length + 1 := push_len _ _
  have k2 : ((H3.push (.cells (ints (List.replicate g.length 0)))).push (.cells [.slr H3.obs.length 0 g.length 1])).obs.length = H3.obs.length + 2 := by rw [push_len, k1]
  have M : Ms H (((H3.push (.cells (ints (List.replicate g.length 0)))).push (.cells [.slr H3.obs.length 0 g.length 1])).push (.cells [meetFn H.obs.length b2 (H3.push (.cells (ints (List.replicate g.length 0)))).obs.length ((H3.push (.cells (ints (List.replicate g.length 0)))).push (.cells [.slr H3.obs.length 0 g.length 1])).obs.length])) v g.length H.obs.length b2
      (H3.push (.cells (ints (List.replicate g.length 0)))).obs.length ((H3.push (.cells (ints (List.replicate g.length 0)))).push (.cells [.slr H3.obs.length 0 g.length 1])).obs.length H3.obs.length (List.replicate g.length 0, []) :=
    ⟨((g03.pushed).pushed).pushed, ((c1.pushed _).pushed _).pushed _, (Holds.push _ _).pushed _, Holds.push _ _, ((Holds.push _ _).pushed _).pushed _, .nils, [], ((c2.pushed _).pushed _).pushed _, .nil _ _ _, .nil⟩
  have hB : Blks H H.obs.length b2 (H3.push (.cells (ints (List.replicate g.length 0)))).obs.length ((H3.push (.cells (ints (List.replicate g.length 0)))).push (.cells [.slr H3.obs.length 0 g.length 1])).obs.length H3.obs.length := by
    rw [k1, k2]
    refine ⟨?_, ?_, ?_, ?_, ?_, ?_, ?_, ?_, ?_⟩ <;> omega
  generalize ((H3.push (.cells (ints (List.replicate g.length 0)))).push (.cells [.slr H3.obs.length 0 g.length 1])).push (.cells [meetFn H.obs.length b2 (H3.push (.cells (ints (List.replicate g.length 0)))).obs.length ((H3.push (.cells (ints (List.replicate g.length 0)))).push (.cells [.slr H3.obs.length 0 g.length 1])).obs.length]) = H10 at *
  generalize ((H3.push (.cells (ints (List.replicate g.length 0)))).push (.cells [.slr H3.obs.length 0 g.length 1])).obs.length = b4 at *
  generalize (H3.push (.cells (ints (List.replicate g.length 0)))).obs.length = b3 at *
  generalize H3.obs.length = bm at *
  refine g_h1 M.c4 rfl ?_
  refine v_c (by decide) rfl ?_
  have hpr := pot_rep g fun n hn => (hg.2 n hn).1
  have hmt := meet_ok hT hv hg hk hp hB (g.length + 1) 0 (List.replicate g.length 0, []) H10 (by simp [hasG]; omega) (by simp) (by simp only [zeros_rep]; omega) (by simp only; omega) (by simp only [zeros_rep, List.length_nil]; omega) M
  refine c_i hmt ?_
  rintro _ H11 ⟨rfl, M2⟩
  obtain ⟨ov, xs, d2, ht, hf⟩ := M2.c2
  refine g_h1 d2 rfl ?_
  have hov : ov.def? = true ∧ ov.cells = [ov] ∧ ov.isCell = true := by
    rcases ht with ⟨rfl, _⟩ | ⟨t, rfl, _⟩ <;> exact ⟨rfl, rfl, rfl⟩
  refine h_st d2.2 hov.1 (by rw [hov.2.1]; rfl) (by rw [hov.2.1]; simp [hov.2.2]) (by simp) ?_
  rw [splice1 _ _ _ hov.2.1]
  refine g_ld1 (c := [ov]) (v := ov) (by rw [put_get d2.1, if_pos rfl]; rfl) rfl ?_
  exact ⟨by rw [order, if_pos hr]; exact ht.row hf, M2.grow.put hB.l2⟩

theorem F2.ints {xs : List AV} {l : List Int} (h : F2 IsI xs l) : xs = l.map (AV.int .i64) := by
  refine List.ext_getElem? fun i => ?_
  rw [List.getElem?_map]
  rcases Nat.lt_or_ge i xs.length with hl | hl
  · have hl2 : i < l.length := by rw [← h.1]; exact hl
    rw [List.getElem?_eq_getElem hl, List.getElem?_eq_getElem hl2]
    exact congrArg some (h.2 i _ _ (List.getElem?_eq_getElem hl) (List.getElem?_eq_getElem hl2))
  · rw [List.getElem?_eq_none hl, List.getElem?_eq_none (by rw [← h.1]; exact hl)]; rfl

theorem ok_ints (l : List Int) : elemsOk 1 (l.map (AV.int .i64)) = true := by
  simp [elemsOk, AV.def?, AV.cells, AV.isCell]
theorem flat_ints (l : List Int) : (l.map (AV.int .i64)).flatMap AV.cells = l.map (AV.int .i64) := by
  induction l with
  | nil => rfl
  | cons a l ih => rw [List.map_cons, List.flatMap_cons, ih]; rfl

/-- A copy that may be written. -/
theorem clone1_ok (hT : Has T) {v : AV} {l : List Int} (hv : RowOf 1 IsI v l) (hl : l.length < 2 ^ 40) (H : AH) :
    ∃ v' H', Den.of T (48 + 100000) [v] H = some (v', H') ∧ Grow H H' ∧ ((v' = .nils ∧ l = []) ∨ ∃ b, v' = .slr b 0 l.length 1 ∧ H.obs.length ≤ b ∧ Holds H' b (l.map (AV.int .i64))) := by
  refine w48v1_ok hT ?_
  unfold w48v1
  rcases hv with ⟨rfl, rfl⟩ | ⟨t, xs, rfl, hf⟩
  · refine gP_i rfl ?_
    refine i_T rfl ?_
    exact ⟨.refl _, .inl ⟨rfl, rfl⟩⟩
  · refine gP_i (v := .bool false) rfl ?_
    refine i_F rfl ?_
    have hx := hf.ints
    subst hx
    refine sP_i (v := .slr H.obs.length 0 0 1) (H := H.push (.cells [])) rfl ?_
    cases l with
    | nil =>
      refine sP_i (v := .slr H.obs.length 0 0 1) (H := H.push (.cells [])) (by simp [aAppend, elems]) ?_
      exact ⟨.push _ _, .inr ⟨_, rfl, Nat.le_refl _, Holds.push _ _⟩⟩
    | cons a l =>
      have hb : (0 + (List.map (AV.int .i64) (a :: l)).length) * 8 ≤ 2 ^ 47 := by simp at hl ⊢; omega
      refine sP_i (v := .slr (H.push (.cells [])).obs.length 0 (a :: l).length 1) (H := ((H.push (.cells [])).put H.obs.length .dead).push (.cells ((a :: l).map (AV.int .i64)))) ?_ ?_
      · have he : elems 1 (.sl t 1 ((a :: l).map (AV.int .i64))) (H.push (.cells [])) = some ((a :: l).map (AV.int .i64)) := by simp [elems]
        have hfl := flat_ints (a :: l)
        simp only [aAppend, he, ok_ints, push_get]
        simp only [List.map_cons, List.isEmpty_cons, Bool.false_eq_true, if_false, Bool.not_true]
        rw [if_pos ⟨trivial, by simp, by simpa using hb⟩]
        simp only [List.map_cons] at hfl
        simp [AH.push, AH.put, hfl]
      · refine ⟨((Grow.push _ _).put (Nat.le_refl _)).pushed, .inr ⟨_, rfl, by rw [push_len]; omega, ?_⟩⟩
        have := Holds.push ((H.push (.cells [])).put H.obs.length .dead) ((a :: l).map (AV.int .i64))
        rw [put_len] at this
        exact this

/-- A row that was made by place, by value from now on. -/
theorem elems_slr {H : AH} {b : Nat} {l : List Int} (h : Holds H b (l.map (AV.int .i64))) : elems 1 (.slr b 0 l.length 1) H = some (l.map (AV.int .i64)) := by
  simp only [elems, if_true, h.2]
  rw [if_pos (by simp)]
  congr 1
  refine List.ext_getElem? fun i => ?_
  rcases Nat.lt_or_ge i l.length with hl | hl
  · simp only [List.getElem?_map, List.getElem?_range hl, Option.map_some, List.getElem?_eq_getElem hl]
    congr 1
    rw [show 0 + i * 1 = i by omega]
    have hd : ((l.map (AV.int .i64)).drop i) = AV.int .i64 l[i] :: (l.map (AV.int .i64)).drop (i + 1) := by
      rw [List.drop_eq_getElem_cons (by simpa using hl)]; simp
    rw [hd]; rfl
  · rw [List.getElem?_eq_none (by simpa using hl), List.getElem?_eq_none (by simpa using hl)]

theorem s_sealT {H : AH} {b : Nat} {l : List Int} {k : AV → AH → Prop} (h : Holds H b (l.map (AV.int .i64))) (hk : k (.sl 0 1 (l.map (AV.int .i64))) (H.put b .dead)) : sP (sealV (.slr b 0 l.length 1) H) k := by
  refine sP_i (v := .sl 0 1 (l.map (AV.int .i64))) (H := H.put b .dead) ?_ hk
  simp only [sealV, elems_slr h]
  rw [if_pos ⟨by decide, ok_ints l⟩]; rfl

theorem h_sealC {H : AH} {b i b2 : Nat} {l : List Int} {c : List AV} {k : AH → Prop} (hb : Holds H b c) (hi : c[i]? = some (.slr b2 0 l.length 1)) (h : Holds H b2 (l.map (AV.int .i64))) (hne : b2 ≠ b)
    (hk : k ((H.put b2 .dead).put b (.cells (c.set i (.sl 0 1 (l.map (AV.int .i64))))))) : hP (sealAt (.ptr b 0) i H) k := by
  refine hP_i (v := (H.put b2 .dead).put b (.cells (c.set i (.sl 0 1 (l.map (AV.int .i64)))))) ?_ hk
  simp only [sealAt, sealCell, hb.2, Nat.zero_add, hi, elems_slr h]
  rw [if_pos ⟨hne, by decide, ok_ints l⟩]; rfl
theorem h_sealN {H : AH} {b i : Nat} {c : List AV} {k : AH → Prop} (hb : Holds H b c) (hi : c[i]? = some .nils) (hk : k H) : hP (sealAt (.ptr b 0) i H) k := by
  refine hP_i (v := H) ?_ hk
  simp only [sealAt, sealCell, hb.2, Nat.zero_add, hi]

end Go.SV
