/- Contracts: events that are taken one by one; rows of events that may be. Own text of the prover; nothing is assumed. -/
import Derived.Test.YtkbkhdgjdikjiaaGreatDoorCx
set_option maxRecDepth 100000
namespace Go.SV

variable {T : Nat → Option Entry}

theorem may1_ok (hT : Has T) (m : Nat) (H : AH) (_ : m < 2 ^ 60) : Den.of T 79 [.int .i64 m] H = some (.bool (decide (m = 1)), H) := by
  refine eq_of (w79_ok hT ?_)
  unfold w79
  (repeat (with_reducible first | refine Stp.go ?_ | (refine i_cT ?_ ?_; · first | assumption | decide | exact rfl) | (refine i_cF ?_ ?_; · first | assumption | decide | exact rfl) | (refine i_T ?_ ?_; · first | assumption | exact rfl) | (refine i_F ?_ ?_; · first | assumption | exact rfl) | (refine Sts.go ?_ ?_; · first | omega | decide) | refine Stu.go ?_))
  refine ⟨?_, rfl⟩
  congr 1
  rw [Bool.eq_iff_iff]
  simp
  omega
theorem may2_ok (hT : Has T) (m : Nat) (H : AH) (_ : m < 2 ^ 60) : Den.of T 80 [.int .i64 m] H = some (.bool true, H) := by
  refine eq_of (w80_ok hT ?_)
  unfold w80
  exact ⟨rfl, rfl⟩
theorem may3_ok (hT : Has T) (m : Nat) (H : AH) (_ : m < 2 ^ 60) : Den.of T 81 [.int .i64 m] H = some (.bool (decide (m % 2 = 0)), H) := by
  refine eq_of (w81_ok hT ?_)
  unfold w81
  refine g_rem (by decide) ?_
  refine Stp.go ?_
  refine ⟨?_, rfl⟩
  have hr : ((m : Int)).tmod 2 = ((m % 2 : Nat) : Int) := by rw [Int.tmod_eq_emod_of_nonneg (by omega)]; omega
  congr 1
  rw [hr, Bool.eq_iff_iff]
  simp
  omega

/-- One more of the last one that is open. -/
theorem Nst.up {H0 H : AH} {b bo N : Nat} {l : List (Int × Nat)} {p : Int × Nat} {c : List AV} (h : Nst H0 H (.slr bo 0 (l.length + 1) 2) b N (l ++ [p])) (hc : Holds H bo c) (hn : bo ≠ b)
    (h0 : H0.obs.length ≤ bo) (ha : c.all AV.isCell = true) (hl : 2 * (l.length + 1) ≤ c.length) (hp : ∀ (i : Nat) q, (l ++ [p])[i]? = some q → c[2 * i]? = some (.int .i64 q.1) ∧ c[2 * i + 1]? = some (.int .i64 (q.2 : Nat))) :
    Nst H0 (H.put bo (.cells (c.set (2 * l.length + 1) (.int .i64 ((p.2 + 1 : Nat) : Int))))) (.slr bo 0 (l.length + 1) 2) b (N + 1) (l ++ [(p.1, p.2 + 1)]) := by
  refine ⟨h.hold.put hc.1 hn.symm, h.lb, .inr ⟨bo, _, by simp, ⟨by rw [put_len]; exact hc.1, by rw [put_get hc.1, if_pos rfl]⟩, h0, hn, ?_, by simp; omega, fun i q hi => ?_⟩, by have := h.len; simp at this ⊢; omega, fun q hq => ?_⟩
  · rw [List.all_eq_true] at ha ⊢
    intro x hx
    rcases List.mem_or_eq_of_mem_set hx with h | rfl
    · exact ha x h
    · rfl
  · have hil := getElem?_lt hi
    rw [List.length_append, List.length_singleton] at hil
    by_cases hi2 : i < l.length
    · rw [List.getElem?_append_left hi2] at hi
      have := hp i q (by rw [List.getElem?_append_left hi2]; exact hi)
      rw [List.getElem?_set_ne (by omega), List.getElem?_set_ne (by omega)]
      exact this
    · have : i = l.length := by omega
      subst this
      rw [get_snoc_of] at hi
      simp only [Option.some.injEq] at hi
      subst hi
      rw [List.getElem?_set_ne (by omega), List.getElem?_set_self (by omega)]
      exact ⟨(hp l.length p get_snoc_of).1, rfl⟩
  · have hb := h.bnd
    simp only [List.mem_append, List.mem_singleton] at hq hb
    rcases hq with hq | rfl
    · have := hb q (.inl hq); exact ⟨this.1, by omega⟩
    · have := hb p (.inr rfl); exact ⟨this.1, by simp only; omega⟩

theorem nst_split {l : List (Int × Nat)} : l = [] ∨ ∃ l' p, l = l' ++ [p] := by
  by_cases h : l = []
  · exact .inl h
  · exact .inr ⟨l.dropLast, l.getLast h, (List.dropLast_concat_getLast h).symm⟩

theorem Nst.row' {H0 H : AH} {v : AV} {b N : Nat} {l : List (Int × Nat)} {p : Int × Nat} (h : Nst H0 H v b N (l ++ [p])) : ∃ bo c, v = .slr bo 0 (l.length + 1) 2 ∧ Holds H bo c ∧ H0.obs.length ≤ bo ∧ bo ≠ b ∧ c.all AV.isCell = true ∧ 2 * (l.length + 1) ≤ c.length ∧ ∀ (i : Nat) q, (l ++ [p])[i]? = some q → c[2 * i]? = some (.int .i64 q.1) ∧ c[2 * i + 1]? = some (.int .i64 (q.2 : Nat)) := by
  rcases h.row with ⟨_, e⟩ | ⟨bo, c, h1, h2, h3, h4, h5, h6, h7⟩
  · simp at e
  · rw [List.length_append, List.length_singleton] at h1 h6
    exact ⟨bo, c, h1, h2, h3, h4, h5, h6, h7⟩

theorem eTake_ok (hT : Has T) {H0 H : AH} {v : AV} {b N : Nat} {l : List (Int × Nat)} (h : Nst H0 H v b N l) (g : Grow H0 H) (hN : N + 2 < 2 ^ 40) (e : Ev) :
    ∃ w H', Den.of T 46 [.ptr b 0, encE e] H = some (w, H') ∧ w = .bool (nestS l.reverse e).isSome ∧ Grow H0 H' ∧ ∀ s, nestS l.reverse e = some s → ∃ v', Nst H0 H' v' b (N + 2) s.reverse := by
  refine w46_ok hT ?_
  unfold w46
  have hlen := h.len
  refine s_box rfl rfl ?_
  have ce := Holds.push H (encE e).cells
  replace h := h.grow (.push H (.cells (encE e).cells))
  replace g := g.trans (.push H (.cells (encE e).cells))
  have lbe := (Grow.refl H).len
  generalize H.push (.cells (encE e).cells) = H1 at *
  generalize H.obs.length = be at *
  have key : ∀ {k : AV → AH → Prop}, (∀ H2, Grow H1 H2 → k (.bool (decide (l ≠ []))) H2) → cP (Den.of T) 76 [.ptr b 0] H1 fun x7 H2 => gP (aNilck x7) fun x8 => gP (aFieldAddr 0 x8) fun x9 => gP (aLoad none x9 H2) fun x10 => gP (aBin .geq x10 (.int .i64 0)) fun x11 => k x11 H2 := by
    intro k hk
    rcases nst_split (l := l) with rfl | ⟨l, p, rfl⟩
    · refine c_eq (last_e hT h) ?_
      have c2 := Holds.push H1 [.int .i64 (-1), .int .i64 0]
      (repeat (first | (with_reducible first | refine Stp.go ?_ | (refine i_cT ?_ ?_; · first | assumption | decide | exact rfl) | (refine i_cF ?_ ?_; · first | assumption | decide | exact rfl) | (refine i_T ?_ ?_; · first | assumption | exact rfl) | (refine i_F ?_ ?_; · first | assumption | exact rfl) | (refine Sts.go ?_ ?_; · first | omega | decide) | refine Stu.go ?_) | refine g_h1 c2 rfl ?_))
      exact hk _ (.push _ _)
    · obtain ⟨bo, c, rfl, r2, r3, r4, r5, r6, r7⟩ := h.row'
      rw [List.length_append, List.length_singleton] at hlen
      refine c_eq (last_s hT h.hold (by omega)) ?_
      have hp0 := (h.bnd p (by simp)).1
      refine Stp.go ?_
      refine Stp.go ?_
      refine g_h1 r2 (v := .int .i64 p.1) (by rw [show l.length * 2 + 0 = 2 * l.length by omega]; exact (r7 l.length p get_snoc_of).1) ?_
      refine Stp.go ?_
      have e1 : decide (p.1 ≥ 0) = decide (l ++ [p] ≠ []) := by simp [hp0]
      rw [e1]
      exact hk _ (.refl _)
  refine key fun H2 g2 => ?_
  clear key
  replace h := h.grow g2
  replace ce := ce.grow g2
  replace g := g.trans g2
  clear g2
  (repeat (first | (with_reducible first | refine Stp.go ?_ | (refine i_cT ?_ ?_; · first | assumption | decide | exact rfl) | (refine i_cF ?_ ?_; · first | assumption | decide | exact rfl) | (refine i_T ?_ ?_; · first | assumption | exact rfl) | (refine i_F ?_ ?_; · first | assumption | exact rfl) | (refine Sts.go ?_ ?_; · first | omega | decide) | refine Stu.go ?_) | refine g_h1 ce rfl ?_))
  refine i_c (fun h0 => ?_) (fun h0 => ?_)
  · refine c_i (push_ok hT h g (by omega) 0 (by omega)) ?_
    rintro _ H3 ⟨⟨v', hn⟩, g3⟩
    refine Stp.go ?_
    rcases nst_split (l := l) with rfl | ⟨l, p, rfl⟩
    · have hs : nestS [] e = some [(0, 0)] := by unfold nestS; rw [if_pos h0]
      rw [List.reverse_nil, hs]
      refine ⟨rfl, g3, fun s hs => ?_⟩
      simp only [Option.some.injEq] at hs
      subst hs
      exact ⟨v', hn.more (by omega)⟩
    · have hs : nestS (l ++ [p]).reverse e = none := by unfold nestS; rw [if_pos h0, List.reverse_append]; rfl
      rw [hs]
      exact ⟨by simp, g3, fun s hs => by cases hs⟩
  (repeat (first | (with_reducible first | refine Stp.go ?_ | (refine i_cT ?_ ?_; · first | assumption | decide | exact rfl) | (refine i_cF ?_ ?_; · first | assumption | decide | exact rfl) | (refine i_T ?_ ?_; · first | assumption | exact rfl) | (refine i_F ?_ ?_; · first | assumption | exact rfl) | (refine Sts.go ?_ ?_; · first | omega | decide) | refine Stu.go ?_) | refine g_h1 ce rfl ?_))
  refine i_c (fun h1 => ?_) (fun h1 => ?_)
  · refine c_i (pop_ok hT h g (by omega) 0 (by omega) (by decide) (fun m => decide (m = 1)) (may1_ok hT)) ?_
    rintro _ H3 ⟨rfl, g3, hn⟩
    have hs : nestS l.reverse e = if popR l 0 (fun m => decide (m = 1)) = true then some l.dropLast.reverse else none := by
      unfold nestS
      rw [if_neg h0, if_pos h1]
      rcases nst_split (l := l) with rfl | ⟨l, p, rfl⟩
      · rfl
      · simp [popR]
    rw [hs]
    by_cases hp : popR l 0 (fun m => decide (m = 1)) = true
    · rw [if_pos hp, hp]
      obtain ⟨v', hv⟩ := hn hp
      refine ⟨rfl, g3, fun s e => ?_⟩
      simp only [Option.some.injEq] at e
      subst e
      exact ⟨v', by rw [List.reverse_reverse]; exact hv.more (by omega)⟩
    · rw [if_neg hp, Bool.eq_false_iff.2 hp]
      exact ⟨rfl, g3, fun s e => by cases e⟩
  (repeat (first | (with_reducible first | refine Stp.go ?_ | (refine i_cT ?_ ?_; · first | assumption | decide | exact rfl) | (refine i_cF ?_ ?_; · first | assumption | decide | exact rfl) | (refine i_T ?_ ?_; · first | assumption | exact rfl) | (refine i_F ?_ ?_; · first | assumption | exact rfl) | (refine Sts.go ?_ ?_; · first | omega | decide) | refine Stu.go ?_) | refine g_h1 ce rfl ?_))
  refine i_c (fun h3 => ?_) (fun h3 => ?_)
  · refine c_i (pop_ok hT h g (by omega) 2 (by omega) (by decide) (fun _ => true) (may2_ok hT)) ?_
    rintro _ H3 ⟨rfl, g3, hn⟩
    have hs : nestS l.reverse e = if popR l 2 (fun _ => true) = true then some l.dropLast.reverse else none := by
      unfold nestS
      rw [if_neg h0, if_neg h1, if_pos h3]
      rcases nst_split (l := l) with rfl | ⟨l, p, rfl⟩
      · rfl
      · simp [popR]
    rw [hs]
    by_cases hp : popR l 2 (fun _ => true) = true
    · rw [if_pos hp, hp]
      obtain ⟨v', hv⟩ := hn hp
      refine ⟨rfl, g3, fun s e => ?_⟩
      simp only [Option.some.injEq] at e
      subst e
      exact ⟨v', by rw [List.reverse_reverse]; exact hv.more (by omega)⟩
    · rw [if_neg hp, Bool.eq_false_iff.2 hp]
      exact ⟨rfl, g3, fun s e => by cases e⟩
  (repeat (first | (with_reducible first | refine Stp.go ?_ | (refine i_cT ?_ ?_; · first | assumption | decide | exact rfl) | (refine i_cF ?_ ?_; · first | assumption | decide | exact rfl) | (refine i_T ?_ ?_; · first | assumption | exact rfl) | (refine i_F ?_ ?_; · first | assumption | exact rfl) | (refine Sts.go ?_ ?_; · first | omega | decide) | refine Stu.go ?_) | refine g_h1 ce rfl ?_))
  refine i_c (fun h5 => ?_) (fun h5 => ?_)
  · refine c_i (pop_ok hT h g (by omega) 4 (by omega) (by decide) (fun m => decide (m % 2 = 0)) (may3_ok hT)) ?_
    rintro _ H3 ⟨rfl, g3, hn⟩
    have hs : nestS l.reverse e = if popR l 4 (fun m => decide (m % 2 = 0)) = true then some l.dropLast.reverse else none := by
      unfold nestS
      rw [if_neg h0, if_neg h1, if_neg h3, if_pos h5]
      rcases nst_split (l := l) with rfl | ⟨l, p, rfl⟩
      · rfl
      · simp [popR]
    rw [hs]
    by_cases hp : popR l 4 (fun m => decide (m % 2 = 0)) = true
    · rw [if_pos hp, hp]
      obtain ⟨v', hv⟩ := hn hp
      refine ⟨rfl, g3, fun s e => ?_⟩
      simp only [Option.some.injEq] at e
      subst e
      exact ⟨v', by rw [List.reverse_reverse]; exact hv.more (by omega)⟩
    · rw [if_neg hp, Bool.eq_false_iff.2 hp]
      exact ⟨rfl, g3, fun s e => by cases e⟩
  have hs0 : nestS l.reverse e = match l.reverse with
      | [] => none
      | (k, m) :: r => some (if e.kind = 2 ∨ e.kind = 4 then (e.kind, 0) :: (k, m + 1) :: r else (k, m + 1) :: r) := by
    unfold nestS
    rw [if_neg h0, if_neg h1, if_neg h3, if_neg h5]
    cases l.reverse <;> rfl
  generalize hQ : (fun (w : AV) (H' : AH) => w = AV.bool (nestS l.reverse e).isSome ∧ Grow H0 H' ∧ ∀ s, nestS l.reverse e = some s → ∃ v', Nst H0 H' v' b (N + 2) s.reverse) = Q
  -- what comes behind the one more: a list or a map is opened
  have tail : ∀ {H8 : AH} {l2 : List (Int × Nat)} {v2 : AV}, Nst H0 H8 v2 b (N + 1) l2 → Grow H0 H8 → Holds H8 be (encE e).cells → ∀ (x11 : AV), (∀ H9 v9, Nst H0 H9 v9 b (N + 2) (if e.kind = 2 ∨ e.kind = 4 then l2 ++ [(e.kind, 0)] else l2) → Grow H0 H9 → Q x11 H9) →
      jP 0 (fun H9 => Q x11 H9) fun j1 => jP 1 (fun x47 H10 => iP x47 (gP (aFieldAddr 0 (.ptr be 0)) fun x49 => gP (aLoad none x49 H10) fun x50 => cP (Den.of T) 77 [.ptr b 0, x50] H10 fun _ H11 => j1 H11) (j1 H10)) fun j2 =>
        gP (aFieldAddr 0 (.ptr be 0)) fun x40 => gP (aLoad none x40 H8) fun x41 => gP (aBin .eql x41 (.int .i64 2)) fun x42 => dP x42 false (gP (aFieldAddr 0 (.ptr be 0)) fun x44 => gP (aLoad none x44 H8) fun x45 => gP (aBin .eql x45 (.int .i64 4)) fun x46 => j2 x46 H8) (j2 (.bool true) H8) := by
    intro H8 l2 v2 hn g8 ce8 x11 hR
    refine j0 (fun H9 => ∃ v9, Nst H0 H9 v9 b (N + 2) (if e.kind = 2 ∨ e.kind = 4 then l2 ++ [(e.kind, 0)] else l2) ∧ Grow H0 H9) (fun H9 ⟨v9, a1, a2⟩ => hR H9 v9 a1 a2) fun ja hj1 => ?_
    refine j1 (fun x H9 => x = .bool (decide (e.kind = 2 ∨ e.kind = 4)) ∧ H8 = H9) ?_ fun jb hj2 => ?_
    · rintro _ _ ⟨rfl, rfl⟩
      refine i_c (fun hk => ?_) (fun hk => ?_)
      · refine Stp.go ?_
        refine g_h1 ce8 rfl ?_
        refine c_i (push_ok hT hn g8 (by omega) e.kind (by omega)) ?_
        rintro _ H11 ⟨⟨v', hn'⟩, g11⟩
        exact hj1 _ ⟨v', by rw [if_pos hk]; exact hn', g11⟩
      · exact hj1 _ ⟨v2, by rw [if_neg hk]; exact hn.more (by omega), g8⟩
    · refine Stp.go ?_
      refine g_h1 ce8 rfl ?_
      refine Stp.go ?_
      refine Stp.go ?_
      refine i_c (fun hk => ?_) (fun hk => ?_)
      · exact hj2 _ _ ⟨by rw [decide_eq_true (.inl hk)], rfl⟩
      · refine Stp.go ?_
        refine g_h1 ce8 rfl ?_
        refine Stp.go ?_
        refine hj2 _ _ ⟨?_, rfl⟩
        congr 1
        rw [Bool.eq_iff_iff]
        simp [hk]
  rcases nst_split (l := l) with rfl | ⟨l, p, rfl⟩
  · refine c_eq (last_e hT h) ?_
    have c2 := Holds.push H2 [.int .i64 (-1), .int .i64 0]
    have h2 := h.grow (.push H2 (.cells [.int .i64 (-1), .int .i64 0]))
    have g2 := g.trans (.push H2 (.cells [.int .i64 (-1), .int .i64 0]))
    have ce2 := ce.grow (.push H2 (.cells [.int .i64 (-1), .int .i64 0]))
    have lg := g.len
    have lb := ce.1
    have lh := h.hold.1
    refine Stp.go ?_
    refine Stp.go ?_
    refine g_h1 c2 rfl ?_
    refine Stu.go ?_
    refine Stp.go ?_
    refine Stp.go ?_
    refine h_one c2 (by decide) rfl fun c3 => ?_
    refine tail (l2 := []) (v2 := v) ⟨h2.hold.put c2.1 (by omega), h2.lb, ?_, by simp, by simp⟩ (g2.put lg) (ce2.put c2.1 (by omega)) _ fun H9 v9 _ g9 => ?_
    · rcases h2.row with r | ⟨bo, c, r1, r2, r3, r4, r5⟩
      · exact .inl r
      · exact .inr ⟨bo, c, r1, r2.put c2.1 (by rcases h.row with ⟨e1, _⟩ | ⟨bo', c', q1, q2, _⟩; (rw [e1] at r1; cases r1); (rw [q1] at r1; cases r1; have := q2.1; omega)), r3, r4, r5⟩
    · subst hQ
      rw [hs0]
      exact ⟨rfl, g9, fun s hs => by cases hs⟩
  · obtain ⟨bo, c, rfl, r2, r3, r4, r5, r6, r7⟩ := h.row'
    rw [List.length_append, List.length_singleton] at hlen
    have hpN := (h.bnd p (by simp)).2
    refine c_eq (last_s hT h.hold (by omega)) ?_
    refine Stp.go ?_
    refine Stp.go ?_
    refine g_h1 r2 (v := .int .i64 (p.2 : Nat)) (by rw [show l.length * 2 + 1 = 2 * l.length + 1 by omega]; exact (r7 l.length p get_snoc_of).2) ?_
    refine g_add64 (by omega) ?_
    refine Stp.go ?_
    refine Stp.go ?_
    have e1 : l.length * 2 + 1 = 2 * l.length + 1 := by omega
    rw [e1]
    refine h_one r2 (by omega) rfl fun c3 => ?_
    have hu := h.up r2 r4 r3 r5 r6 r7
    have e2 : ((p.2 : Nat) : Int) + 1 = ((p.2 + 1 : Nat) : Int) := by omega
    have hne : be ≠ bo := by
      rintro rfl
      have h1 := ce.2
      rw [r2.2] at h1
      simp only [AObj.cells.injEq] at h1
      have := (r7 l.length p get_snoc_of).2
      have h5 : 2 * (l.length + 1) ≤ 5 := by rw [h1] at r6; exact r6
      have hl1 : l.length ≤ 1 := by omega
      rw [h1] at this
      rcases (show l.length = 0 ∨ l.length = 1 by omega) with h | h
      · rw [h] at this; cases this
      · rw [h] at this; cases this
    rw [e2]
    refine tail hu (g.put r3) (ce.put r2.1 hne) _ fun H9 v9 hn g9 => ?_
    subst hQ
    rw [hs0]
    have hr : (l ++ [p]).reverse = p :: l.reverse := by simp
    rw [hr]
    refine ⟨by simp, g9, fun s hs => ?_⟩
    simp only [Option.some.injEq] at hs
    subst hs
    refine ⟨v9, ?_⟩
    split
    · rename_i hk; rw [if_pos hk] at hn; simpa using hn
    · rename_i hk; rw [if_neg hk] at hn; simpa using hn

end Go.SV
