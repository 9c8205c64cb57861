/- Contracts: the nest of what is open, rows of events that may be. Own text of the prover; nothing is assumed. -/
import Derived.Test.YtkbkhdgjdikjiaaGreatDoorCw
set_option maxRecDepth 100000
namespace Go.SV

variable {T : Nat → Option Entry}

/-- What is open, the last one last. -/
structure Nst (H0 H : AH) (v : AV) (b N : Nat) (l : List (Int × Nat)) : Prop where
  hold : Holds H b [v]
  lb : H0.obs.length ≤ b
  row : (v = .nils ∧ l = []) ∨ ∃ bo c, v = .slr bo 0 l.length 2 ∧ Holds H bo c ∧ H0.obs.length ≤ bo ∧ bo ≠ b ∧ c.all AV.isCell = true ∧ 2 * l.length ≤ c.length ∧ ∀ (i : Nat) p, l[i]? = some p → c[2 * i]? = some (.int .i64 p.1) ∧ c[2 * i + 1]? = some (.int .i64 (p.2 : Nat))
  len : l.length ≤ N
  bnd : ∀ p ∈ l, 0 ≤ p.1 ∧ p.2 ≤ N

theorem Nst.grow {H0 H H' : AH} {v : AV} {b N : Nat} {l : List (Int × Nat)} (h : Nst H0 H v b N l) (g : Grow H H') : Nst H0 H' v b N l := by
  refine ⟨h.hold.grow g, h.lb, ?_, h.len, h.bnd⟩
  rcases h.row with r | ⟨bo, c, r1, r2, r3⟩
  · exact .inl r
  · exact .inr ⟨bo, c, r1, r2.grow g, r3⟩
theorem Nst.more {H0 H : AH} {v : AV} {b N M : Nat} {l : List (Int × Nat)} (h : Nst H0 H v b N l) (hm : N ≤ M) : Nst H0 H v b M l :=
  ⟨h.hold, h.lb, h.row, Nat.le_trans h.len hm, fun p hp => ⟨(h.bnd p hp).1, Nat.le_trans (h.bnd p hp).2 hm⟩⟩

/-- The last one, where nothing is open. -/
theorem last_e (hT : Has T) {H0 H : AH} {v : AV} {b N : Nat} (h : Nst H0 H v b N []) : Den.of T 76 [.ptr b 0] H = some (.ptr H.obs.length 0, H.push (.cells [.int .i64 (-1), .int .i64 0])) := by
  have key : ∃ w H', Den.of T 76 [.ptr b 0] H = some (w, H') ∧ (w = .ptr H.obs.length 0 ∧ H' = H.push (.cells [.int .i64 (-1), .int .i64 0])) := by
    refine w76_ok hT ?_
    unfold w76
    have hlen : ∀ {k : AV → Prop}, k (.int .i64 0) → gP (aLen .row v H) k := by
      intro k hk
      rcases h.row with ⟨rfl, _⟩ | ⟨bo, c, rfl, _⟩
      · exact g_lenN hk
      · exact g_lenR hk
    (repeat (first | (with_reducible first | refine Stp.go ?_ | (refine i_cT ?_ ?_; · first | assumption | decide | exact rfl) | (refine i_cF ?_ ?_; · first | assumption | decide | exact rfl) | (refine i_T ?_ ?_; · first | assumption | exact rfl) | (refine i_F ?_ ?_; · first | assumption | exact rfl) | (refine Sts.go ?_ ?_; · first | omega | decide) | refine Stu.go ?_) | refine g_h1 h.hold rfl ?_ | refine hlen ?_))
    refine gP_i (v := .agg [.int .i64 (-1), .int .i64 0]) rfl ?_
    refine s_box rfl rfl ?_
    exact ⟨rfl, rfl⟩
  obtain ⟨w, H', h1, rfl, rfl⟩ := key
  exact h1

theorem last_s (hT : Has T) {H : AH} {b bo n : Nat} (h : Holds H b [.slr bo 0 (n + 1) 2]) (hn : n < 2 ^ 60) : Den.of T 76 [.ptr b 0] H = some (.ptr bo (n * 2), H) := by
  refine eq_of (w76_ok hT ?_)
  unfold w76
  (repeat (first | (with_reducible first | refine Stp.go ?_ | (refine i_cT ?_ ?_; · first | assumption | decide | exact rfl) | (refine i_cF ?_ ?_; · first | assumption | decide | exact rfl) | (refine i_T ?_ ?_; · first | assumption | exact rfl) | (refine i_F ?_ ?_; · first | assumption | exact rfl) | (refine Sts.go ?_ ?_; · first | omega | decide) | refine Stu.go ?_) | refine g_h1 h rfl ?_ | refine g_lenR ?_))
  refine i_cF (by omega) ?_
  (repeat (first | (with_reducible first | refine Stp.go ?_ | (refine i_cT ?_ ?_; · first | assumption | decide | exact rfl) | (refine i_cF ?_ ?_; · first | assumption | decide | exact rfl) | (refine i_T ?_ ?_; · first | assumption | exact rfl) | (refine i_F ?_ ?_; · first | assumption | exact rfl) | (refine Sts.go ?_ ?_; · first | omega | decide) | refine Stu.go ?_) | refine g_h1 h rfl ?_ | refine g_lenR ?_))
  have e : ((n + 1 : Nat) : Int) - 1 = (n : Int) := by omega
  rw [e]
  refine g_idxR ⟨by omega, by omega⟩ ?_
  exact ⟨by rw [Int.toNat_natCast, Nat.zero_add], rfl⟩

theorem get_snoc_of {α : Type} {l : List α} {x : α} : (l ++ [x])[l.length]? = some x := by simp

theorem cells_take {c : List AV} {n : Nat} (h : c.all AV.isCell = true) : ((c.drop 0).take n).all AV.isCell = true := by
  rw [List.all_eq_true] at h ⊢
  exact fun x hx => h x (List.mem_of_mem_drop (List.mem_of_mem_take hx))

/-- Appending to a row that is written by place. -/
theorem s_appR {s bytes : Nat} {bo n t0 : Nat} {c ys : List AV} {H : AH} {k : AV → AH → Prop} (hc : Holds H bo c) (hl : n * s ≤ c.length) (hall : c.all AV.isCell = true) (hne : ys ≠ []) (hok : elemsOk s ys = true) (hb : (n + ys.length) * bytes ≤ 2 ^ 47)
    (h : k (.slr H.obs.length 0 (n + ys.length) s) ((H.put bo .dead).push (.cells (c.take (n * s) ++ ys.flatMap AV.cells)))) : sP (aAppend .ref s bytes (.slr bo 0 n s) (.sl t0 s ys) H) k := by
  have he : elems s (.sl t0 s ys) H = some ys := by simp [elems]
  have hemp : ys.isEmpty = false := by cases ys with
    | nil => exact absurd rfl hne
    | cons => rfl
  refine sP_i ?_ h
  simp only [aAppend, he, hemp, hok, Bool.not_true, Bool.false_eq_true, if_false, hc.2]
  rw [if_pos ⟨trivial, by omega, hb, cells_take hall⟩]
  rfl
theorem s_appN {s bytes t0 : Nat} {ys : List AV} {H : AH} {k : AV → AH → Prop} (hne : ys ≠ []) (hok : elemsOk s ys = true) (hb : ys.length * bytes ≤ 2 ^ 47)
    (h : k (.slr H.obs.length 0 ys.length s) (H.push (.cells (ys.flatMap AV.cells)))) : sP (aAppend .ref s bytes .nils (.sl t0 s ys) H) k := by
  have he : elems s (.sl t0 s ys) H = some ys := by simp [elems]
  have hemp : ys.isEmpty = false := by cases ys with
    | nil => exact absurd rfl hne
    | cons => rfl
  refine sP_i ?_ h
  simp only [aAppend, he, hemp, hok, Bool.not_true, Bool.false_eq_true, if_false]
  rw [if_pos hb]
  rfl

theorem push_ok (hT : Has T) {H0 H : AH} {v : AV} {b N : Nat} {l : List (Int × Nat)} (h : Nst H0 H v b N l) (g : Grow H0 H) (hN : N < 2 ^ 40) (k : Int) (hk : 0 ≤ k) :
    ∃ w H', Den.of T 77 [.ptr b 0, .int .i64 k] H = some (w, H') ∧ (∃ v', Nst H0 H' v' b (N + 1) (l ++ [(k, 0)])) ∧ Grow H0 H' := by
  refine w77_ok hT ?_
  unfold w77
  have hlen := h.len
  (repeat (first | (with_reducible first | refine Stp.go ?_ | (refine i_cT ?_ ?_; · first | assumption | decide | exact rfl) | (refine i_cF ?_ ?_; · first | assumption | decide | exact rfl) | (refine i_T ?_ ?_; · first | assumption | exact rfl) | (refine i_F ?_ ?_; · first | assumption | exact rfl) | (refine Sts.go ?_ ?_; · first | omega | decide) | refine Stu.go ?_) | refine g_h1 h.hold rfl ?_))
  refine gP_i (v := .agg [.int .i64 k, .int .i64 0]) rfl ?_
  refine s_lit rfl ?_
  have bnd : ∀ p ∈ l ++ [(k, 0)], 0 ≤ p.1 ∧ p.2 ≤ N + 1 := by
    intro p hp
    simp only [List.mem_append, List.mem_singleton] at hp
    rcases hp with hp | rfl
    · exact ⟨(h.bnd p hp).1, Nat.le_succ_of_le (h.bnd p hp).2⟩
    · exact ⟨hk, by omega⟩
  have hb1 := h.hold.1
  rcases h.row with ⟨rfl, rfl⟩ | ⟨bo, c, rfl, r2, r3, r4, r5, r6, r7⟩
  · refine s_appN (by simp) rfl (by simp) ?_
    have c1 := h.hold.pushed (.cells [.int .i64 k, .int .i64 0])
    have c2 := Holds.push H [.int .i64 k, .int .i64 0]
    have lH := g.len
    refine Stp.go ?_
    refine Stp.go ?_
    refine h_one c1 (by simp) rfl fun cc => ?_
    refine ⟨⟨_, cc, h.lb, .inr ⟨H.obs.length, [.int .i64 k, .int .i64 0], rfl, c2.put c1.1 (by omega), lH, by omega, rfl, by simp, fun i p hi => ?_⟩, by simp, bnd⟩, (g.pushed).put h.lb⟩
    have hi0 : i = 0 := by
      have := getElem?_lt hi
      simp at this; exact this
    subst hi0
    simp at hi
    subst hi
    exact ⟨rfl, rfl⟩
  · refine s_appR r2 (by omega) r5 (by simp) rfl (by simp; omega) ?_
    have c1 : Holds ((H.put bo .dead).push (.cells (c.take (l.length * 2) ++ [AV.agg [.int .i64 k, .int .i64 0]].flatMap AV.cells))) b [.slr bo 0 l.length 2] := (h.hold.put r2.1 r4.symm).pushed _
    have c2 := Holds.push (H.put bo .dead) (c.take (l.length * 2) ++ [AV.agg [.int .i64 k, .int .i64 0]].flatMap AV.cells)
    have lH := g.len
    have lp : (H.put bo .dead).obs.length = H.obs.length := put_len _ _ _
    refine Stp.go ?_
    refine Stp.go ?_
    refine h_one c1 (by simp) rfl fun cc => ?_
    rw [lp] at c2
    refine ⟨⟨_, cc, h.lb, .inr ⟨H.obs.length, _, ?_, c2.put c1.1 (by omega), lH, by omega, ?_, ?_, fun i p hi => ?_⟩, by simp; omega, bnd⟩, ((g.put r3).pushed).put h.lb⟩
    · simp
    · rw [List.all_append, Bool.and_eq_true]
      exact ⟨by simpa using cells_take (n := l.length * 2) r5, rfl⟩
    · rw [List.length_append, List.length_append, List.length_take]
      show 2 * (l.length + 1) ≤ min (l.length * 2) c.length + 2
      omega
    · have hl2 : (c.take (l.length * 2)).length = l.length * 2 := by simp; omega
      by_cases hil : i < l.length
      · rw [List.getElem?_append_left hil] at hi
        obtain ⟨a1, a2⟩ := r7 i p hi
        rw [List.getElem?_append_left (by omega), List.getElem?_append_left (by omega), List.getElem?_take, List.getElem?_take, if_pos (by omega), if_pos (by omega)]
        exact ⟨a1, a2⟩
      · have hil2 := getElem?_lt hi
        rw [List.length_append, List.length_singleton] at hil2
        have : i = l.length := by omega
        subst this
        rw [get_snoc_of] at hi
        simp only [Option.some.injEq] at hi
        subst hi
        rw [List.getElem?_append_right (by omega), List.getElem?_append_right (by omega), hl2, show 2 * l.length - l.length * 2 = 0 by omega, show 2 * l.length + 1 - l.length * 2 = 1 by omega]
        exact ⟨rfl, rfl⟩

/-- The last one is closed, if it is of a kind, and has as many as it may. -/
def popR (l : List (Int × Nat)) (k : Int) (may : Nat → Bool) : Bool := match l.getLast? with
  | none => false
  | some p => decide (p.1 = k) && may p.2

theorem pop_ok (hT : Has T) {H0 H : AH} {v : AV} {b N : Nat} {l : List (Int × Nat)} (h : Nst H0 H v b N l) (g : Grow H0 H) (hN : N < 2 ^ 40) (k : Int) (hk : 0 ≤ k) {F : Nat} (hF : F < 100000) (may : Nat → Bool) (hp : ∀ (m : Nat) H, m < 2 ^ 60 → Den.of T F [.int .i64 m] H = some (.bool (may m), H)) :
    ∃ w H', Den.of T 78 [.ptr b 0, .int .i64 k, .fn (.func F) [] []] H = some (w, H') ∧ w = .bool (popR l k may) ∧ Grow H0 H' ∧ (popR l k may = true → ∃ v', Nst H0 H' v' b N l.dropLast) := by
  refine w78_ok hT ?_
  unfold w78
  have hlen := h.len
  have hb1 := h.hold.1
  cases hl : l.getLast? with
  | none =>
    have hl0 : l = [] := by simpa using hl
    subst hl0
    refine c_eq (last_e hT h) ?_
    have hr : popR [] k may = false := rfl
    rw [hr]
    refine j1 (fun a H' => a = .bool true ∧ Grow H0 H') ?_ ?_
    · rintro _ H2 ⟨rfl, g2⟩
      refine i_T rfl ?_
      exact ⟨rfl, g2, fun e => by cases e⟩
    · intro j hj
      have c2 := Holds.push H [.int .i64 (-1), .int .i64 0]
      (repeat (first | (with_reducible first | refine Stp.go ?_ | (refine i_cT ?_ ?_; · first | assumption | decide | exact rfl) | (refine i_cF ?_ ?_; · first | assumption | decide | exact rfl) | (refine i_T ?_ ?_; · first | assumption | exact rfl) | (refine i_F ?_ ?_; · first | assumption | exact rfl) | (refine Sts.go ?_ ?_; · first | omega | decide) | refine Stu.go ?_) | refine g_h1 c2 rfl ?_))
      refine i_cF (by omega) ?_
      exact hj _ _ ⟨rfl, g.pushed⟩
  | some p =>
    obtain ⟨l, rfl⟩ : ∃ l', l = l' ++ [p] := by
      have hne : l ≠ [] := by rintro rfl; simp at hl
      refine ⟨l.dropLast, ?_⟩
      have h1 := List.dropLast_concat_getLast hne
      rw [List.getLast?_eq_some_getLast hne] at hl
      simp only [Option.some.injEq] at hl
      rw [hl] at h1; exact h1.symm
    have hr : popR (l ++ [p]) k may = (decide (p.1 = k) && may p.2) := by simp [popR]
    rw [hr]
    rcases h.row with ⟨_, e⟩ | ⟨bo, c, rfl, r2, r3, r4, r5, r6, r7⟩
    · simp at e
    have hh := h.hold
    rw [List.length_append, List.length_singleton] at hh hlen r6
    have hpN : p.2 ≤ N := (h.bnd p (by simp)).2
    obtain ⟨a1, a2⟩ := r7 l.length p get_snoc_of
    refine c_eq (last_s hT hh (by omega)) ?_
    have cb : Holds H bo c := r2
    refine j1 (fun a H' => a = .bool (!(decide (p.1 = k) && may p.2)) ∧ H = H') ?_ ?_
    · rintro _ _ ⟨rfl, rfl⟩
      refine i_i (fun e => ?_) (fun e => ?_)
      · simp only [Bool.not_eq_true'] at e
        rw [e]
        exact ⟨rfl, g, fun e => by cases e⟩
      · simp only [Bool.not_eq_false'] at e
        rw [e]
        (repeat (first | (with_reducible first | refine Stp.go ?_ | (refine i_cT ?_ ?_; · first | assumption | decide | exact rfl) | (refine i_cF ?_ ?_; · first | assumption | decide | exact rfl) | (refine i_T ?_ ?_; · first | assumption | exact rfl) | (refine i_F ?_ ?_; · first | assumption | exact rfl) | (refine Sts.go ?_ ?_; · first | omega | decide) | refine Stu.go ?_) | refine g_h1 hh rfl ?_ | refine g_lenR ?_))
        have e1 : ((l.length + 1 : Nat) : Int) - 1 = (l.length : Int) := by omega
        rw [e1]
        refine gP_i (v := .slr bo 0 l.length 2) ?_ ?_
        · simp only [aSlc, aSlice, if_true, Nat.zero_mul, Nat.add_zero, Option.map_some]
          rw [if_pos ⟨by omega, by omega⟩]
          simp
        refine Stp.go ?_
        refine Stp.go ?_
        refine h_one hh (by simp) rfl fun cc => ?_
        refine ⟨rfl, g.put h.lb, fun _ => ⟨.slr bo 0 l.length 2, cc, h.lb, .inr ⟨bo, c, by simp, cb.put hb1 r4, r3, r4, r5, by simp; omega, fun i q hi => ?_⟩, by simp; omega, fun q hq => h.bnd q (by simp at hq; simp [hq])⟩⟩
        rw [List.dropLast_concat] at hi
        exact r7 i q (by rw [List.getElem?_append_left (getElem?_lt hi)]; exact hi)
    · intro j hj
      refine Stp.go ?_
      refine Stp.go ?_
      refine g_h1 cb (v := .int .i64 p.1) (by rw [show l.length * 2 + 0 = 2 * l.length by omega]; exact a1) ?_
      refine Stp.go ?_
      refine Stp.go ?_
      refine Stp.go ?_
      refine i_c (fun e => ?_) (fun e => ?_)
      · refine Stp.go ?_
        refine Stp.go ?_
        refine g_h1 cb (v := .int .i64 (p.2 : Nat)) (by rw [show l.length * 2 + 1 = 2 * l.length + 1 by omega]; exact a2) ?_
        refine v_0 hF ?_
        refine c_eq (hp p.2 H (by omega)) ?_
        refine Stp.go ?_
        exact hj _ _ ⟨by rw [decide_eq_true e, Bool.true_and], rfl⟩
      · exact hj _ _ ⟨by rw [decide_eq_false e, Bool.false_and]; rfl, rfl⟩

end Go.SV
