/- Plain laws of normal forms: a graph in its normal form is met in its own order. Own text of the prover; nothing is assumed. -/
import Derived.Test.YtkbkhdgjdikjiaaGreatDoorCl
set_option maxRecDepth 100000
namespace Go.SV

/-! ### What is met stays met -/
theorem fold_pre {g : List Nd} {n : Nat} (ih : ∀ (s : List Nat × List Int) (k : Int), s.2 <+: (meetF g n s k).2) : ∀ (ks : List Int) (s : List Nat × List Int), s.2 <+: (ks.foldl (fun s k => meetF g n s k) s).2 := by
  intro ks
  induction ks with
  | nil => intro s; exact List.prefix_refl _
  | cons k ks ihk => intro s; exact (ih s k).trans (ihk _)
theorem meet_pre (g : List Nd) : ∀ (n : Nat) (s : List Nat × List Int) (k : Int), s.2 <+: (meetF g n s k).2 := by
  intro n
  induction n with
  | zero => intro s k; exact List.prefix_refl _
  | succ n ih =>
    intro s k
    simp only [meetF]
    split
    · exact List.prefix_refl _
    · exact List.IsPrefix.trans (List.prefix_append s.2 [k]) (fold_pre ih _ (s.1.set k.toNat ((s.1[k.toNat]?).getD 0 + 1), s.2 ++ [k]))

/-- Counts and the order tell the same. -/
structure Cons (g : List Nd) (s : List Nat × List Int) : Prop where
  len : s.1.length = g.length
  has : ∀ x ∈ s.2, hasG g x = true
  nodup : s.2.Nodup
  iff : ∀ x, hasG g x = true → (0 < (s.1[x.toNat]?).getD 0 ↔ x ∈ s.2)

theorem cons_fold {g : List Nd} {n : Nat} (ih : ∀ (s : List Nat × List Int) (k : Int), hasG g k = true → Cons g s → Cons g (meetF g n s k)) : ∀ (ks : List Int) (s : List Nat × List Int), (∀ k ∈ ks, hasG g k = true) → Cons g s → Cons g (ks.foldl (fun s k => meetF g n s k) s) := by
  intro ks
  induction ks with
  | nil => intro s _ h; exact h
  | cons k ks ihk => intro s h1 h; exact ihk _ (fun k hk => h1 k (by simp [hk])) (ih s k (h1 k (by simp)) h)

theorem cons_new {g : List Nd} {s : List Nat × List Int} {k : Int} (h : Cons g s) (hk : hasG g k = true) (h0 : ¬ 0 < (s.1[k.toNat]?).getD 0) : Cons g (s.1.set k.toNat ((s.1[k.toNat]?).getD 0 + 1), s.2 ++ [k]) := by
  have hnk : k ∉ s.2 := fun hm => h0 ((h.iff k hk).2 hm)
  have hk' := hk
  simp only [hasG, decide_eq_true_eq] at hk'
  refine ⟨by simpa using h.len, fun x hx => ?_, ?_, fun x hx => ?_⟩
  · simp only [List.mem_append, List.mem_singleton] at hx
    rcases hx with hx | rfl
    · exact h.has x hx
    · exact hk
  · rw [List.nodup_append]
    exact ⟨h.nodup, by simp, fun a ha b hb => by simp only [List.mem_singleton] at hb; subst hb; exact fun e => hnk (e ▸ ha)⟩
  · simp only [List.mem_append, List.mem_singleton]
    have hx' := hx
    simp only [hasG, decide_eq_true_eq] at hx'
    by_cases e : x = k
    · subst e
      simp only [or_true, iff_true]
      rw [List.getElem?_set_self (by rw [h.len]; omega)]
      simp
    · have : k.toNat ≠ x.toNat := by omega
      rw [List.getElem?_set_ne this]
      simp [h.iff x hx, e]

theorem cons_meet {g : List Nd} (hk : ∀ n ∈ g, ∀ k ∈ n.kids, hasG g k = true) : ∀ (n : Nat) (s : List Nat × List Int) (k : Int), hasG g k = true → Cons g s → Cons g (meetF g n s k) := by
  intro n
  induction n with
  | zero => intro s k _ h; exact h
  | succ n ih =>
    intro s k hkk h
    have hk' := hkk
    simp only [hasG, decide_eq_true_eq] at hk'
    simp only [meetF]
    split
    · rename_i hc
      refine ⟨by simpa using h.len, h.has, h.nodup, fun x hx => ?_⟩
      rw [← h.iff x hx]
      by_cases e : k.toNat = x.toNat
      · rw [← e, List.getElem?_set_self (by rw [h.len]; omega)]
        simp [hc]
      · rw [List.getElem?_set_ne e]
    · rename_i hc
      have hlt : k.toNat < g.length := by omega
      simp only [List.getElem?_eq_getElem hlt, Option.map_some, Option.getD_some]
      exact cons_fold ih _ _ (hk _ (List.getElem_mem hlt)) (cons_new h hkk hc)

/-! ### Numbers are places in the order -/
theorem setAll_at : ∀ (o : List Int) (i0 : Nat) (l : List Int), o.Nodup → (∀ x ∈ o, 0 ≤ x ∧ x.toNat < l.length) →
    (∀ (j : Nat) (x : Int), o[j]? = some x → (setAll o i0 l)[x.toNat]? = some ((i0 + j : Nat) : Int)) ∧ (∀ (x : Nat), (∀ y ∈ o, y.toNat ≠ x) → (setAll o i0 l)[x]? = l[x]?) := by
  intro o
  induction o with
  | nil => intro i0 l _ _; exact ⟨fun j x h => by simp at h, fun x _ => rfl⟩
  | cons a o ih =>
    intro i0 l hn hr
    rw [List.nodup_cons] at hn
    obtain ⟨h1, h2⟩ := ih (i0 + 1) (l.set a.toNat i0) hn.2 (fun x hx => by simpa using hr x (by simp [hx]))
    have hne : ∀ y ∈ o, y.toNat ≠ a.toNat := fun y hy e => by
      have hy1 := hr y (by simp [hy])
      have ha1 := hr a (by simp)
      have : y = a := by omega
      exact hn.1 (this ▸ hy)
    refine ⟨fun j x hj => ?_, fun x hx => ?_⟩
    · cases j with
      | zero =>
        simp only [List.getElem?_cons_zero, Option.some.injEq] at hj
        subst hj
        rw [setAll, h2 _ hne, List.getElem?_set_self (hr a (by simp)).2]
        simp
      | succ j =>
        rw [setAll, h1 j x (by simpa using hj)]
        congr 2; omega
    · rw [setAll, h2 x (fun y hy => hx y (by simp [hy])), List.getElem?_set_ne (hx a (by simp))]

theorem cons_start (g : List Nd) : Cons g (List.replicate g.length 0, []) :=
  ⟨by simp, by simp, by simp, fun x hx => by
    simp only [List.not_mem_nil, iff_false]
    simp only [hasG, decide_eq_true_eq] at hx
    rw [List.getElem?_replicate, if_pos (by omega)]
    simp⟩

theorem order_cons {g : List Nd} (hr : rightG g = true) : Cons g (meetF g (g.length + 1) (List.replicate g.length 0, []) 0) := by
  obtain ⟨hl, hk⟩ := rightG_kids hr
  exact cons_meet hk _ _ _ (by simp [hasG]; omega) (cons_start g)

theorem number_at {g : List Nd} (hr : rightG g = true) {i : Nat} {x : Int} (hi : (order g)[i]? = some x) : (numbers g)[x.toNat]? = some (i : Int) := by
  have hc := order_cons hr
  have ho : order g = (meetF g (g.length + 1) (List.replicate g.length 0, []) 0).2 := by rw [order, if_pos hr]
  have := (setAll_at (order g) 0 (List.replicate g.length 0) (by rw [ho]; exact hc.nodup) (fun x hx => by
    have := order_has g x hx
    simp only [hasG, decide_eq_true_eq] at this
    simp; omega)).1 i x hi
  rw [numbers, this]; simp

/-! ### The walk over a normal form -/
def metF (g : List Nd) : Nat → Nat → Int → Option Nat
  | 0, _, _ => none
  | n + 1, met, a => if a < met then some met else if a = met then (((g[met]?).map (·.kids)).getD []).foldlM (fun m k => metF g n m k) (met + 1) else none

theorem normal_at {g : List Nd} {i : Nat} {x : Int} (hi : (order g)[i]? = some x) : (normal g)[i]? = some (renum (numbers g) ((g[x.toNat]?).getD default)) := by
  simp [normal, hi]

theorem sim {g : List Nd} (hr : rightG g = true) : ∀ (n m : Nat) (s : List Nat × List Int) (k : Int), hasG g k = true → Cons g s → zeros s.1 < m → (order g).length - s.2.length < n → (meetF g m s k).2 <+: order g →
    metF (normal g) n s.2.length (((numbers g)[k.toNat]?).getD 0) = some (meetF g m s k).2.length := by
  obtain ⟨_, hk⟩ := rightG_kids hr
  intro n
  induction n with
  | zero => intro m s k _ _ _ h; omega
  | succ n ih =>
    intro m s k hkk hc hz hn hp
    have hk' := hkk
    simp only [hasG, decide_eq_true_eq] at hk'
    have hlt : k.toNat < g.length := by omega
    obtain ⟨m, rfl⟩ : ∃ j, m = j + 1 := ⟨m - 1, by omega⟩
    have hpre := meet_pre g (m + 1) s k
    by_cases h0 : 0 < (s.1[k.toNat]?).getD 0
    · have hm := (hc.iff k hkk).1 h0
      obtain ⟨i, hi, he⟩ := List.getElem_of_mem hm
      have hio : (order g)[i]? = some k := by
        obtain ⟨t, ht⟩ := hpre.trans hp
        rw [← ht, List.getElem?_append_left hi, List.getElem?_eq_getElem hi, he]
      rw [number_at hr hio]
      simp only [Option.getD_some, metF, meetF, if_pos h0]
      rw [if_pos (by omega)]
    · have hnew : meetF g (m + 1) s k = g[k.toNat].kids.foldl (fun s k => meetF g m s k) (s.1.set k.toNat ((s.1[k.toNat]?).getD 0 + 1), s.2 ++ [k]) := by
        simp only [meetF, if_neg h0, List.getElem?_eq_getElem hlt, Option.map_some, Option.getD_some]
      have hc1 := cons_new hc hkk h0
      have hz1 : zeros (s.1.set k.toNat ((s.1[k.toNat]?).getD 0 + 1)) + 1 = zeros s.1 := by
        have hl : k.toNat < s.1.length := by rw [hc.len]; exact hlt
        have := zeros_set s.1 k.toNat hl
        rw [List.getElem?_eq_getElem hl, Option.getD_some] at h0 ⊢
        rw [if_pos (by omega)] at this
        exact this
      generalize hs1 : (s.1.set k.toNat ((s.1[k.toNat]?).getD 0 + 1), s.2 ++ [k]) = s1 at *
      have e2 : s1.2 = s.2 ++ [k] := by rw [← hs1]
      have e1 : s1.1 = s.1.set k.toNat ((s.1[k.toNat]?).getD 0 + 1) := by rw [← hs1]
      rw [← e1] at hz1
      rw [hnew] at hp ⊢
      have hpre1 := fold_pre (meet_pre g m) g[k.toNat].kids s1
      have hio : (order g)[s.2.length]? = some k := by
        obtain ⟨t, ht⟩ := hpre1.trans hp
        rw [← ht, e2, List.append_assoc, List.getElem?_append_right (Nat.le_refl _)]
        simp
      have hlo := order_len g
      have hso : s.2.length < (order g).length := by
        rcases Nat.lt_or_ge s.2.length (order g).length with h | h
        · exact h
        · rw [List.getElem?_eq_none h] at hio; simp at hio
      rw [number_at hr hio]
      rw [Option.getD_some, metF, if_neg (by omega), if_pos rfl, normal_at hio, List.getElem?_eq_getElem hlt]
      simp only [Option.map_some, Option.getD_some, renum]
      have e3 : s.2.length + 1 = s1.2.length := by rw [e2]; simp
      rw [e3]
      -- the kids
      have fold : ∀ (ks : List Int) (s : List Nat × List Int), (∀ k ∈ ks, hasG g k = true) → Cons g s → zeros s.1 < m → (order g).length - s.2.length < n → (ks.foldl (fun s k => meetF g m s k) s).2 <+: order g →
          (ks.map fun k => ((numbers g)[k.toNat]?).getD 0).foldlM (fun a k => metF (normal g) n a k) s.2.length = some (ks.foldl (fun s k => meetF g m s k) s).2.length := by
        intro ks
        induction ks with
        | nil => intro s _ _ _ _ _; rfl
        | cons c ks ihk =>
          intro s q1 q2 q3 q4 q5
          have hcc := q1 c (by simp)
          rw [List.foldl_cons] at q5
          have hp1 := (fold_pre (meet_pre g m) ks (meetF g m s c)).trans q5
          have i1 := ih m s c hcc q2 q3 q4 hp1
          have hmet := met_of g hk m s c hcc q2.len
          have hle := (meet_pre g m s c).length_le
          rw [List.map_cons, List.foldlM_cons, i1, List.foldl_cons]
          exact ihk (meetF g m s c) (fun k hk => q1 k (by simp [hk])) (cons_meet hk m s c hcc q2) (by have := hmet.zer; omega) (by omega) q5
      exact fold g[k.toNat].kids s1 (hk _ (List.getElem_mem hlt)) hc1 (by omega) (by rw [← e3]; omega) hp

/-- A graph's normal form is met in its own order, and whole. -/
theorem normal_met {g : List Nd} (hr : rightG g = true) : metF (normal g) ((normal g).length + 1) 0 0 = some (normal g).length := by
  obtain ⟨hl, hk⟩ := rightG_kids hr
  have ho : order g = (meetF g (g.length + 1) (List.replicate g.length 0, []) 0).2 := by rw [order, if_pos hr]
  have h0 : hasG g 0 = true := by simp [hasG]; omega
  have hpre : [(0 : Int)] <+: order g := by
    rw [ho, meetF]
    have hz : ((List.replicate g.length 0)[(0 : Int).toNat]?).getD 0 = 0 := by
      rw [List.getElem?_replicate]; split <;> rfl
    simp only [hz, Nat.lt_irrefl, if_false, List.nil_append]
    exact fold_pre (meet_pre g g.length) _ ((List.replicate g.length 0).set (Int.toNat 0) (0 + 1), [(0 : Int)])
  have hfirst : (order g)[0]? = some 0 := by
    obtain ⟨t, ht⟩ := hpre
    rw [← ht]; rfl
  have hs := sim hr ((normal g).length + 1) (g.length + 1) (List.replicate g.length 0, []) 0 h0 (cons_start g) (by simp [zeros_rep]) (by simp [normal_len]) (by rw [ho]; exact List.prefix_refl _)
  rw [number_at hr hfirst] at hs
  rw [← ho, ← normal_len] at hs
  exact hs

/-! ### Nodes of a normal form -/
theorem normal_nodes {g : List Nd} (hr : rightG g = true) : ∀ n ∈ normal g, ∃ n0 ∈ g, n = renum (numbers g) n0 ∧ rightN g n0 = true := by
  intro n hn
  simp only [normal, List.mem_map] at hn
  obtain ⟨a, ha, rfl⟩ := hn
  have := order_has g a ha
  simp only [hasG, decide_eq_true_eq] at this
  have hlt : a.toNat < g.length := by omega
  refine ⟨g[a.toNat], List.getElem_mem hlt, by rw [List.getElem?_eq_getElem hlt]; rfl, ?_⟩
  simp only [rightG, Bool.and_eq_true, Bool.not_eq_true'] at hr
  have h2 := hr.2.1
  rw [List.any_eq_false] at h2
  simpa using h2 _ (List.getElem_mem hlt)

/-- What a node that may be is. -/
theorem rightN_kinds {g : List Nd} {n : Nd} (h : rightN g n = true) : (n.kind = 0 ∧ n.kids = []) ∨ (n.kind = 1 ∧ n.text = []) ∨ (n.kind = 2 ∧ n.text = []) := by
  unfold rightN at h
  split at h
  · simp at h
  · split at h
    · rename_i k0
      simp only [Bool.and_eq_true, decide_eq_true_eq] at h
      exact .inl ⟨k0, List.eq_nil_of_length_eq_zero h.1⟩
    · split at h
      · rename_i k1
        simp only [Bool.and_eq_true, beq_iff_eq] at h
        exact .inr (.inl ⟨k1, h.2⟩)
      · split at h
        · rename_i k2
          split at h
          · simp at h
          · simp only [Bool.and_eq_true, beq_iff_eq] at h
            exact .inr (.inr ⟨k2, h.2⟩)
        · simp at h

theorem normal_kinds {g : List Nd} (hr : rightG g = true) : ∀ n ∈ normal g, (n.kind = 0 ∧ n.kids = []) ∨ n.kind = 1 ∨ n.kind = 2 := by
  intro n hn
  obtain ⟨n0, _, rfl, h⟩ := normal_nodes hr n hn
  rcases rightN_kinds h with ⟨h1, h2⟩ | ⟨h1, _⟩ | ⟨h1, _⟩
  · exact .inl ⟨h1, by simp [renum, h2]⟩
  · exact .inr (.inl h1)
  · exact .inr (.inr h1)

end Go.SV
