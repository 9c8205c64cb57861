/- Plain laws of events: what is told, as a relation; how many nodes, and how deep. Own text of the prover; nothing is assumed. -/
import Derived.Test.YtkbkhdgjdikjiaaGreatDoorPa
import Derived.Test.YtkbkhdgjdikjiaaGreatDoorCm
set_option maxRecDepth 100000
namespace Go.SV

def aliasE (names : List (List UInt8)) (a : Int) : Ev := ⟨7, nameAt names a, [], [], false⟩
def openE (names : List (List UInt8)) (nd : Nd) (met : Nat) : Ev := nameEv (eventOf nd) (nameAt names met)
def closeE (nd : Nd) : Ev := ⟨(eventOf nd).kind + 1, [], [], [], false⟩

/-- Nodes are told in turn: from so many that were met to so many, by these events, so deep. -/
inductive Wk (g : List Nd) (names : List (List UInt8)) : Nat → List Int → Nat → List Ev → Nat → Prop
  | nil (met : Nat) : Wk g names met [] met [] 0
  | alias {met m h : Nat} {a : Int} {ks : List Int} {s : List Ev} : 0 ≤ a → a < met → Wk g names met ks m s h → Wk g names met (a :: ks) m (aliasE names a :: s) h
  | leaf {met m h : Nat} {nd : Nd} {ks : List Int} {s : List Ev} : g[met]? = some nd → nd.kind = 0 → Wk g names (met + 1) ks m s h → Wk g names met ((met : Int) :: ks) m (openE names nd met :: s) h
  | node {met m1 m h1 h : Nat} {nd : Nd} {ks : List Int} {s1 s : List Ev} : g[met]? = some nd → nd.kind ≠ 0 → Wk g names (met + 1) nd.kids m1 s1 h1 → Wk g names m1 ks m s h →
      Wk g names met ((met : Int) :: ks) m (openE names nd met :: (s1 ++ closeE nd :: s)) (max (h1 + 1) h)

variable {g : List Nd} {names : List (List UInt8)}

theorem wk_app {met m1 m2 h1 h2 : Nat} {ks1 ks2 : List Int} {s1 s2 : List Ev} (a : Wk g names met ks1 m1 s1 h1) (b : Wk g names m1 ks2 m2 s2 h2) : Wk g names met (ks1 ++ ks2) m2 (s1 ++ s2) (max h1 h2) := by
  induction a with
  | nil => simpa using b
  | alias p q _ ih => exact .alias p q (ih b)
  | leaf p q _ ih => exact .leaf p q (ih b)
  | node p q x _ _ ih =>
    have := Wk.node p q x (ih b)
    rw [List.cons_append, List.cons_append, List.append_assoc, List.cons_append]
    rw [show ∀ a b c : Nat, max (max a b) c = max a (max b c) from fun a b c => by omega]
    exact this

theorem told_wk (hk : ∀ n ∈ g, ∀ k ∈ n.kids, hasG g k = true) (hkn : ∀ n ∈ g, n.kind = 0 → n.kids = []) : ∀ (n : Nat) (s : Tl) (a : Int) (m : Nat), hasG g a = true → s.deep ≤ s.most → metF g n s.met a = some m →
    ∃ seg h, Wk g names s.met [a] m seg h ∧ tellF g names n s a = ⟨s.out ++ seg, m, s.deep, max s.most (s.deep + h)⟩ := by
  intro n
  induction n with
  | zero => intro s a m _ _ h; simp [metF] at h
  | succ n ih =>
    intro s a m ha hd hm
    simp only [hasG, decide_eq_true_eq] at ha
    rw [metF] at hm
    split at hm
    · rename_i hlt
      simp only [Option.some.injEq] at hm
      subst hm
      refine ⟨_, 0, .alias ha.1 hlt (.nil _), ?_⟩
      rw [tellF, if_pos hlt]
      simp only [aliasE, Nat.add_zero]
      rw [show max s.most s.deep = s.most by omega]
    · rename_i hlt
      split at hm
      · rename_i he
        have hag : s.met < g.length := by omega
        have hat : a.toNat = s.met := by omega
        have hge : g[s.met]? = some g[s.met] := List.getElem?_eq_getElem hag
        rw [hge] at hm
        simp only [Option.map_some, Option.getD_some] at hm
        rw [tellF, if_neg hlt, hat, hge]
        simp only [Option.getD_some]
        have hmem : g[s.met] ∈ g := List.getElem_mem hag
        have hkk := hk _ hmem
        have hz := hkn _ hmem
        generalize g[s.met] = nd at *
        by_cases h0 : nd.kind = 0
        · rw [if_pos h0]
          rw [hz h0] at hm
          simp only [List.foldlM_nil, Option.pure_def, Option.some.injEq] at hm
          subst hm
          have w : Wk g names s.met [a] (s.met + 1) [openE names nd s.met] 0 := by rw [he]; exact .leaf hge h0 (.nil _)
          refine ⟨_, 0, w, ?_⟩
          rw [he]
          simp only [openE, Nat.add_zero]
          rw [show max s.most s.deep = s.most by omega]
        · rw [if_neg h0]
          have fold : ∀ (ks : List Int) (t : Tl) (m : Nat), (∀ k ∈ ks, hasG g k = true) → t.deep ≤ t.most → ks.foldlM (fun m k => metF g n m k) t.met = some m →
              ∃ seg h, Wk g names t.met ks m seg h ∧ ks.foldl (fun s k => tellF g names n s k) t = ⟨t.out ++ seg, m, t.deep, max t.most (t.deep + h)⟩ := by
            intro ks
            induction ks with
            | nil =>
              intro t m _ ht hm
              simp only [List.foldlM_nil, Option.pure_def, Option.some.injEq] at hm
              subst hm
              refine ⟨[], 0, .nil _, ?_⟩
              rw [List.foldl_nil, List.append_nil, Nat.add_zero, show max t.most t.deep = t.most by omega]
            | cons k ks ihk =>
              intro t m q ht hm
              rw [List.foldlM_cons] at hm
              simp only [Option.bind_eq_bind, Option.bind_eq_some_iff] at hm
              obtain ⟨m1, h1, h2⟩ := hm
              obtain ⟨s1, e1, w1, r1⟩ := ih t k m1 (q k (by simp)) ht h1
              rw [List.foldl_cons, r1]
              obtain ⟨s2, e2, w2, r2⟩ := ihk ⟨t.out ++ s1, m1, t.deep, max t.most (t.deep + e1)⟩ m (fun k hk => q k (by simp [hk])) (by simp only; omega) h2
              refine ⟨s1 ++ s2, max e1 e2, wk_app w1 w2, ?_⟩
              rw [r2]
              simp only [List.append_assoc, Tl.mk.injEq, true_and]
              omega
          obtain ⟨s1, h1, w1, r1⟩ := fold nd.kids (openS s (nameEv (eventOf nd) (nameAt names a))) m hkk (by simp only [openS]; omega) hm
          have w : Wk g names s.met [a] m (openE names nd s.met :: (s1 ++ closeE nd :: [])) (max (h1 + 1) 0) := by rw [he]; exact .node hge h0 w1 (.nil _)
          refine ⟨_, _, w, ?_⟩
          have e0 : (⟨s.out ++ [nameEv (eventOf nd) (nameAt names a)], s.met + 1, s.deep + 1, max s.most (s.deep + 1)⟩ : Tl) = openS s (nameEv (eventOf nd) (nameAt names a)) := rfl
          simp only [e0, r1]
          simp only [openS, openE, closeE, he, List.append_assoc, List.cons_append, List.nil_append, Tl.mk.injEq, true_and]
          omega
      · simp at hm

/-- What is told of a graph that may be. -/
theorem tell_wk {g : List Nd} (hr : rightG g = true) : ∃ h, Wk (normal g) (namesG (normal g)) 0 [0] (normal g).length (tellG g).out h ∧ (tellG g).most = h := by
  have hp : 0 < (normal g).length := by rw [normal_len]; exact order_pos hr
  obtain ⟨seg, h, w, r⟩ := told_wk (names := namesG (normal g)) (normal_kids hr) (fun n hn h0 => by
    rcases normal_kinds hr n hn with ⟨_, h⟩ | h | h
    · exact h
    · omega
    · omega) _ ⟨[], 0, 0, 0⟩ 0 _ (by simp only [hasG, decide_eq_true_eq]; omega) (Nat.le_refl _) (normal_met hr)
  refine ⟨h, ?_, ?_⟩
  · have : (tellG g).out = seg := by rw [tellG, r]; rfl
    rw [this]; exact w
  · rw [tellG, r]; simp

/-! ### How many nodes -/
def isNode (e : Ev) : Bool := e.kind == 2 || e.kind == 4 || e.kind == 6
def isN (e : Ev) : Bool := isNode e || e.kind == 7
def cntN (l : List Ev) : Nat := (l.filter isN).length
def sumTo (g : List Nd) (m : Nat) : Nat := ((g.take m).map fun n => n.kids.length).sum

theorem sumTo_succ {m : Nat} {nd : Nd} (h : g[m]? = some nd) : sumTo g (m + 1) = sumTo g m + nd.kids.length := by
  simp [sumTo, List.take_add_one, h]

theorem kind_of {nd : Nd} (h : nd.kind = 0 ∨ nd.kind = 1 ∨ nd.kind = 2) : (nd.kind = 0 ∧ (eventOf nd).kind = 6) ∨ (nd.kind = 1 ∧ (eventOf nd).kind = 2) ∨ (nd.kind = 2 ∧ (eventOf nd).kind = 4) := by
  rcases h with h | h | h
  · refine .inl ⟨h, ?_⟩
    rw [eventOf, if_neg (by omega), if_neg (by omega), if_pos h]
    split <;> rfl
  · exact .inr (.inl ⟨h, by rw [eventOf, if_pos h]⟩)
  · exact .inr (.inr ⟨h, by rw [eventOf, if_neg (by omega), if_pos h]⟩)

theorem wk_cnt (hkd : ∀ n ∈ g, (n.kind = 0 ∧ n.kids = []) ∨ n.kind = 1 ∨ n.kind = 2) {met m h : Nat} {ks : List Int} {s : List Ev} (w : Wk g names met ks m s h) : cntN s + sumTo g met = ks.length + sumTo g m := by
  induction w with
  | nil => simp [cntN]
  | alias _ _ _ ih =>
    have : isN (aliasE names ‹Int›) = true := rfl
    simp only [cntN, List.filter_cons, this, if_true, List.length_cons] at ih ⊢
    omega
  | @leaf met m h nd ks s p q _ ih =>
    have hm := hkd nd (List.mem_of_getElem? p)
    have hn : nd.kids = [] := by rcases hm with h | h | h; exact h.2; omega; omega
    have h6 : isN (openE names nd met) = true := by
      rcases kind_of (.inl q) with h | h | h
      · simp [isN, isNode, openE, nameEv, h.2]
      · omega
      · omega
    have := sumTo_succ p
    rw [hn] at this
    simp only [cntN, List.filter_cons, h6, if_true, List.length_cons, List.length_nil] at ih this ⊢
    omega
  | @node met m1 m h1 h nd ks s1 s p q _ _ ih1 ih2 =>
    have hm := hkd nd (List.mem_of_getElem? p)
    have h6 : isN (openE names nd met) = true ∧ isN (closeE nd) = false := by
      rcases kind_of (nd := nd) (by rcases hm with h | h | h; exact absurd h.1 q; exact .inr (.inl h); exact .inr (.inr h)) with h | h | h
      · exact absurd h.1 q
      · simp [isN, isNode, openE, closeE, nameEv, h.2]
      · simp [isN, isNode, openE, closeE, nameEv, h.2]
    have := sumTo_succ p
    simp only [cntN, List.filter_cons, List.filter_append, h6.1, h6.2, if_true, Bool.false_eq_true, if_false, List.length_cons, List.length_append] at ih1 ih2 ⊢
    omega

/-! ### How deep -/
def dStep (d k : Int) : Int := if k = 2 ∨ k = 4 then d + 1 else if k = 3 ∨ k = 5 then d - 1 else d
def depthGo : List Ev → Int → Int → Int
  | [], _, m => m
  | x :: l, d, m => depthGo l (dStep d x.kind) (max m (dStep d x.kind))

theorem wk_depth (hkd : ∀ n ∈ g, (n.kind = 0 ∧ n.kids = []) ∨ n.kind = 1 ∨ n.kind = 2) {met m h : Nat} {ks : List Int} {s : List Ev} (w : Wk g names met ks m s h) : ∀ (d M : Int) (rest : List Ev), d ≤ M → depthGo (s ++ rest) d M = depthGo rest d (max M (d + h)) := by
  induction w with
  | nil => intro d M rest h; simp only [List.nil_append]; congr 1; omega
  | @alias met m h a ks s _ _ _ ih =>
    intro d M rest h
    have e : dStep d (aliasE names a).kind = d := rfl
    rw [List.cons_append, depthGo, e, show max M d = M by omega]
    exact ih d M rest h
  | @leaf met m h nd ks s p q _ ih =>
    intro d M rest h
    have hk6 : (openE names nd met).kind = 6 := by
      rcases kind_of (.inl q) with h | h | h
      · exact h.2
      · omega
      · omega
    have e : dStep d (openE names nd met).kind = d := by rw [hk6]; rfl
    rw [List.cons_append, depthGo, e, show max M d = M by omega]
    exact ih d M rest h
  | @node met m1 m h1 h nd ks s1 s p q _ _ ih1 ih2 =>
    intro d M rest hdm
    have hm := hkd nd (List.mem_of_getElem? p)
    have hk6 : (dStep d (openE names nd met).kind = d + 1) ∧ dStep (d + 1) (closeE nd).kind = d := by
      rcases kind_of (nd := nd) (by rcases hm with h | h | h; exact absurd h.1 q; exact .inr (.inl h); exact .inr (.inr h)) with h | h | h
      · exact absurd h.1 q
      · simp only [openE, closeE, nameEv, h.2, dStep]
        constructor
        · simp
        · simp <;> omega
      · simp only [openE, closeE, nameEv, h.2, dStep]
        constructor
        · simp
        · simp <;> omega
    rw [List.cons_append, depthGo, hk6.1, List.append_assoc, ih1 _ _ _ (by omega), List.cons_append, depthGo, hk6.2, ih2 _ _ _ (by omega)]
    congr 1
    omega

theorem doc_cnt {g : List Nd} (hr : rightG g = true) : cntN (docE g) = 1 + ((normal g).map fun n => n.kids.length).sum := by
  obtain ⟨h, w, _⟩ := tell_wk hr
  have := wk_cnt (normal_kinds hr) w
  simp only [sumTo, List.take_zero, List.map_nil, List.sum_nil, List.take_length, List.length_singleton] at this
  have hb : isN evB = false := rfl
  have he : isN evE = false := rfl
  simp only [cntN, docE, List.filter_cons, List.filter_append, hb, he, Bool.false_eq_true, if_false, List.filter_nil, List.append_nil] at this ⊢
  omega

end Go.SV
