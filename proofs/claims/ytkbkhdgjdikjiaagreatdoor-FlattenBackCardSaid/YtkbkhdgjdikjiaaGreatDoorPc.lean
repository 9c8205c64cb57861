/- Plain laws of normal forms: the normal form of a graph that may be may be, too. Own text of the prover; nothing is assumed. -/
import Derived.Test.YtkbkhdgjdikjiaaGreatDoorPa
set_option maxRecDepth 100000
namespace Go.SV

def kidsOf (g : List Nd) (x : Int) : List Int := ((g[x.toNat]?).map (·.kids)).getD []

theorem clo_fold {g : List Nd} {n : Nat} (hk : ∀ n ∈ g, ∀ k ∈ n.kids, hasG g k = true)
    (ih : ∀ (s : List Nat × List Int) (k : Int), hasG g k = true → Cons g s → zeros s.1 < n → k ∈ (meetF g n s k).2 ∧ ∀ x ∈ (meetF g n s k).2, x ∉ s.2 → ∀ j ∈ kidsOf g x, j ∈ (meetF g n s k).2) :
    ∀ (ks : List Int) (s : List Nat × List Int), (∀ k ∈ ks, hasG g k = true) → Cons g s → zeros s.1 < n →
      (∀ c ∈ ks, c ∈ (ks.foldl (fun s k => meetF g n s k) s).2) ∧ ∀ x ∈ (ks.foldl (fun s k => meetF g n s k) s).2, x ∉ s.2 → ∀ j ∈ kidsOf g x, j ∈ (ks.foldl (fun s k => meetF g n s k) s).2 := by
  intro ks
  induction ks with
  | nil => intro s _ _ _; exact ⟨by simp, fun x hx hn => absurd hx hn⟩
  | cons c ks ihk =>
    intro s q1 q2 q3
    have hcc := q1 c (by simp)
    have hz := (met_of g hk n s c hcc q2.len).zer
    obtain ⟨i1, i2⟩ := ih s c hcc q2 q3
    obtain ⟨j1, j2⟩ := ihk (meetF g n s c) (fun k hk => q1 k (by simp [hk])) (cons_meet hk n s c hcc q2) (by omega)
    have hp := fold_pre (meet_pre g n) ks (meetF g n s c)
    rw [List.foldl_cons]
    refine ⟨fun d hd => ?_, fun x hx hn j hj => ?_⟩
    · rcases List.mem_cons.1 hd with rfl | hd
      · exact hp.subset i1
      · exact j1 d hd
    · by_cases hm : x ∈ (meetF g n s c).2
      · exact hp.subset (i2 x hm hn j hj)
      · exact j2 x hx hm j hj

theorem clo_meet {g : List Nd} (hk : ∀ n ∈ g, ∀ k ∈ n.kids, hasG g k = true) : ∀ (n : Nat) (s : List Nat × List Int) (k : Int), hasG g k = true → Cons g s → zeros s.1 < n →
    k ∈ (meetF g n s k).2 ∧ ∀ x ∈ (meetF g n s k).2, x ∉ s.2 → ∀ j ∈ kidsOf g x, j ∈ (meetF g n s k).2 := by
  intro n
  induction n with
  | zero => intro s k _ _ h; omega
  | succ n ih =>
    intro s k hkk hc hz
    have hk' := hkk
    simp only [hasG, decide_eq_true_eq] at hk'
    have hlt : k.toNat < g.length := by omega
    by_cases h0 : 0 < (s.1[k.toNat]?).getD 0
    · have hm := (hc.iff k hkk).1 h0
      simp only [meetF, if_pos h0]
      exact ⟨hm, fun x hx hn => absurd hx hn⟩
    · have hnew : meetF g (n + 1) s k = g[k.toNat].kids.foldl (fun s k => meetF g n s k) (s.1.set k.toNat ((s.1[k.toNat]?).getD 0 + 1), s.2 ++ [k]) := by
        simp only [meetF, if_neg h0, List.getElem?_eq_getElem hlt, Option.map_some, Option.getD_some]
      have hc1 := cons_new hc hkk h0
      have hz1 : zeros (s.1.set k.toNat ((s.1[k.toNat]?).getD 0 + 1)) + 1 = zeros s.1 := by
        have hl : k.toNat < s.1.length := by rw [hc.len]; exact hlt
        have := zeros_set s.1 k.toNat hl
        rw [List.getElem?_eq_getElem hl, Option.getD_some] at h0 ⊢
        rw [if_pos (by omega)] at this
        exact this
      obtain ⟨f1, f2⟩ := clo_fold hk (fun s k a b c => ih s k a b c) g[k.toNat].kids _ (hk _ (List.getElem_mem hlt)) hc1 (by show zeros (s.1.set k.toNat ((s.1[k.toNat]?).getD 0 + 1)) < n; omega)
      have hp := fold_pre (meet_pre g n) g[k.toNat].kids (s.1.set k.toNat ((s.1[k.toNat]?).getD 0 + 1), s.2 ++ [k])
      rw [hnew]
      refine ⟨hp.subset (by simp), fun x hx hn j hj => ?_⟩
      by_cases e : x = k
      · subst e
        rw [kidsOf, List.getElem?_eq_getElem hlt] at hj
        exact f1 j hj
      · exact f2 x hx (by simp [hn, e]) j hj

theorem order_clo {g : List Nd} (hr : rightG g = true) : (0 : Int) ∈ order g ∧ ∀ x ∈ order g, ∀ j ∈ kidsOf g x, j ∈ order g := by
  obtain ⟨hl, hk⟩ := rightG_kids hr
  have ho : order g = (meetF g (g.length + 1) (List.replicate g.length 0, []) 0).2 := by rw [order, if_pos hr]
  obtain ⟨h1, h2⟩ := clo_meet hk (g.length + 1) (List.replicate g.length 0, []) 0 (by simp [hasG]; omega) (cons_start g) (by simp [zeros_rep])
  rw [ho]
  exact ⟨h1, fun x hx j hj => h2 x hx (by simp) j hj⟩

/-- The new number of a node. -/
def newN (g : List Nd) (k : Int) : Int := ((numbers g)[k.toNat]?).getD 0
theorem newN_at {g : List Nd} (hr : rightG g = true) {k : Int} (hk : k ∈ order g) : ∃ i : Nat, (order g)[i]? = some k ∧ newN g k = i ∧ ∃ h : k.toNat < g.length, (normal g)[i]? = some (renum (numbers g) g[k.toNat]) := by
  obtain ⟨i, hi, he⟩ := List.getElem_of_mem hk
  have hio : (order g)[i]? = some k := by rw [List.getElem?_eq_getElem hi, he]
  have := order_has g k hk
  simp only [hasG, decide_eq_true_eq] at this
  have hlt : k.toNat < g.length := by omega
  refine ⟨i, hio, by rw [newN, number_at hr hio]; rfl, hlt, ?_⟩
  rw [normal_at hio, List.getElem?_eq_getElem hlt]; rfl
theorem newN_inj {g : List Nd} (hr : rightG g = true) {k l : Int} (hk : k ∈ order g) (hl : l ∈ order g) (h : newN g k = newN g l) : k = l := by
  obtain ⟨i, h1, h2, _⟩ := newN_at hr hk
  obtain ⟨j, h3, h4, _⟩ := newN_at hr hl
  have : i = j := by omega
  subst this
  rw [h1] at h3
  exact Option.some.inj h3
theorem newN_has {g : List Nd} (hr : rightG g = true) {k : Int} (hk : k ∈ order g) : hasG (normal g) (newN g k) = true := by
  obtain ⟨i, _, h2, _, h4⟩ := newN_at hr hk
  have := getElem?_lt h4
  simp only [hasG, decide_eq_true_eq]
  omega

theorem evens_map (f : Int → Int) : ∀ (n : Nat) (l : List Int), l.length ≤ n → evens (l.map f) = (evens l).map f := by
  intro n
  induction n with
  | zero => intro l h; obtain rfl := List.eq_nil_of_length_eq_zero (Nat.le_zero.1 h); rfl
  | succ n ih =>
    intro l h
    match l with
    | [] => rfl
    | [a] => rfl
    | a :: b :: l =>
      simp only [List.map_cons, evens]
      rw [ih l (by simp only [List.length_cons] at h; omega)]
theorem evens_sub : ∀ (n : Nat) (l : List Int), l.length ≤ n → ∀ x ∈ evens l, x ∈ l := by
  intro n
  induction n with
  | zero => intro l h; obtain rfl := List.eq_nil_of_length_eq_zero (Nat.le_zero.1 h); simp [evens]
  | succ n ih =>
    intro l h x hx
    match l with
    | [] => exact hx
    | [a] => exact hx
    | a :: b :: l =>
      simp only [evens, List.mem_cons] at hx ⊢
      rcases hx with rfl | hx
      · exact .inl rfl
      · exact .inr (.inr (ih l (by simp only [List.length_cons] at h; omega) x hx))

theorem tw_new {g : List Nd} (hr : rightG g = true) : ∀ (ks sn : List Int) (sl : List (List UInt8 × List UInt8)), (∀ k ∈ ks, k ∈ order g) → (∀ k ∈ sn, k ∈ order g) →
    twN (normal g) (sn.map (newN g)) sl (ks.map (newN g)) = twN g sn sl ks := by
  intro ks
  induction ks with
  | nil => intro sn sl _ _; rfl
  | cons k ks ih =>
    intro sn sl h1 h2
    have hk := h1 k (by simp)
    obtain ⟨i, _, hi, hlt, hn⟩ := newN_at hr hk
    have hm : (newN g k ∈ sn.map (newN g)) ↔ k ∈ sn := by
      rw [List.mem_map]
      constructor
      · rintro ⟨l, hl, he⟩; rw [← newN_inj hr (h2 l hl) hk he]; exact hl
      · intro h; exact ⟨k, h, rfl⟩
    have hsn : ∀ l ∈ k :: sn, l ∈ order g := fun l hl => by
      rcases List.mem_cons.1 hl with rfl | hl
      · exact hk
      · exact h2 l hl
    have i1 := fun sl' => ih (k :: sn) sl' (fun l hl => h1 l (by simp [hl])) hsn
    simp only [List.map_cons] at i1
    have hat : (newN g k).toNat = i := by omega
    rw [List.map_cons, twN, twN, if_pos (newN_has hr hk), if_pos (order_has g k hk), hat, hn, List.getElem?_eq_getElem hlt]
    by_cases hin : k ∈ sn
    · rw [if_pos hin, if_pos (hm.2 hin)]
    · rw [if_neg hin, if_neg (fun h => hin (hm.1 h))]
      simp only [renum, i1]

theorem normal_node {g : List Nd} (hr : rightG g = true) {n : Nd} (hn : n ∈ normal g) : ∃ x ∈ order g, ∃ h : x.toNat < g.length, n = { g[x.toNat] with kids := g[x.toNat].kids.map (newN g) } ∧ (∀ k ∈ g[x.toNat].kids, k ∈ order g) ∧ rightN g g[x.toNat] = true := by
  simp only [normal, List.mem_map] at hn
  obtain ⟨x, hx, rfl⟩ := hn
  have := order_has g x hx
  simp only [hasG, decide_eq_true_eq] at this
  have hlt : x.toNat < g.length := by omega
  refine ⟨x, hx, hlt, by rw [List.getElem?_eq_getElem hlt]; rfl, fun k hk => (order_clo hr).2 x hx k (by rw [kidsOf, List.getElem?_eq_getElem hlt]; exact hk), ?_⟩
  simp only [rightG, Bool.and_eq_true, Bool.not_eq_true'] at hr
  have h2 := hr.2.1
  rw [List.any_eq_false] at h2
  simpa using h2 _ (List.getElem_mem hlt)

theorem normal_right {g : List Nd} (hr : rightG g = true) : rightG (normal g) = true := by
  obtain ⟨hl, hk⟩ := rightG_kids hr
  have hol := order_len g
  have hop := order_pos hr
  have htw : twice g = false := by
    simp only [rightG, Bool.and_eq_true, Bool.not_eq_true'] at hr
    exact hr.2.2
  simp only [rightG, Bool.and_eq_true, decide_eq_true_eq, Bool.not_eq_true', normal_len]
  refine ⟨by omega, ?_, ?_⟩
  · rw [List.any_eq_false]
    intro n hn
    obtain ⟨x, hx, hlt, rfl, hko, h⟩ := normal_node hr hn
    generalize g[x.toNat] = n0 at *
    have e1 : (n0.kids.map (newN g)).any (fun i => !hasG (normal g) i) = false := by
      rw [List.any_eq_false]
      intro k hk
      obtain ⟨l, hl, rfl⟩ := List.mem_map.1 hk
      rw [newN_has hr (hko l hl)]; simp
    have e2 : (evens (n0.kids.map (newN g))).any (fun i => !(kindAt (normal g) i == 0)) = (evens n0.kids).any (fun i => !(kindAt g i == 0)) := by
      rw [evens_map _ _ _ (Nat.le_refl _), List.any_map]
      have : ∀ k ∈ evens n0.kids, ((fun i => !(kindAt (normal g) i == 0)) ∘ newN g) k = (fun i => !(kindAt g i == 0)) k := by
        intro k hk
        obtain ⟨i, _, hi, hlt, hn⟩ := newN_at hr (hko k (evens_sub _ _ (Nat.le_refl _) k hk))
        have hat : (newN g k).toNat = i := by omega
        simp only [Function.comp, kindAt, hat, hn, List.getElem?_eq_getElem hlt, renum]
        rfl
      rw [Bool.eq_iff_iff, List.any_eq_true, List.any_eq_true]
      constructor
      · rintro ⟨k, hk, h⟩; exact ⟨k, hk, (this k hk).symm.trans h⟩
      · rintro ⟨k, hk, h⟩; exact ⟨k, hk, (this k hk).trans h⟩
    have h2 : rightN (normal g) { n0 with kids := n0.kids.map (newN g) } = true := by
      unfold rightN at h ⊢
      split at h
      · simp at h
      · simp only [e1, e2, Bool.false_eq_true, if_false, List.length_map]
        exact h
    simp [h2]
  · simp only [twice, List.any_eq_false, Bool.and_eq_true, not_and] at htw ⊢
    intro n hn h2
    obtain ⟨x, hx, hlt, rfl, hko, h⟩ := normal_node hr hn
    rw [evens_map _ _ _ (Nat.le_refl _)]
    have := tw_new hr (evens g[x.toNat].kids) [] [] (fun k hk => hko k (evens_sub _ _ (Nat.le_refl _) k hk)) (by simp)
    rw [List.map_nil] at this
    rw [this]
    exact htw _ (List.getElem_mem hlt) h2

end Go.SV
