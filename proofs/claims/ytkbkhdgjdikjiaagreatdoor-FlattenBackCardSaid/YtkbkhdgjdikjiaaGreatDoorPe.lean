/- Plain law: what is told of two graphs is the same just if their normal forms are. Own text of the prover; nothing is assumed. -/
import Derived.Test.YtkbkhdgjdikjiaaGreatDoorPd
import Derived.Test.YtkbkhdgjdikjiaaGreatDoorCn
set_option maxRecDepth 100000
namespace Go.SV

/-- A node's event tells the node, but its kids. -/
theorem event_inj {g h : List Nd} {a b : Nd} (ha : rightN g a = true) (hb : rightN h b = true) (he : eventOf a = eventOf b) : a.kind = b.kind ∧ a.tag = b.tag ∧ a.text = b.text := by
  have one : ∀ {g : List Nd} {n : Nd}, rightN g n = true → rightG [{ n with kids := [] }] = true := by
    intro g n hn
    have h1 : rightN [{ n with kids := [] }] { n with kids := [] } = true := by
      unfold rightN at hn ⊢
      split at hn
      · simp at hn
      · rw [if_neg (by simp)]
        split at hn
        · rename_i k0
          rw [if_pos k0]
          simp only [Bool.and_eq_true] at hn ⊢
          exact ⟨by simp, hn.2⟩
        · rename_i k0
          rw [if_neg k0]
          split at hn
          · rename_i k1; rw [if_pos k1]; exact hn
          · rename_i k1
            rw [if_neg k1]
            split at hn
            · rename_i k2
              rw [if_pos k2]
              split at hn
              · simp at hn
              · rw [if_neg (by simp [evens])]; exact hn
            · simp at hn
    have h2 : twice [{ n with kids := [] }] = false := by
      simp [twice, twN, evens]
    simp [rightG, h1, h2]
  have p := plainlaw_tag a (one ha)
  have q := plainlaw_tag b (one hb)
  have hk : a.kind = b.kind := by
    have ka := kind_of (nd := a) (by rcases rightN_kinds ha with h | h | h; exact .inl h.1; exact .inr (.inl h.1); exact .inr (.inr h.1))
    have kb := kind_of (nd := b) (by rcases rightN_kinds hb with h | h | h; exact .inl h.1; exact .inr (.inl h.1); exact .inr (.inr h.1))
    rw [he] at ka
    omega
  refine ⟨hk, ?_, ?_⟩
  · have := p.1; rw [he, q.1] at this; exact (congrArg Prod.fst this).symm
  · have := p.2.1; rw [he, q.2.1] at this; exact this.symm

/-- What does not begin a node. -/
def notItem (r : List Ev) : Prop := ∀ e l, r = e :: l → isN e = false

theorem isN_alias {names : List (List UInt8)} {a : Int} : isN (aliasE names a) = true := rfl
theorem isN_open {g : List Nd} {names : List (List UInt8)} {nd : Nd} {met : Nat} (hr : rightN g nd = true) : isN (openE names nd met) = true ∧ isN (closeE nd) = (nd.kind == 0 && isN (closeE nd)) ∧ (openE names nd met).kind ≠ 7 ∧ (nd.kind = 0 ↔ (openE names nd met).kind = 6) := by
  rcases kind_of (nd := nd) (by rcases rightN_kinds hr with h | h | h; exact .inl h.1; exact .inr (.inl h.1); exact .inr (.inr h.1)) with h | h | h
  · simp [isN, isNode, openE, nameEv, h.1, h.2]
  · simp [isN, isNode, openE, closeE, nameEv, h.1, h.2]
  · simp [isN, isNode, openE, closeE, nameEv, h.1, h.2]

/-- Told nodes, all of them such as may be, aliases of such as have names. -/
inductive Wq (g : List Nd) : Nat → List Int → Nat → List Ev → Prop
  | nil (met : Nat) : Wq g met [] met []
  | alias {met m : Nat} {a : Int} {ks : List Int} {s : List Ev} : 0 ≤ a → a < met → isNamed g a.toNat = true → Wq g met ks m s → Wq g met (a :: ks) m (aliasE (namesG g) a :: s)
  | leaf {met m : Nat} {nd : Nd} {ks : List Int} {s : List Ev} : g[met]? = some nd → nd.kind = 0 → nd.kids = [] → rightN g nd = true → Wq g (met + 1) ks m s → Wq g met ((met : Int) :: ks) m (openE (namesG g) nd met :: s)
  | node {met m1 m : Nat} {nd : Nd} {ks : List Int} {s1 s : List Ev} : g[met]? = some nd → nd.kind ≠ 0 → rightN g nd = true → Wq g (met + 1) nd.kids m1 s1 → Wq g m1 ks m s →
      Wq g met ((met : Int) :: ks) m (openE (namesG g) nd met :: (s1 ++ closeE nd :: s))

theorem wk_al {g : List Nd} {met m h : Nat} {ks : List Int} {s : List Ev} (hkd : ∀ n ∈ g, (n.kind = 0 ∧ n.kids = []) ∨ n.kind = 1 ∨ n.kind = 2) (w : Wk g (namesG g) met ks m s h) :
    ∃ l, Al g met ks m l ∧ ((∀ a ∈ l, isNamed g a.toNat = true) → (∀ n ∈ g, rightN g n = true) → Wq g met ks m s) := by
  induction w with
  | nil => exact ⟨[], .nil _, fun _ _ => .nil _⟩
  | alias h0 h1 _ ih =>
    obtain ⟨l, a, b⟩ := ih
    exact ⟨_, .alias h0 h1 a, fun p q => .alias h0 h1 (p _ (by simp)) (b (fun x hx => p x (by simp [hx])) q)⟩
  | @leaf met m h nd ks s hn hk _ ih =>
    obtain ⟨l, a, b⟩ := ih
    have hm := List.mem_of_getElem? hn
    have hkk : nd.kids = [] := by rcases hkd _ hm with h | h | h; exact h.2; omega; omega
    exact ⟨_, .leaf hn hkk a, fun p q => .leaf hn hk hkk (q _ hm) (b p q)⟩
  | node hn hk _ _ ih1 ih2 =>
    obtain ⟨l1, a1, b1⟩ := ih1
    obtain ⟨l, a, b⟩ := ih2
    have hm := List.mem_of_getElem? hn
    exact ⟨_, .node hn a1 a, fun p q => .node hn hk (q _ hm) (b1 (fun x hx => p x (by simp [hx])) q) (b (fun x hx => p x (by simp [hx])) q)⟩

theorem right_nodes {g : List Nd} (hr : rightG g = true) : ∀ n ∈ g, rightN g n = true := by
  simp only [rightG, Bool.and_eq_true, Bool.not_eq_true'] at hr
  have h2 := hr.2.1
  rw [List.any_eq_false] at h2
  intro n hn
  simpa using h2 n hn

theorem tell_wq {g : List Nd} (hr : rightG g = true) : Wq (normal g) 0 [0] (normal g).length (tellG g).out ∧ ∃ l, Al (normal g) 0 [0] (normal g).length l := by
  obtain ⟨h, w, _⟩ := tell_wk hr
  obtain ⟨l, a, b⟩ := wk_al (normal_kinds hr) w
  refine ⟨b (fun x hx => ?_) (right_nodes (normal_right hr)), l, a⟩
  have := al_in a x hx
  have h1 := (al_named a x.toNat (by omega)).1 (by rw [show ((x.toNat : Nat) : Int) = x by omega]; exact hx)
  exact h1

theorem wq_le {g : List Nd} {met m : Nat} {ks : List Int} {s : List Ev} (w : Wq g met ks m s) : met ≤ m := by
  induction w with
  | nil => exact Nat.le_refl _
  | alias _ _ _ _ ih => exact ih
  | leaf _ _ _ _ _ ih => omega
  | node _ _ _ _ _ ih1 ih2 => omega

theorem ev_anchor (nd : Nd) : (eventOf nd).anchor = [] := by
  unfold eventOf
  repeat' split
  all_goals rfl
theorem ev_ext {a b : Ev} (h1 : a.kind = b.kind) (h2 : a.anchor = b.anchor) (h3 : a.tag = b.tag) (h4 : a.text = b.text) (h5 : a.plain = b.plain) : a = b := by
  cases a; cases b; simp_all
theorem open_inj {na nb : List (List UInt8)} {a b : Nd} {m : Nat} (h : openE na a m = openE nb b m) : eventOf a = eventOf b ∧ nameAt na m = nameAt nb m := by
  simp only [openE, nameEv, Ev.mk.injEq] at h
  obtain ⟨h1, h2, h3, h4, h5⟩ := h
  have ha := ev_anchor a
  have hb := ev_anchor b
  exact ⟨ev_ext h1 (ha.trans hb.symm) h3 h4 h5, h2⟩

/-- The events tell the nodes. -/
theorem wq_same {A B : List Nd} (hA : rightG A = true) {met m : Nat} {ks : List Int} {s : List Ev} (w : Wq A met ks m s) :
    ∀ {ks' : List Int} {m' : Nat} {s' r r' : List Ev}, Wq B met ks' m' s' → s ++ r = s' ++ r' → notItem r → notItem r' → m ≤ A.length → (∀ j : Nat, j < met → nameAt (namesG A) j = nameAt (namesG B) j) →
      ks = ks' ∧ m = m' ∧ r = r' ∧ (∀ j : Nat, met ≤ j → j < m → A[j]? = B[j]?) ∧ ∀ j : Nat, j < m → nameAt (namesG A) j = nameAt (namesG B) j := by
  induction w with
  | nil met =>
    intro ks' m' s' r r' w' he hr hr' _ hj
    cases w' with
    | nil => exact ⟨rfl, rfl, he, fun j h1 h2 => by omega, hj⟩
    | alias => exact absurd (hr _ _ he) (by rw [isN_alias]; simp)
    | leaf _ _ _ hn => exact absurd (hr _ _ he) (by rw [(isN_open hn).1]; simp)
    | node _ _ hn => exact absurd (hr _ _ he) (by rw [(isN_open hn).1]; simp)
  | @alias met m a ks s h0 h1 hn wa ih =>
    intro ks' m' s' r r' w' he hr hr' hm hj
    have hle := wq_le wa
    cases w' with
    | nil => exact absurd (hr' _ _ he.symm) (by rw [isN_alias]; simp)
    | @alias _ _ a' ks' s' h0' h1' hn' w2 =>
      rw [List.cons_append, List.cons_append, List.cons.injEq] at he
      obtain ⟨e1, e2⟩ := he
      obtain ⟨i1, i2, i3, i4, i5⟩ := ih w2 e2 hr hr' hm hj
      have hna : nameAt (namesG A) a = nameAt (namesG B) a' := by simp only [aliasE, Ev.mk.injEq] at e1; exact e1.2.1
      have ha := hj a'.toNat (by omega)
      rw [show ((a'.toNat : Nat) : Int) = a' by omega] at ha
      rw [← ha] at hna
      have : a = a' := name_inj hA h0 (by omega) h0' (by omega) hn hna
      subst this
      rw [i1]
      exact ⟨rfl, i2, i3, i4, i5⟩
    | leaf _ _ _ hn' =>
      exfalso
      have e1 := (List.cons.inj he).1
      exact (isN_open hn').2.2.1 (by rw [← e1]; rfl)
    | node _ _ hn' =>
      exfalso
      have e1 := (List.cons.inj he).1
      exact (isN_open hn').2.2.1 (by rw [← e1]; rfl)
  | @leaf met m nd ks s hg hk hkk hn w ih =>
    intro ks' m' s' r r' w' he hr hr' hm hj
    cases w' with
    | nil => exact absurd (hr' _ _ he.symm) (by rw [(isN_open hn).1]; simp)
    | alias =>
      exfalso
      have e1 := (List.cons.inj he).1
      exact (isN_open hn).2.2.1 (by rw [e1]; rfl)
    | @leaf _ _ nd' ks' s' hg' hk' hkk' hn' w2 =>
      rw [List.cons_append, List.cons_append, List.cons.injEq] at he
      obtain ⟨e1, e2⟩ := he
      have hev := open_inj e1
      obtain ⟨t1, t2, t3⟩ := event_inj hn hn' hev.1
      have hnd : nd = nd' := by
        obtain ⟨_, _, _, _⟩ := nd
        obtain ⟨_, _, _, _⟩ := nd'
        simp only at t1 t2 t3 hkk hkk'
        subst t1; subst t2; subst t3; subst hkk; subst hkk'; rfl
      subst hnd
      obtain ⟨i1, i2, i3, i4, i5⟩ := ih w2 e2 hr hr' hm (fun j hj2 => by
        by_cases ej : j = met
        · subst ej; exact hev.2
        · exact hj j (by omega))
      refine ⟨by rw [i1], i2, i3, fun j q1 q2 => ?_, i5⟩
      by_cases ej : j = met
      · subst ej; rw [hg, hg']
      · exact i4 j (by omega) q2
    | node _ hk' hn' =>
      exfalso
      have e1 := (List.cons.inj he).1
      have k1 := (isN_open (names := namesG A) (met := met) hn).2.2.2.1 hk
      rw [e1] at k1
      exact hk' ((isN_open hn').2.2.2.2 k1)
  | @node met m1 m nd ks s1 s hg hk hn w1 w ih1 ih2 =>
    intro ks' m' s' r r' w' he hr hr' hm hj
    have hle1 := wq_le w
    have hle0 := wq_le w1
    cases w' with
    | nil => exact absurd (hr' _ _ he.symm) (by rw [(isN_open hn).1]; simp)
    | alias =>
      exfalso
      have e1 := (List.cons.inj he).1
      exact (isN_open hn).2.2.1 (by rw [e1]; rfl)
    | leaf _ hk' _ hn' =>
      exfalso
      have e1 := (List.cons.inj he).1
      have k1 := (isN_open (names := namesG B) (met := met) hn').2.2.2.1 hk'
      rw [← e1] at k1
      exact hk ((isN_open hn).2.2.2.2 k1)
    | @node _ m1' _ nd' ks' s1' s' hg' hk' hn' v1 v2 =>
      rw [List.cons_append, List.cons_append, List.cons.injEq] at he
      obtain ⟨e1, e2⟩ := he
      have hev := open_inj e1
      obtain ⟨t1, t2, t3⟩ := event_inj hn hn' hev.1
      have cl : ∀ {g : List Nd} {n : Nd} (l : List Ev), n.kind ≠ 0 → rightN g n = true → notItem (closeE n :: l) := by
        intro g n l hk hn e l' he
        have h1 := (isN_open (names := []) (met := 0) hn).2.1
        rw [show (n.kind == 0) = false by simpa using hk, Bool.false_and] at h1
        rw [← (List.cons.inj he).1]; exact h1
      rw [List.append_assoc, List.append_assoc, List.cons_append, List.cons_append] at e2
      obtain ⟨i1, i2, i3, i4, i5⟩ := ih1 v1 e2 (cl _ hk hn) (cl _ hk' hn') (by omega) (fun j hj2 => by
        by_cases ej : j = met
        · subst ej; exact hev.2
        · exact hj j (by omega))
      subst i2
      obtain ⟨j1, j2, j3, j4, j5⟩ := ih2 v2 (List.cons.inj i3).2 hr hr' hm i5
      have hnd : nd = nd' := by
        obtain ⟨_, _, _, _⟩ := nd
        obtain ⟨_, _, _, _⟩ := nd'
        simp only at t1 t2 t3 i1
        subst t1; subst t2; subst t3; subst i1; rfl
      subst hnd
      refine ⟨by rw [j1], j2, j3, fun j q1 q2 => ?_, j5⟩
      by_cases ej : j = met
      · subst ej; rw [hg, hg']
      · by_cases e2 : j < m1
        · exact i4 j (by omega) e2
        · exact j4 j (by omega) q2

/-- What is told of two graphs is the same just if their normal forms are. -/
theorem doc_same {a b : List Nd} (ha : rightG a = true) (hb : rightG b = true) : docE a = docE b ↔ normal a = normal b := by
  constructor
  · intro h
    simp only [docE, List.cons.injEq, true_and] at h
    have he : notItem [evE] := fun e l h => by rw [← (List.cons.inj h).1]; rfl
    obtain ⟨_, i2, _, i4, _⟩ := wq_same (normal_right ha) (tell_wq ha).1 (tell_wq hb).1 h he he (Nat.le_refl _) (fun j hj => by omega)
    refine List.ext_getElem? fun j => ?_
    by_cases hj : j < (normal a).length
    · exact i4 j (by omega) hj
    · rw [List.getElem?_eq_none (by omega), List.getElem?_eq_none (by omega)]
  · intro h
    rw [docE, docE, tellG, tellG, h]

end Go.SV
