/- Plain law: a graph's events compose to its normal form. Own text of the prover; nothing is assumed. -/
import Derived.Test.YtkbkhdgjdikjiaaGreatDoorPe
set_option maxRecDepth 100000
namespace Go.SV

/-! ### What is read of a document -/
structure Dc where
  g : List Nd
  op : List Int
  nm : List UInt8 → Option Int

def addKid (a : Int) (n : Nd) : Nd := ⟨n.kind, n.tag, n.text, n.kids ++ [a]⟩
def kidD (d : Dc) (a : Int) : Dc × Int := match d.op.getLast? with
  | none => (d, 0)
  | some o => match d.g[o.toNat]? with
    | none => (d, 0)
    | some n => if n.kind = 2 ∧ n.kids.length % 2 = 0 ∧ kindAt d.g a ≠ 0 then (d, 5) else (⟨d.g.modify o.toNat (addKid a), d.op, d.nm⟩, 0)
def kindE (k : Int) : Int := if k = 2 then 1 else if k = 4 then 2 else 0
def setNm (f : List UInt8 → Option Int) (k : List UInt8) (v : Int) : List UInt8 → Option Int := fun x => if x = k then some v else f x
def newD (d : Dc) (e : Ev) : Dc := ⟨d.g ++ [⟨kindE e.kind, (tagOf e).1, e.text, []⟩], d.op, if e.anchor = [] then d.nm else setNm d.nm e.anchor d.g.length⟩
def opnD (d : Dc) (k : Int) (a : Int) : Dc := if k = 0 then d else ⟨d.g, d.op ++ [a], d.nm⟩
def nodeD (d : Dc) (e : Ev) : Dc × Int :=
  if 2000 ≤ d.g.length then (d, 16)
  else if (tagOf e).2 ≠ 0 then (d, (tagOf e).2)
  else (opnD (kidD (newD d e) d.g.length).1 (kindE e.kind) d.g.length, (kidD (newD d e) d.g.length).2)
def takeD (d : Dc) (e : Ev) : Dc × Bool × Int :=
  if e.kind = 0 then (⟨[], [], fun _ => none⟩, false, 0)
  else if e.kind = 1 then (if twice d.g = true then (d, false, 12) else (d, true, 0))
  else if e.kind = 3 ∨ e.kind = 5 then (⟨d.g, d.op.dropLast, d.nm⟩, false, 0)
  else if e.kind = 7 then (match d.nm e.anchor with
    | none => (d, false, 11)
    | some a => ((kidD d a).1, false, (kidD d a).2))
  else ((nodeD d e).1, false, (nodeD d e).2)
def composeF : List Ev → Dc → List (List Nd) → List (List Nd) × Int
  | [], _, out => (out, 0)
  | e :: l, d, out => if (takeD d e).2.2 ≠ 0 then ([], (takeD d e).2.2) else composeF l (takeD d e).1 (if (takeD d e).2.1 = true then out ++ [(takeD d e).1.g] else out)

theorem comp_step {d d' : Dc} {e : Ev} {l : List Ev} {out : List (List Nd)} (h : takeD d e = (d', false, 0)) : composeF (e :: l) d out = composeF l d' out := by
  simp [composeF, h]

theorem kid_par {d : Dc} {o : Nat} {n : Nd} {a : Int} (ho : d.op.getLast? = some (o : Int)) (hn : d.g[o]? = some n) (hk : n.kind = 2 → n.kids.length % 2 = 0 → kindAt d.g a = 0) :
    kidD d a = (⟨d.g.modify o (addKid a), d.op, d.nm⟩, 0) := by
  unfold kidD
  rw [ho]
  simp only [Int.toNat_natCast, hn]
  rw [if_neg]
  rintro ⟨h1, h2, h3⟩
  exact h3 (hk h1 h2)

theorem mod_kind {l : List Nd} {o : Nat} {a : Int} (i : Int) : kindAt (l.modify o (addKid a)) i = kindAt l i := by
  unfold kindAt
  rw [modGet]
  split
  · cases l[i.toNat]? <;> rfl
  · rfl

theorem evens_at : ∀ (n : Nat) (pre : List Int) (a : Int) (l : List Int), pre.length = 2 * n → a ∈ evens (pre ++ a :: l) := by
  intro n
  induction n with
  | zero =>
    intro pre a l h
    have : pre = [] := List.eq_nil_of_length_eq_zero (by omega)
    subst this
    cases l <;> simp [evens]
  | succ n ih =>
    intro pre a l h
    obtain ⟨x, y, pre, rfl⟩ : ∃ x y p, pre = x :: y :: p := by
      match pre, h with
      | x :: y :: p, _ => exact ⟨x, y, p, rfl⟩
      | [x], h => simp at h; omega
      | [], h => simp at h
    simp only [List.cons_append, evens, List.mem_cons]
    exact .inr (ih pre a l (by simp at h; omega))

theorem rightN_key {g : List Nd} {n : Nd} (h : rightN g n = true) (h2 : n.kind = 2) {a : Int} (ha : a ∈ evens n.kids) : kindAt g a = 0 := by
  unfold rightN at h
  rw [if_neg (show ¬ n.kind = 0 by omega), if_neg (show ¬ n.kind = 1 by omega), if_pos h2] at h
  split at h
  · simp at h
  · split at h
    · simp at h
    · rename_i h3
      have h4 : (evens n.kids).any (fun i => !(kindAt g i == 0)) = false := by
        rw [Bool.eq_false_iff]; exact fun e => h3 (.inr e)
      rw [List.any_eq_false] at h4
      have := h4 a ha
      simpa using this
theorem rightN_even {g : List Nd} {n : Nd} (h : rightN g n = true) (h2 : n.kind = 2) : n.kids.length % 2 = 0 := by
  unfold rightN at h
  rw [if_neg (show ¬ n.kind = 0 by omega), if_neg (show ¬ n.kind = 1 by omega), if_pos h2] at h
  split at h
  · simp at h
  · split at h
    · simp at h
    · rename_i h3
      exact Classical.byContradiction fun e => h3 (.inl e)

theorem one_right {g : List Nd} {n : Nd} (hn : rightN g n = true) : rightG [{ n with kids := [] }] = true := by
  have h1 : rightN [{ n with kids := [] }] { n with kids := [] } = true := by
    unfold rightN at hn ⊢
    split at hn
    · simp at hn
    · rw [if_neg (by simp)]
      split at hn
      · rename_i k0
        rw [if_pos k0]
        simp only [Bool.and_eq_true] at hn ⊢
        exact ⟨by simp, hn.2⟩
      · rename_i k0
        rw [if_neg k0]
        split at hn
        · rename_i k1; rw [if_pos k1]; exact hn
        · rename_i k1
          rw [if_neg k1]
          split at hn
          · rename_i k2
            rw [if_pos k2]
            split at hn
            · simp at hn
            · rw [if_neg (by simp [evens])]; exact hn
          · simp at hn
  have h2 : twice [{ n with kids := [] }] = false := by
    simp [twice, twN, evens]
  simp [rightG, h1, h2]

theorem kinds_right {g : List Nd} {n : Nd} (h : rightN g n = true) : n.kind = 0 ∨ n.kind = 1 ∨ n.kind = 2 := by
  rcases rightN_kinds h with h | h | h
  · exact .inl h.1
  · exact .inr (.inl h.1)
  · exact .inr (.inr h.1)

theorem named_tag (e : Ev) (a : List UInt8) : tagOf (nameEv e a) = tagOf e := rfl

/-- A node's event is taken as the node, but its kids. -/
theorem take_open {g : List Nd} {nd : Nd} {met : Nat} (hn : rightN g nd = true) (d : Dc) (hd : d.g.length = met) (hl : met < 2000) :
    takeD d (openE (namesG g) nd met) = (let r := kidD ⟨d.g ++ [⟨nd.kind, nd.tag, nd.text, []⟩], d.op, if nameAt (namesG g) met = [] then d.nm else setNm d.nm (nameAt (namesG g) met) met⟩ met; (opnD r.1 nd.kind met, false, r.2)) := by
  have p := plainlaw_tag nd (one_right hn)
  have hk := kind_of (kinds_right hn)
  have hkind : (openE (namesG g) nd met).kind = (eventOf nd).kind := rfl
  have htag : tagOf (openE (namesG g) nd met) = (nd.tag, 0) := by rw [openE, named_tag]; exact p.1
  have htx : (openE (namesG g) nd met).text = nd.text := p.2.1
  have han : (openE (namesG g) nd met).anchor = nameAt (namesG g) met := rfl
  have hke : kindE (openE (namesG g) nd met).kind = nd.kind := by
    rw [hkind]; unfold kindE
    rcases hk with h | h | h <;> rw [h.1, h.2] <;> rfl
  unfold takeD
  have n0 : ¬ (openE (namesG g) nd met).kind = 0 := by rw [hkind]; omega
  have n1 : ¬ (openE (namesG g) nd met).kind = 1 := by rw [hkind]; omega
  have n3 : ¬ ((openE (namesG g) nd met).kind = 3 ∨ (openE (namesG g) nd met).kind = 5) := by rw [hkind]; omega
  have n7 : ¬ (openE (namesG g) nd met).kind = 7 := by rw [hkind]; omega
  rw [if_neg n0, if_neg n1, if_neg n3, if_neg n7]
  have hnode : nodeD d (openE (namesG g) nd met) = (opnD (kidD (newD d (openE (namesG g) nd met)) d.g.length).1 nd.kind d.g.length, (kidD (newD d (openE (namesG g) nd met)) d.g.length).2) := by
    unfold nodeD
    rw [if_neg (by omega), htag, if_neg (by simp), hke]
  have hnew : newD d (openE (namesG g) nd met) = ⟨d.g ++ [⟨nd.kind, nd.tag, nd.text, []⟩], d.op, if nameAt (namesG g) met = [] then d.nm else setNm d.nm (nameAt (namesG g) met) met⟩ := by
    unfold newD
    rw [hke, htag, htx, han, hd]
  rw [hnode, hnew, hd]

theorem take_close {nd : Nd} (h : nd.kind = 1 ∨ nd.kind = 2) (d : Dc) : takeD d (closeE nd) = (⟨d.g, d.op.dropLast, d.nm⟩, false, 0) := by
  have hk := kind_of (nd := nd) (.inr h)
  have hc : (closeE nd).kind = (eventOf nd).kind + 1 := rfl
  unfold takeD
  rw [if_neg (by omega), if_neg (by omega), if_pos (by omega)]

theorem get_snoc_mod {l : List Nd} {n : Nd} {o : Nat} {a : Int} (ho : o < l.length) (i : Nat) :
    ((l ++ [n]).modify o (addKid a))[i]? = if i = o then (l[o]?).map (addKid a) else if i = l.length then some n else l[i]? := by
  rw [modGet]
  by_cases h : o = i
  · subst h
    rw [if_pos rfl, if_pos rfl, List.getElem?_append_left ho]
  · rw [if_neg h, if_neg (fun e => h e.symm)]
    rcases Nat.lt_trichotomy i l.length with h1 | h1 | h1
    · rw [List.getElem?_append_left h1, if_neg (by omega)]
    · subst h1; rw [if_pos rfl]; simp
    · rw [if_neg (by omega), List.getElem?_eq_none (by simp; omega), List.getElem?_eq_none (by omega)]

theorem nm_new {g : List Nd} (hr : rightG g = true) {met : Nat} (hm : met < g.length) {f : List UInt8 → Option Int} (hf : ∀ i : Nat, i < met → isNamed g i = true → f (nameAt (namesG g) i) = some (i : Int)) :
    ∀ i : Nat, i < met + 1 → isNamed g i = true → (if nameAt (namesG g) met = [] then f else setNm f (nameAt (namesG g) met) met) (nameAt (namesG g) i) = some (i : Int) := by
  intro i hi hn
  by_cases he : nameAt (namesG g) met = []
  · rw [if_pos he]
    have hne : i ≠ met := by
      rintro rfl
      rw [name_of hr (by omega) (by omega), Int.toNat_natCast, if_pos hn] at he
      exact anchorN_ne _ he
    exact hf i (by omega) hn
  · rw [if_neg he, setNm]
    by_cases hi2 : i = met
    · subst hi2; rw [if_pos rfl]
    · rw [if_neg]
      · exact hf i (by omega) hn
      · intro e
        have := name_inj hr (a := i) (b := met) (by omega) (by omega) (by omega) (by omega) (by rw [Int.toNat_natCast]; exact hn) e
        omega

theorem kindAt_some {l : List Nd} {i : Nat} {n : Nd} (h : l[i]? = some n) : kindAt l (i : Int) = n.kind := by
  simp [kindAt, h]

/-- What is asked ahead of kids, and what holds behind them. -/
structure CIn (g : List Nd) (d : Dc) (met o : Nat) (no : Nd) (pre : List Int) : Prop where
  op : d.op.getLast? = some (o : Int)
  len : d.g.length = met
  pl : d.g[o]? = some ⟨no.kind, no.tag, no.text, pre⟩
  kinds : ∀ i : Nat, i < met → kindAt d.g i = kindAt g i
  nms : ∀ i : Nat, i < met → isNamed g i = true → d.nm (nameAt (namesG g) i) = some (i : Int)

theorem CIn.lt {g : List Nd} {d : Dc} {met o : Nat} {no : Nd} {pre : List Int} (h : CIn g d met o no pre) : o < met := by
  rcases Nat.lt_or_ge o d.g.length with h1 | h1
  · rw [h.len] at h1; exact h1
  · have := h.pl; rw [List.getElem?_eq_none h1] at this; simp at this

/-- One kid more of the last one that is open. -/
theorem CIn.kid {g : List Nd} {d : Dc} {met o : Nat} {no : Nd} {pre post : List Int} {a : Int} (h : CIn g d met o no pre) (hno : rightN g no = true) (hks : no.kids = pre ++ a :: post) (ha : 0 ≤ a) (hlt : a < met) :
    kidD d a = (⟨d.g.modify o (addKid a), d.op, d.nm⟩, 0) ∧ CIn g ⟨d.g.modify o (addKid a), d.op, d.nm⟩ met o no (pre ++ [a]) := by
  refine ⟨kid_par h.op h.pl fun h2 he => ?_, ⟨h.op, by simp [h.len], ?_, fun i hi => by rw [mod_kind]; exact h.kinds i hi, h.nms⟩⟩
  · have := h.kinds a.toNat (by omega)
    rw [show ((a.toNat : Nat) : Int) = a by omega] at this
    rw [this]
    exact rightN_key hno h2 (by rw [hks]; exact evens_at (pre.length / 2) _ _ _ (by simp only at he; omega))
  · show (d.g.modify o (addKid a))[o]? = _
    rw [modGet, if_pos rfl, h.pl]; rfl

/-- A new node that is a kid of the last one that is open. -/
theorem CIn.new {g : List Nd} (hr : rightG g = true) {d : Dc} {met o : Nat} {no nd : Nd} {pre post : List Int} (h : CIn g d met o no pre) (hno : rightN g no = true) (hks : no.kids = pre ++ (met : Int) :: post) (hnd : g[met]? = some nd) :
    ∃ d1, takeD d (openE (namesG g) nd met) = (opnD d1 nd.kind met, false, 0) ∧ CIn g d1 (met + 1) o no (pre ++ [(met : Int)]) ∧ d1.op = d.op ∧ d1.g[met]? = some ⟨nd.kind, nd.tag, nd.text, []⟩ ∧ ∀ i, i < met → i ≠ o → d1.g[i]? = d.g[i]? := by
  have hml : met < g.length := getElem?_lt hnd
  have hgl := (rightG_kids hr).1
  have hN := right_nodes hr nd (List.mem_of_getElem? hnd)
  have ho := h.lt
  have ht := take_open hN d h.len (met := met) (by omega)
  have hc : CIn g ⟨d.g ++ [⟨nd.kind, nd.tag, nd.text, []⟩], d.op, if nameAt (namesG g) met = [] then d.nm else setNm d.nm (nameAt (namesG g) met) met⟩ (met + 1) o no pre := by
    refine ⟨h.op, by simp [h.len], ?_, fun i hi => ?_, nm_new hr hml h.nms⟩
    · show (d.g ++ _)[o]? = _
      rw [List.getElem?_append_left (by rw [h.len]; exact ho)]; exact h.pl
    · show kindAt (d.g ++ _) i = _
      by_cases hi2 : i = met
      · subst hi2
        rw [kindAt_some hnd, kindAt_some (n := ⟨nd.kind, nd.tag, nd.text, []⟩) (by rw [List.getElem?_append_right (by rw [h.len]; exact Nat.le_refl _), h.len]; simp)]
      · rw [← h.kinds i (by omega)]
        unfold kindAt
        rw [Int.toNat_natCast, List.getElem?_append_left (by rw [h.len]; omega)]
  obtain ⟨k1, k2⟩ := hc.kid hno hks (by omega) (by omega)
  refine ⟨_, ?_, k2, rfl, ?_, fun i hi hne => ?_⟩
  · rw [ht]
    simp only [k1]
  · show ((d.g ++ _).modify o (addKid met))[met]? = _
    rw [get_snoc_mod (by rw [h.len]; exact ho), if_neg (by omega), if_pos h.len.symm]
  · show ((d.g ++ _).modify o (addKid met))[i]? = _
    rw [get_snoc_mod (by rw [h.len]; exact ho), if_neg hne, if_neg (by rw [h.len]; omega)]

theorem wq_comp {g : List Nd} (hr : rightG g = true) {met m : Nat} {ks : List Int} {s : List Ev} (w : Wq g met ks m s) : ∀ (d : Dc) (o : Nat) (no : Nd) (pre post : List Int), CIn g d met o no pre → rightN g no = true → no.kids = pre ++ (ks ++ post) → 
    ∃ d', (∀ rest out, composeF (s ++ rest) d out = composeF rest d' out) ∧ d'.op = d.op ∧ CIn g d' m o no (pre ++ ks) ∧ (∀ i, i < met → i ≠ o → d'.g[i]? = d.g[i]?) ∧ (∀ i, met ≤ i → i < m → d'.g[i]? = g[i]?) := by
  induction w with
  | nil met =>
    intro d o no pre post h _ _
    exact ⟨d, fun _ _ => rfl, rfl, by rw [List.append_nil]; exact h, fun _ _ _ => rfl, fun i h1 h2 => by omega⟩
  | @alias met m a ks s h0 h1 hn _ ih =>
    intro d o no pre post h hno hk
    rw [List.cons_append] at hk
    obtain ⟨k1, k2⟩ := h.kid hno hk h0 (by omega)
    have hnm := h.nms a.toNat (by omega) hn
    rw [show ((a.toNat : Nat) : Int) = a by omega] at hnm
    have ht : takeD d (aliasE (namesG g) a) = (⟨d.g.modify o (addKid a), d.op, d.nm⟩, false, 0) := by
      have e1 : (aliasE (namesG g) a).kind = 7 := rfl
      have e2 : (aliasE (namesG g) a).anchor = nameAt (namesG g) a := rfl
      unfold takeD
      rw [e1, e2, if_neg (by decide), if_neg (by decide), if_neg (by decide), if_pos rfl, hnm]
      simp only [k1]
    obtain ⟨d', c1, c2, c3, c4, c5⟩ := ih _ o no (pre ++ [a]) post k2 hno (by rw [hk]; simp)
    refine ⟨d', fun rest out => ?_, c2, by simpa using c3, fun i hi hne => ?_, c5⟩
    · rw [List.cons_append, comp_step ht]; exact c1 rest out
    · rw [c4 i hi hne]
      show (d.g.modify o (addKid a))[i]? = _
      rw [modGet, if_neg (fun e => hne e.symm)]
  | @leaf met m nd ks s hnd hk0 hkn _ _ ih =>
    intro d o no pre post h hno hk
    rw [List.cons_append] at hk
    obtain ⟨d1, t1, t2, t3, t4, t5⟩ := h.new hr hno hk hnd
    have ho := h.lt
    rw [opnD, if_pos hk0] at t1
    obtain ⟨d', c1, c2, c3, c4, c5⟩ := ih d1 o no (pre ++ [(met : Int)]) post t2 hno (by rw [hk]; simp)
    refine ⟨d', fun rest out => ?_, c2.trans t3, by simpa using c3, fun i hi hne => ?_, fun i h1 h2 => ?_⟩
    · rw [List.cons_append, comp_step t1]; exact c1 rest out
    · rw [c4 i (by omega) hne, t5 i hi hne]
    · by_cases hi : i = met
      · subst hi
        rw [c4 i (by omega) (by omega), t4, hnd, ← hkn]
      · exact c5 i (by omega) h2
  | @node met m1 m nd ks s1 s hnd hk0 hN w1 w2 ih1 ih2 =>
    intro d o no pre post h hno hk
    rw [List.cons_append] at hk
    obtain ⟨d1, t1, t2, t3, t4, t5⟩ := h.new hr hno hk hnd
    have ho := h.lt
    rw [opnD, if_neg hk0] at t1
    have hin : CIn g ⟨d1.g, d1.op ++ [(met : Int)], d1.nm⟩ (met + 1) met nd [] := ⟨by simp, t2.len, t4, t2.kinds, t2.nms⟩
    obtain ⟨d2, c1, c2, c3, c4, c5⟩ := ih1 _ met nd [] [] hin hN (by simp)
    have hcl := take_close (nd := nd) (by have := kinds_right hN; omega) d2
    have hm1 := wq_le w1
    have hin2 : CIn g ⟨d2.g, d2.op.dropLast, d2.nm⟩ m1 o no (pre ++ [(met : Int)]) := by
      refine ⟨?_, c3.len, ?_, c3.kinds, c3.nms⟩
      · show d2.op.dropLast.getLast? = _
        rw [c2]; simp only [List.dropLast_concat]; exact t2.op
      · show d2.g[o]? = _
        rw [c4 o (by omega) (by omega)]; exact t2.pl
    obtain ⟨d', e1, e2, e3, e4, e5⟩ := ih2 _ o no (pre ++ [(met : Int)]) post hin2 hno (by rw [hk]; simp)
    refine ⟨d', fun rest out => ?_, ?_, by simpa using e3, fun i hi hne => ?_, fun i h1 h2 => ?_⟩
    · rw [List.cons_append, comp_step t1, List.append_assoc, c1, List.cons_append, comp_step hcl]; exact e1 rest out
    · rw [e2]
      show d2.op.dropLast = _
      rw [c2]; simp only [List.dropLast_concat]; exact t3
    · rw [e4 i (by omega) hne]
      show d2.g[i]? = _
      rw [c4 i (by omega) (by omega)]
      exact t5 i hi hne
    · by_cases hi : i = met
      · subst hi
        rw [e4 i (by omega) (by omega)]
        show d2.g[i]? = _
        rw [c3.pl, hnd, List.nil_append]
      · by_cases hi1 : i < m1
        · rw [e4 i hi1 (by omega)]
          exact c5 i (by omega) hi1
        · exact e5 i (by omega) h2

/-- A document's events compose to the graph's normal form. -/
theorem doc_comp {g : List Nd} (hr : rightG g = true) (d : Dc) : ∃ d', ∀ rest out, composeF (docE g ++ rest) d out = composeF rest d' (out ++ [normal g]) := by
  have hn := normal_right hr
  obtain ⟨w, _⟩ := tell_wq hr
  have hb : takeD d evB = (⟨[], [], fun _ => none⟩, false, 0) := rfl
  have hend : ∀ d' : Dc, d'.g = normal g → ∀ rest out, composeF (evE :: rest) d' out = composeF rest d' (out ++ [normal g]) := by
    intro d' hg rest out
    have ht : twice (normal g) = false := by
      simp only [rightG, Bool.and_eq_true, Bool.not_eq_true'] at hn
      exact hn.2.2
    have he : takeD d' evE = (d', true, 0) := by
      unfold takeD
      have e1 : evE.kind = 1 := rfl
      rw [e1, if_neg (by decide), if_pos rfl, hg, ht]; rfl
    rw [composeF, he]
    simp [hg]
  have hgl := (rightG_kids hn).1
  have top : ∀ {met m : Nat} {ks : List Int} {s : List Ev}, Wq (normal g) met ks m s → met = 0 → ks = [0] → m = (normal g).length → ∃ d', (∀ rest out, composeF (s ++ rest) ⟨[], [], fun _ => none⟩ out = composeF rest d' out) ∧ d'.g = normal g := by
    intro met m ks s w h0 hk hm
    have nonms : ∀ i : Nat, i < 0 → isNamed (normal g) i = true → (fun _ => none : List UInt8 → Option Int) (nameAt (namesG (normal g)) i) = some (i : Int) := fun i hi => by omega
    cases w with
    | nil => simp at hk
    | alias a1 a2 => subst h0; simp at hk; omega
    | @leaf _ _ nd ks s hnd hk0 hkn hN w1 =>
      subst h0
      simp only [List.cons.injEq] at hk
      rw [hk.2] at w1
      cases w1 with
      | nil =>
        have ht := take_open (g := normal g) hN ⟨[], [], fun _ => none⟩ (met := 0) rfl (by omega)
        simp only [kidD, List.getLast?_nil, opnD, if_pos hk0] at ht
        refine ⟨⟨[⟨nd.kind, nd.tag, nd.text, []⟩], [], if nameAt (namesG (normal g)) ((0 : Nat) : Int) = [] then fun _ => none else setNm (fun _ => none) (nameAt (namesG (normal g)) ((0 : Nat) : Int)) ((0 : Nat) : Int)⟩, fun rest out => ?_, ?_⟩
        · rw [List.cons_append, comp_step ht]; rfl
        · show [] ++ [_] = _
          apply List.ext_getElem?
          intro i
          cases i with
          | zero =>
            show some (⟨nd.kind, nd.tag, nd.text, []⟩ : Nd) = _
            rw [hnd, ← hkn]
          | succ i => rw [List.getElem?_eq_none (by simp), List.getElem?_eq_none (by omega)]
    | @node _ m1 _ nd ks s1 s hnd hk0 hN w1 w2 =>
      subst h0
      simp only [List.cons.injEq] at hk
      rw [hk.2] at w2
      cases w2 with
      | nil =>
        have ht := take_open (g := normal g) hN ⟨[], [], fun _ => none⟩ (met := 0) rfl (by omega)
        simp only [kidD, List.getLast?_nil, opnD, if_neg hk0, List.nil_append] at ht
        have hin : CIn (normal g) ⟨[⟨nd.kind, nd.tag, nd.text, []⟩], [((0 : Nat) : Int)], if nameAt (namesG (normal g)) ((0 : Nat) : Int) = [] then fun _ => none else setNm (fun _ => none) (nameAt (namesG (normal g)) ((0 : Nat) : Int)) ((0 : Nat) : Int)⟩ 1 0 nd [] := by
          refine ⟨rfl, rfl, rfl, fun i hi => ?_, nm_new hn (by omega) nonms⟩
          have : i = 0 := by omega
          subst this
          rw [kindAt_some hnd]; rfl
        obtain ⟨d2, c1, c2, c3, c4, c5⟩ := wq_comp hn w1 _ 0 nd [] [] hin hN (by simp)
        have hcl := take_close (nd := nd) (by have := kinds_right hN; omega) d2
        refine ⟨⟨d2.g, d2.op.dropLast, d2.nm⟩, fun rest out => ?_, ?_⟩
        · rw [List.cons_append, comp_step ht, List.append_assoc, c1, List.cons_append, comp_step hcl]; rfl
        · apply List.ext_getElem?
          intro i
          show d2.g[i]? = _
          by_cases h0 : i = 0
          · subst h0
            rw [c3.pl, hnd, List.nil_append]
          · by_cases h1 : i < (normal g).length
            · exact c5 i (by omega) (by omega)
            · have hl := c3.len
              rw [List.getElem?_eq_none (by omega), List.getElem?_eq_none (by omega)]
  obtain ⟨d', c1, c2⟩ := top w rfl rfl rfl
  refine ⟨d', fun rest out => ?_⟩
  rw [docE, List.cons_append, comp_step hb, List.append_assoc, c1]
  exact hend d' c2 rest out

theorem docs_comp : ∀ (l : List (List Nd)) (d : Dc) (out : List (List Nd)), (∀ g ∈ l, rightG g = true) → composeF (l.flatMap docE) d out = (out ++ l.map normal, 0) := by
  intro l
  induction l with
  | nil => intro d out _; simp [composeF]
  | cons g l ih =>
    intro d out h
    obtain ⟨d', hd⟩ := doc_comp (h g (by simp)) d
    rw [List.flatMap_cons, hd, ih d' _ (fun g hg => h g (by simp [hg]))]
    simp

end Go.SV
