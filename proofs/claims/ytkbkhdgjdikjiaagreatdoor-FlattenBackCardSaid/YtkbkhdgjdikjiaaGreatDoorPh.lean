/- Plain law: the events of graphs may be. Own text of the prover; nothing is assumed. -/
import Derived.Test.YtkbkhdgjdikjiaaGreatDoorPg
import Derived.Test.YtkbkhdgjdikjiaaGreatDoorLe
set_option maxRecDepth 100000
namespace Go.SV

/-! ### Rows of events that may be -/
def strangeN (r : Int) : Bool := decide ((r < 97 ∨ 122 < r) ∧ (r < 65 ∨ 90 < r) ∧ (r < 48 ∨ 57 < r) ∧ r ≠ 45 ∧ r ≠ 95)
def nameL (s : List UInt8) : Bool := decide (s ≠ []) && (decide (s.length ≤ 40) && !((runes s).any fun x => strangeN x.2))
def rightE (e : Ev) : Bool :=
  if e.kind < 0 ∨ 7 < e.kind ∨ Lib.validD e.text = false then false
  else if e.kind = 7 then nameL e.anchor && (e.tag == [] && (e.text == [] && !e.plain))
  else if isNode e = false then decide (e = ⟨e.kind, [], [], [], false⟩)
  else if e.kind ≠ 6 ∧ (e.text ≠ [] ∨ e.plain = true) then false
  else (e.anchor == [] || nameL e.anchor) && (e.tag == [] || tagRight e.tag)
/-- What is open, the last one first. -/
def nestS (s : List (Int × Nat)) (e : Ev) : Option (List (Int × Nat)) :=
  if e.kind = 0 then (match s with | [] => some [(0, 0)] | _ => none)
  else if e.kind = 1 then (match s with | (k, m) :: r => if k = 0 ∧ m = 1 then some r else none | [] => none)
  else if e.kind = 3 then (match s with | (k, _) :: r => if k = 2 then some r else none | [] => none)
  else if e.kind = 5 then (match s with | (k, m) :: r => if k = 4 ∧ m % 2 = 0 then some r else none | [] => none)
  else match s with
    | [] => none
    | (k, m) :: r => some (if e.kind = 2 ∨ e.kind = 4 then (e.kind, 0) :: (k, m + 1) :: r else (k, m + 1) :: r)
def nestG : List Ev → List (Int × Nat) → Option (List (Int × Nat))
  | [], s => some s
  | e :: l, s => if rightE e = true then (nestS s e).bind (nestG l) else none
def rightEs (l : List Ev) : Bool := decide (nestG l [] = some []) && decide (depthGo l 0 0 ≤ 40)

theorem nameL_anchor {k : Nat} (hk : k < 10 ^ 30) : nameL (anchorN k) = true := by
  have hb : ∀ b ∈ anchorN k, b.toNat = 97 ∨ (48 ≤ b.toNat ∧ b.toNat ≤ 57) := by
    intro b hb
    simp only [anchorN, Lib.itoa, List.mem_cons] at hb
    rw [if_neg (by omega), Int.toNat_natCast] at hb
    rcases hb with rfl | hb
    · exact .inl rfl
    · exact .inr (dec_bytes k k (Nat.le_refl _) b hb)
  have hl : (anchorN k).length ≤ 40 := by
    simp only [anchorN, Lib.itoa, List.length_cons]
    rw [if_neg (by omega), Int.toNat_natCast]
    have := dec_len 29 k hk
    omega
  have hs : ((runes (anchorN k)).any fun x => strangeN x.2) = false := by
    rw [any_rl, rl_asciis (fun b h => by have := hb b h; omega), List.any_eq_false]
    intro x hx
    simp only [List.mem_map] at hx
    obtain ⟨b, h, rfl⟩ := hx
    have := hb b h
    simp only [strangeN, decide_eq_true_eq]
    omega
  unfold nameL
  rw [hs, decide_eq_true hl, decide_eq_true (anchorN_ne k)]
  rfl

theorem name_right {g : List Nd} (hr : rightG g = true) {a : Int} (h0 : 0 ≤ a) (ha : a < g.length) : nameAt (namesG g) a = [] ∨ nameL (nameAt (namesG g) a) = true := by
  rw [name_of hr h0 ha]
  split
  · refine .inr (nameL_anchor ?_)
    have h1 : rk (isNamed g) a.toNat ≤ a.toNat := by unfold rk; exact Nat.le_trans (List.length_filter_le _ _) (by simp)
    have h2 := (rightG_kids hr).1
    have h3 : (2000 : Nat) < 10 ^ 30 := by decide
    omega
  · exact .inl rfl

theorem core_right {t : List UInt8} (h : plain t = true) : tagRight t = true := by
  unfold tagRight core
  simp [h]
theorem own0_right {t : List UInt8} (h : own0 t = true) : tagRight t = true := by
  unfold own0 at h
  simp only [Bool.and_eq_true] at h
  exact h.1

/-- An event of a node that may be may be. -/
theorem open_right {g : List Nd} (hr : rightG g = true) {nd : Nd} {met : Nat} (hm : met < g.length) (hn : rightN g nd = true) : rightE (openE (namesG g) nd met) = true := by
  have hname := name_right hr (a := met) (by omega) (by omega)
  unfold rightN at hn
  split at hn
  · simp at hn
  split at hn
  · rename_i k0
    simp only [Bool.and_eq_true] at hn
    have hf := hn.2.2
    have hft : tagRight nd.tag = true := by
      unfold fits at hf
      split at hf
      · exact core_right (by assumption)
      · simp only [Bool.or_eq_true, beq_iff_eq] at hf
        rcases hf with h | h
        · rw [h]; rfl
        · unfold tagRight; rw [h]; simp
    have he : eventOf nd = if plainT nd.text = true ∧ resolve nd.text = nd.tag then ⟨6, [], [], nd.text, true⟩ else ⟨6, [], unlT nd.tag tStr, nd.text, false⟩ := by
      rw [eventOf, if_neg (by omega), if_neg (by omega), if_pos k0]
    have hu : (unlT nd.tag tStr == [] || tagRight (unlT nd.tag tStr)) = true := by
      unfold unlT
      split
      · rfl
      · rw [hft]; simp
    by_cases hp : plainT nd.text = true ∧ resolve nd.text = nd.tag
    · rw [openE, he, if_pos hp]
      simp [rightE, nameEv, isNode, hn.2.1, hname]
    · rw [openE, he, if_neg hp]
      simp only [Bool.or_eq_true, beq_iff_eq] at hu
      simp [rightE, nameEv, isNode, hn.2.1, hu, hname]
  · split at hn
    · rename_i k1
      simp only [Bool.and_eq_true, Bool.or_eq_true, beq_iff_eq] at hn
      have he : eventOf nd = ⟨2, [], unlT nd.tag tSeq, [], false⟩ := by rw [eventOf, if_pos k1]
      have hu : unlT nd.tag tSeq = [] ∨ tagRight (unlT nd.tag tSeq) = true := by
        unfold unlT
        split
        · exact .inl rfl
        · rename_i hne
          exact .inr (own0_right (hn.1.resolve_right hne))
      have hv : Lib.validD [] = true := rfl
      rw [openE, he]
      simp [rightE, nameEv, isNode, hv, hu, hname]
    · split at hn
      · rename_i k2
        split at hn
        · simp at hn
        · simp only [Bool.and_eq_true, Bool.or_eq_true, beq_iff_eq] at hn
          have he : eventOf nd = ⟨4, [], unlT nd.tag tMap, [], false⟩ := by rw [eventOf, if_neg (by omega), if_pos k2]
          have hu : unlT nd.tag tMap = [] ∨ tagRight (unlT nd.tag tMap) = true := by
            unfold unlT
            split
            · exact .inl rfl
            · rename_i hne
              exact .inr (own0_right (hn.1.resolve_right hne))
          have hv : Lib.validD [] = true := rfl
          rw [openE, he]
          simp [rightE, nameEv, isNode, hv, hu, hname]
      · simp at hn

theorem alias_right {g : List Nd} (hr : rightG g = true) {a : Int} (h0 : 0 ≤ a) (ha : a < g.length) (hn : isNamed g a.toNat = true) : rightE (aliasE (namesG g) a) = true := by
  have hne : nameAt (namesG g) a ≠ [] := by rw [name_of hr h0 ha, if_pos hn]; exact anchorN_ne _
  have h := (name_right hr h0 ha).resolve_left hne
  have hv : Lib.validD [] = true := rfl
  simp [rightE, aliasE, hv, h]

theorem close_right {nd : Nd} (h : nd.kind = 1 ∨ nd.kind = 2) : rightE (closeE nd) = true ∧ (closeE nd).kind = if nd.kind = 1 then 3 else 5 := by
  have hv : Lib.validD [] = true := rfl
  rcases kind_of (nd := nd) (.inr h) with k | k | k
  · omega
  · simp [closeE, k.1, k.2, rightE, hv, isNode]
  · simp [closeE, k.1, k.2, rightE, hv, isNode]

theorem nest_item {e : Ev} (hk : e.kind = 7 ∨ e.kind = 6) (k : Int) (m : Nat) (r : List (Int × Nat)) : nestS ((k, m) :: r) e = some ((k, m + 1) :: r) := by
  unfold nestS
  rw [if_neg (by omega), if_neg (by omega), if_neg (by omega), if_neg (by omega)]
  simp only []
  rw [if_neg (by omega)]

theorem nest_step {e : Ev} (h : rightE e = true) (l : List Ev) (s : List (Int × Nat)) : nestG (e :: l) s = (nestS s e).bind (nestG l) := by rw [nestG, if_pos h]

theorem wq_nest {g : List Nd} (hr : rightG g = true) {met m : Nat} {ks : List Int} {s : List Ev} (w : Wq g met ks m s) : m ≤ g.length → ∀ (rest : List Ev) (k : Int) (n : Nat) (st : List (Int × Nat)),
    nestG (s ++ rest) ((k, n) :: st) = nestG rest ((k, n + ks.length) :: st) := by
  induction w with
  | nil met => intro _ rest k n st; rfl
  | @alias met m a ks s h0 h1 hn w ih =>
    intro hm rest k n st
    have := wq_le w
    rw [List.cons_append, nest_step (alias_right hr h0 (by omega) hn), nest_item (.inl rfl), Option.bind_some, ih hm]
    simp only [List.length_cons]
    congr 3
    omega
  | @leaf met m nd ks s hnd hk0 hkn hN w ih =>
    intro hm rest k n st
    have hk := kind_of (kinds_right hN)
    have h6 : (openE (namesG g) nd met).kind = 6 := by
      have : (openE (namesG g) nd met).kind = (eventOf nd).kind := rfl
      omega
    rw [List.cons_append, nest_step (open_right hr (getElem?_lt hnd) hN), nest_item (.inr h6), Option.bind_some, ih hm]
    simp only [List.length_cons]
    congr 3
    omega
  | @node met m1 m nd ks s1 s hnd hk0 hN w1 w2 ih1 ih2 =>
    intro hm rest k n st
    have hk := kind_of (kinds_right hN)
    have hkk := kinds_right hN
    have hke : (openE (namesG g) nd met).kind = (eventOf nd).kind := rfl
    have := wq_le w2
    obtain ⟨c1, c2⟩ := close_right (nd := nd) (by omega)
    have hop : nestS ((k, n) :: st) (openE (namesG g) nd met) = some (((eventOf nd).kind, 0) :: (k, n + 1) :: st) := by
      unfold nestS
      rw [hke, if_neg (by omega), if_neg (by omega), if_neg (by omega), if_neg (by omega)]
      simp only []
      rw [if_pos (by omega)]
    have hcl : nestS (((eventOf nd).kind, 0 + nd.kids.length) :: (k, n + 1) :: st) (closeE nd) = some ((k, n + 1) :: st) := by
      unfold nestS
      rcases hk with h | h | h
      · omega
      · rw [if_pos h.1] at c2
        rw [c2, if_neg (by decide), if_neg (by decide), if_pos rfl]
        simp only []
        rw [if_pos h.2]
      · rw [if_neg (by omega)] at c2
        rw [c2, if_neg (by decide), if_neg (by decide), if_neg (by decide), if_pos rfl]
        simp only []
        rw [if_pos ⟨h.2, by rw [Nat.zero_add]; exact rightN_even hN h.1⟩]
    rw [List.cons_append, nest_step (open_right hr (getElem?_lt hnd) hN), hop, Option.bind_some, List.append_assoc, ih1 (by omega), List.cons_append, nest_step c1, hcl, Option.bind_some, ih2 hm]
    simp only [List.length_cons]
    congr 3
    omega

theorem doc_nest {g : List Nd} (hr : rightG g = true) (rest : List Ev) : nestG (docE g ++ rest) [] = nestG rest [] := by
  have hn := normal_right hr
  obtain ⟨w, _⟩ := tell_wq hr
  have hb : rightE evB = true := by kernel_rfl
  have he : rightE evE = true := by kernel_rfl
  have h1 : nestS [] evB = some [(0, 0)] := rfl
  have h2 : nestS [(0, 0 + [(0 : Int)].length)] evE = some [] := rfl
  rw [docE, List.cons_append, nest_step hb, h1, Option.bind_some, List.append_assoc, wq_nest hn w (Nat.le_refl _), List.cons_append, List.nil_append, nest_step he, h2, Option.bind_some]

theorem docs_nest : ∀ (l : List (List Nd)), (∀ g ∈ l, rightG g = true) → nestG (l.flatMap docE) [] = some [] := by
  intro l
  induction l with
  | nil => intro _; rfl
  | cons g l ih =>
    intro h
    rw [List.flatMap_cons, doc_nest (h g (by simp)), ih (fun g hg => h g (by simp [hg]))]

theorem doc_deep {g : List Nd} (hr : rightG g = true) (M : Int) (hM : 0 ≤ M) (rest : List Ev) : depthGo (docE g ++ rest) 0 M = depthGo rest 0 (max M (tellG g).most) := by
  obtain ⟨h, w, hm⟩ := tell_wk hr
  have e1 : dStep 0 evB.kind = 0 := rfl
  have e2 : dStep 0 evE.kind = 0 := rfl
  rw [docE, List.cons_append, depthGo, e1, show max M (0 : Int) = M by omega, List.append_assoc, wk_depth (normal_kinds hr) w 0 M _ hM, List.cons_append, List.nil_append, depthGo, e2, hm]
  congr 1
  omega

theorem docs_deep : ∀ (l : List (List Nd)) (M : Int), 0 ≤ M → M ≤ 40 → (∀ g ∈ l, rightG g = true ∧ (tellG g).most ≤ 40) → depthGo (l.flatMap docE) 0 M ≤ 40 := by
  intro l
  induction l with
  | nil => intro M _ h _; exact h
  | cons g l ih =>
    intro M h0 hM h
    obtain ⟨h1, h2⟩ := h g (by simp)
    rw [List.flatMap_cons, doc_deep h1 M h0]
    exact ih _ (by omega) (by omega) (fun g hg => h g (by simp [hg]))

/-- Events that are told of graphs may be. -/
theorem docs_right (l : List (List Nd)) (h : ∀ g ∈ l, rightG g = true ∧ (tellG g).most ≤ 40) : rightEs (l.flatMap docE) = true := by
  unfold rightEs
  rw [docs_nest l fun g hg => (h g hg).1, decide_eq_true (docs_deep l 0 (by omega) (by omega) h)]
  rfl

end Go.SV
