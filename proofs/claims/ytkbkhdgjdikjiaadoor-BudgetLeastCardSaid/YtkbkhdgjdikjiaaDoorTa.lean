/- Rows of what stands for values, rows that grow, new cells, functions made: rules for formulas. Own text of the prover; nothing is assumed. -/
import Derived.Test.YtkbkhdgjdikjiaaDoorSz
namespace Go.SV

/-! ### Rows -/
def F2 {α : Type} (R : AV → α → Prop) (xs : List AV) (l : List α) : Prop := xs.length = l.length ∧ ∀ (i : Nat) x y, xs[i]? = some x → l[i]? = some y → R x y

theorem F2.nil {α : Type} {R : AV → α → Prop} : F2 R [] [] := ⟨rfl, fun i x y h => by simp at h⟩
theorem F2.snoc {α : Type} {R : AV → α → Prop} {xs : List AV} {l : List α} {x : AV} {y : α} (h : F2 R xs l) (hx : R x y) : F2 R (xs ++ [x]) (l ++ [y]) := by
  refine ⟨by simp [h.1], fun i a b ha hb => ?_⟩
  rcases Nat.lt_or_ge i xs.length with hl | hl
  · rw [List.getElem?_append_left hl] at ha
    rw [List.getElem?_append_left (by rw [← h.1]; exact hl)] at hb
    exact h.2 i a b ha hb
  · rw [List.getElem?_append_right hl] at ha
    rw [List.getElem?_append_right (by rw [← h.1]; exact hl)] at hb
    rw [h.1] at ha
    cases e : i - l.length with
    | zero => rw [e] at ha hb; simp at ha hb; subst ha; subst hb; exact hx
    | succ n => rw [e] at ha; simp at ha
theorem F2.app {α : Type} {R : AV → α → Prop} {xs ys : List AV} {l m : List α} (h : F2 R xs l) (k : F2 R ys m) : F2 R (xs ++ ys) (l ++ m) := by
  refine ⟨by simp [h.1, k.1], fun i a b ha hb => ?_⟩
  rcases Nat.lt_or_ge i xs.length with hl | hl
  · rw [List.getElem?_append_left hl] at ha
    rw [List.getElem?_append_left (by rw [← h.1]; exact hl)] at hb
    exact h.2 i a b ha hb
  · rw [List.getElem?_append_right hl] at ha
    rw [List.getElem?_append_right (by rw [← h.1]; exact hl)] at hb
    rw [h.1] at ha
    exact k.2 _ a b ha hb
theorem F2.map {α : Type} {R : AV → α → Prop} (f : α → AV) (hf : ∀ x, R (f x) x) (l : List α) : F2 R (l.map f) l := by
  refine ⟨by simp, fun i a b ha hb => ?_⟩
  rw [List.getElem?_map, hb] at ha
  simp only [Option.map_some, Option.some.injEq] at ha
  subst ha; exact hf b

def RowOf {α : Type} (s : Nat) (R : AV → α → Prop) (v : AV) (l : List α) : Prop := (v = .nils ∧ l = []) ∨ ∃ t xs, v = .sl t s xs ∧ F2 R xs l

section
variable {α : Type} {s : Nat} {R : AV → α → Prop} {v : AV} {l : List α}

theorem RowOf.cell (h : RowOf s R v l) : v.isCell = true := by
  rcases h with ⟨rfl, _⟩ | ⟨t, xs, rfl, _⟩ <;> rfl
theorem RowOf.cells (h : RowOf s R v l) : v.cells = [v] := by
  rcases h with ⟨rfl, _⟩ | ⟨t, xs, rfl, _⟩ <;> rfl
theorem RowOf.def (h : RowOf s R v l) : v.def? = true := by
  rcases h with ⟨rfl, _⟩ | ⟨t, xs, rfl, _⟩ <;> rfl

theorem g_lenW {H : AH} {k : AV → Prop} (h : RowOf s R v l) (hk : k (.int .i64 l.length)) : gP (aLen .row v H) k := by
  rcases h with ⟨rfl, rfl⟩ | ⟨t, xs, rfl, hf⟩
  · exact g_lenN hk
  · exact g_lenL (by rw [hf.1]; exact hk)

theorem g_at {κ : IntKind} {n : Int} {y : α} {k : AV → Prop} (h : RowOf s R v l) (h0 : 0 ≤ n) (hy : l[n.toNat]? = some y) (hk : ∀ x, R x y → k (.vp x.cells)) : gP (aIdxAddr s v (.int κ n)) k := by
  rcases h with ⟨rfl, rfl⟩ | ⟨t, xs, rfl, hf⟩
  · simp at hy
  · have hl : n.toNat < xs.length := by
      rw [hf.1]
      rcases Nat.lt_or_ge n.toNat l.length with h | h
      · exact h
      · rw [List.getElem?_eq_none h] at hy; simp at hy
    refine gP_i (v := .vp (xs[n.toNat]).cells) ?_ (hk _ (hf.2 _ _ _ (List.getElem?_eq_getElem hl) hy))
    simp [aIdxAddr, h0, List.getElem?_eq_getElem hl]

theorem g_nilW {k : AV → Prop} {neg : Bool} (h : RowOf s R v l) (hn : l ≠ []) (hk : k (.bool neg)) : gP (aEqv .slice neg v .nils) k := by
  rcases h with ⟨rfl, rfl⟩ | ⟨t, xs, rfl, hf⟩
  · exact absurd rfl hn
  · exact gP_i rfl (by cases neg <;> exact hk)
end

/-- Whole numbers. -/
def IsI (x : AV) (n : Int) : Prop := x = .int .i64 n
theorem IsI.cells {x : AV} {n : Int} (h : IsI x n) : x.cells = [.int .i64 n] := by rw [h]; rfl

theorem g_atI {v : AV} {l : List Int} {κ : IntKind} {n : Int} {y : Int} {k : AV → Prop} (h : RowOf 1 IsI v l) (h0 : 0 ≤ n) (hy : l[n.toNat]? = some y) (hk : k (.vp [.int .i64 y])) : gP (aIdxAddr 1 v (.int κ n)) k :=
  g_at h h0 hy fun x hx => by rw [IsI.cells hx]; exact hk

theorem g_atn {α : Type} {s : Nat} {R : AV → α → Prop} {v : AV} {l : List α} {κ : IntKind} {n : Nat} {y : α} {k : AV → Prop} (h : RowOf s R v l) (hy : l[n]? = some y) (hk : ∀ x, R x y → k (.vp x.cells)) : gP (aIdxAddr s v (.int κ (n : Int))) k :=
  g_at h (by omega) (by rw [Int.toNat_natCast]; exact hy) hk
theorem g_atIn {v : AV} {l : List Int} {κ : IntKind} {n : Nat} {y : Int} {k : AV → Prop} (h : RowOf 1 IsI v l) (hy : l[n]? = some y) (hk : k (.vp [.int .i64 y])) : gP (aIdxAddr 1 v (.int κ (n : Int))) k :=
  g_atI h (by omega) (by rw [Int.toNat_natCast]; exact hy) hk

/-! ### Rows that grow -/
def Tok (H0 H : AH) (s : Nat) (v : AV) (xs : List AV) : Prop := (v = .nils ∧ xs = []) ∨ ∃ t, v = .sl t s xs ∧ H0.toks.length ≤ t ∧ H.toks[t]? = some (xs.length, s)

theorem Tok.nil (H0 H : AH) (s : Nat) : Tok H0 H s .nils [] := .inl ⟨rfl, rfl⟩
theorem Tok.same {H0 H H' : AH} {s : Nat} {v : AV} {xs : List AV} (h : Tok H0 H s v xs) (e : H'.toks = H.toks) : Tok H0 H' s v xs := by
  rcases h with h | ⟨t, h1, h2, h3⟩
  · exact .inl h
  · exact .inr ⟨t, h1, h2, by rw [e]; exact h3⟩
theorem Tok.grow {H0 H H' : AH} {s : Nat} {v : AV} {xs : List AV} (h : Tok H0 H s v xs) (g : Grow H H') : Tok H0 H' s v xs := by
  rcases h with h | ⟨t, h1, h2, h3⟩
  · exact .inl h
  · refine .inr ⟨t, h1, h2, ?_⟩
    rw [g.tok (by rcases Nat.lt_or_ge t H.toks.length with h | h; exact h; rw [List.getElem?_eq_none h] at h3; simp at h3)]
    exact h3
theorem Tok.row {α : Type} {R : AV → α → Prop} {H0 H : AH} {s : Nat} {v : AV} {xs : List AV} {l : List α} (h : Tok H0 H s v xs) (hf : F2 R xs l) : RowOf s R v l := by
  rcases h with ⟨rfl, rfl⟩ | ⟨t, rfl, _, _⟩
  · exact .inl ⟨rfl, List.eq_nil_of_length_eq_zero (by rw [← hf.1]; rfl)⟩
  · exact .inr ⟨t, xs, rfl, hf⟩
theorem Tok.weak {H0 H1 H : AH} {s : Nat} {v : AV} {xs : List AV} (h : Tok H1 H s v xs) (g : Grow H0 H1) : Tok H0 H s v xs := by
  rcases h with h | ⟨t, h1, h2, h3⟩
  · exact .inl h
  · obtain ⟨_, ⟨l, hl⟩⟩ := g
    exact .inr ⟨t, h1, by rw [hl, List.length_append] at h2; omega, h3⟩

theorem s_lit {s : Nat} {ys : List AV} {H : AH} {k : AV → AH → Prop} (hok : elemsOk s ys = true) (h : k (.sl 0 s ys) H) : sP (aLit .ro s ys H) k :=
  sP_i (by simp only [aLit, hok, Bool.not_true, Bool.false_eq_true, if_false]) h

theorem s_app {H0 H : AH} {s bytes : Nat} {v : AV} {xs ys : List AV} {t0 : Nat} {k : AV → AH → Prop} (ht : Tok H0 H s v xs) (hg : Grow H0 H) (hp : 0 < H0.toks.length) (hne : ys ≠ []) (hok : elemsOk s ys = true) (hb : (xs.length + ys.length) * bytes ≤ 2 ^ 47)
    (h : ∀ v' H', Tok H0 H' s v' (xs ++ ys) → Grow H0 H' → H'.obs = H.obs → k v' H') : sP (aAppend .tok s bytes v (.sl t0 s ys) H) k := by
  have he : elems s (.sl t0 s ys) H = some ys := by simp [elems]
  have hemp : ys.isEmpty = false := by cases ys with
    | nil => exact absurd rfl hne
    | cons => rfl
  obtain ⟨ho, ⟨l, hl⟩⟩ := hg
  rcases ht with ⟨rfl, rfl⟩ | ⟨t, rfl, h2, h3⟩
  · simp only [List.length_nil, Nat.zero_add] at hb
    refine sP_i (v := .sl H.toks.length s ys) (H := ⟨H.obs, H.toks ++ [(ys.length, s)]⟩) ?_ (h _ _ (.inr ⟨H.toks.length, rfl, by rw [hl, List.length_append]; omega, ?_⟩) ⟨ho, ⟨l ++ [(ys.length, s)], by simp [hl]⟩⟩ rfl)
    · simp only [aAppend, he, hemp, hok, Bool.not_true, Bool.false_eq_true, if_false, if_pos hb]
    · simp
  · have htl : t < H.toks.length := by
      rcases Nat.lt_or_ge t H.toks.length with h | h
      · exact h
      · rw [List.getElem?_eq_none h] at h3; simp at h3
    refine sP_i (v := .sl t s (xs ++ ys)) (H := ⟨H.obs, H.toks.set t (xs.length + ys.length, s)⟩) ?_ (h _ _ (.inr ⟨t, rfl, h2, ?_⟩) ⟨ho, ?_⟩ rfl)
    · simp only [aAppend, he, hemp, hok, Bool.not_true, Bool.false_eq_true, if_false]
      rw [if_pos ⟨trivial, by omega, h3, hb⟩]
    · show (H.toks.set t _)[t]? = _
      rw [List.getElem?_set_self htl]; simp
    · show ∃ l', H.toks.set t _ = _
      rw [hl, List.set_append_right _ _ h2]
      exact ⟨_, rfl⟩

/-- Nothing is put to it. -/
theorem s_app0 {m : Mode} {s bytes : Nat} {v y : AV} {H : AH} {k : AV → AH → Prop} (hy : elems s y H = some []) (hv : v = .nils ∨ (∃ t xs, v = .sl t s xs)) (h : k v H) : sP (aAppend m s bytes v y H) k := by
  refine sP_i (v := v) (H := H) ?_ h
  rcases hv with rfl | ⟨t, xs, rfl⟩ <;> simp [aAppend, hy]

/-! ### New cells and functions -/
theorem s_box {x : AV} {H : AH} {k : AV → AH → Prop} (hd : x.def? = true) (hc : x.cells.all AV.isCell = true) (h : k (.ptr H.obs.length 0) (H.push (.cells x.cells))) : sP (aop [] (.box (.cst x)) H) k :=
  sP_i (by simp only [aop, Opd.ev, hd, hc, Bool.and_self, if_true, allocCells]; rfl) h
theorem s_fn0 {f : Fn} {H : AH} {k : AV → AH → Prop} (h : k (.fn f [] []) H) : sP (aop [] (.mkFn f [] []) H) k := sP_i rfl h
theorem s_fn1 {f : Fn} {a : AV} {H : AH} {k : AV → AH → Prop} (h : k (.fn f [] [a]) H) : sP (aop [] (.mkFn f [] [(.cst a)]) H) k := sP_i rfl h
theorem s_fn2 {f : Fn} {a b : AV} {H : AH} {k : AV → AH → Prop} (h : k (.fn f [] [a, b]) H) : sP (aop [] (.mkFn f [] [(.cst a), (.cst b)]) H) k := sP_i rfl h
theorem s_fn3 {f : Fn} {a b c : AV} {H : AH} {k : AV → AH → Prop} (h : k (.fn f [] [a, b, c]) H) : sP (aop [] (.mkFn f [] [(.cst a), (.cst b), (.cst c)]) H) k := sP_i rfl h
theorem s_fn4 {f : Fn} {a b c d : AV} {H : AH} {k : AV → AH → Prop} (h : k (.fn f [] [a, b, c, d]) H) : sP (aop [] (.mkFn f [] [(.cst a), (.cst b), (.cst c), (.cst d)]) H) k := sP_i rfl h

/-- A row of one value over, written by place. -/
theorem s_mkR {s bytes : Nat} {z : List AV} {n : Nat} {H : AH} {k : AV → AH → Prop} (hb : bytes * n ≤ 2 ^ 48) (hn : n < 2 ^ 62) (hz : z.length = s)
    (h : k (.slr H.obs.length 0 n s) (H.push (.cells (List.replicate n z).flatten))) : sP (aop [] (.make .ref s bytes z (.cst (.int .i64 n)) (.cst (.int .i64 n))) H) k :=
  sP_i (by
    simp only [aop, Opd.ev]
    rw [if_pos ⟨by omega, by omega, by exact_mod_cast hb, by omega, hz⟩]
    simp only [Int.toNat_natCast]
    rfl) h

theorem g_idxR {s b o m : Nat} {κ : IntKind} {n : Int} {k : AV → Prop} (h0 : 0 ≤ n ∧ n < m) (h : k (.ptr b (o + n.toNat * s))) : gP (aIdxAddr s (.slr b o m s) (.int κ n)) k :=
  gP_i (by simp [aIdxAddr, h0.1, h0.2]) h
theorem g_idxR1 {b m : Nat} {κ : IntKind} {n : Int} {k : AV → Prop} (h0 : 0 ≤ n ∧ n < m) (h : k (.ptr b n.toNat)) : gP (aIdxAddr 1 (.slr b 0 m 1) (.int κ n)) k :=
  g_idxR h0 (by simpa using h)

theorem c_gb {D : Den} {key : Nat} {as : List AV} {H0 H : AH} {v : AV} {k : AV → AH → Prop} (hb : Grow H0 H) (hc : ∃ H', D key as H = some (v, H') ∧ Grow H H') (h : ∀ H', Grow H0 H' → k v H') : cP D key as H k := by
  obtain ⟨H', h1, h2⟩ := hc
  exact ⟨v, H', h1, h H' (hb.trans h2)⟩
/-- A cell that stands since long. -/
def Holds (H : AH) (b : Nat) (c : List AV) : Prop := b < H.obs.length ∧ H.get b = .cells c
theorem Holds.push (H : AH) (c : List AV) : Holds (H.push (.cells c)) H.obs.length c := ⟨by rw [push_len]; omega, push_get _ _⟩
theorem Holds.grow {H H' : AH} {b : Nat} {c : List AV} (h : Holds H b c) (g : Grow H H') : Holds H' b c := ⟨Nat.lt_of_lt_of_le h.1 g.len, by rw [g.get h.1]; exact h.2⟩
theorem Holds.pushed {H : AH} {b : Nat} {c : List AV} (h : Holds H b c) (o : AObj) : Holds (H.push o) b c := h.grow (.push _ _)
theorem g_h1 {H : AH} {b o : Nat} {c : List AV} {v : AV} {k : AV → Prop} (hc : Holds H b c) (hv : c[o]? = some v) (h : k v) : gP (aLoad none (.ptr b o) H) k := g_ld1 hc.2 hv h
theorem g_hN {H : AH} {n b : Nat} {c : List AV} {k : AV → Prop} (hc : Holds H b c) (hl : c.length = n) (h : k (.agg c)) : gP (aLoad (some n) (.ptr b 0) H) k :=
  g_ldN hc.2 (by omega) (by rw [List.drop_zero, ← hl, List.take_length]; exact h)

/-! ### Writing to cells that stand -/
theorem splice_all : ∀ (l c : List AV) (o : Nat), o + l.length = c.length → splice c o l = c.take o ++ l := by
  intro l
  induction l with
  | nil => intro c o h; simp only [splice, List.append_nil]; rw [List.take_of_length_le (by simp at h; omega)]
  | cons x l ih =>
    intro c o h
    simp only [List.length_cons] at h
    rw [splice, ih _ _ (by simp; omega)]
    have ho : o < c.length := by omega
    have : (c.set o x).take (o + 1) = c.take o ++ [x] := by
      rw [List.take_add_one, List.getElem?_set_self ho, List.take_set_of_le (Nat.le_refl _)]; rfl
    rw [this, List.append_assoc]; rfl

theorem h_all {H : AH} {n b : Nat} {c l : List AV} {k : AH → Prop} (hc : Holds H b c) (hl : c.length = n) (hn : l.length = n) (ha : l.all AV.isCell = true) (hk : Holds (H.put b (.cells l)) b l → k (H.put b (.cells l))) : hP (aStore n (.ptr b 0) (.agg l) H) k := by
  refine hP_i (v := H.put b (.cells l)) ?_ (hk ⟨by rw [put_len]; exact hc.1, by rw [put_get hc.1, if_pos rfl]⟩)
  have hs : splice c 0 l = l := by rw [splice_all l c 0 (by omega)]; rfl
  simp only [aStore, hc.2, AV.def?, AV.cells, hn, ha, beq_self_eq_true, Bool.and_self, Bool.true_and, Nat.zero_add, hl, Nat.le_refl, decide_true, if_true, hs]
  rfl

theorem h_one {H : AH} {b o : Nat} {c : List AV} {x : AV} {k : AH → Prop} (hc : Holds H b c) (ho : o < c.length) (hx : x.isCell = true) (hk : Holds (H.put b (.cells (c.set o x))) b (c.set o x) → k (H.put b (.cells (c.set o x)))) : hP (aStore 1 (.ptr b o) x H) k := by
  have h1 : x.def? = true ∧ x.cells = [x] := by cases x <;> first | exact ⟨rfl, rfl⟩ | simp [AV.isCell] at hx
  refine h_st hc.2 h1.1 (by rw [h1.2]; rfl) (by rw [h1.2]; simp [hx]) (by omega) ?_
  rw [h1.2]
  exact hk ⟨by rw [put_len]; exact hc.1, by rw [put_get hc.1, if_pos rfl]⟩

/-- All but one block stays as it is. -/
structure Keep (b : Nat) (H H' : AH) : Prop where
  len : H.obs.length ≤ H'.obs.length
  get : ∀ c, c < H.obs.length → c ≠ b → H'.get c = H.get c
theorem Keep.refl (b : Nat) (H : AH) : Keep b H H := ⟨Nat.le_refl _, fun _ _ _ => rfl⟩
theorem Keep.trans {b : Nat} {H1 H2 H3 : AH} (h : Keep b H1 H2) (k : Keep b H2 H3) : Keep b H1 H3 :=
  ⟨Nat.le_trans h.len k.len, fun c hc hn => (k.get c (Nat.lt_of_lt_of_le hc h.len) hn).trans (h.get c hc hn)⟩
theorem Keep.of {b : Nat} {H H' : AH} (g : Grow H H') : Keep b H H' := ⟨g.len, fun _ hc _ => g.get hc⟩
theorem Keep.put {b : Nat} {H : AH} (o : AObj) (hb : b < H.obs.length) : Keep b H (H.put b o) := ⟨by rw [put_len]; exact Nat.le_refl _, fun c _ hn => by rw [put_get hb, if_neg hn]⟩
theorem Keep.putN {b : Nat} {H H1 : AH} {c : Nat} {o : AObj} (h : Keep b H H1) (hc : H.obs.length ≤ c) : Keep b H (H1.put c o) := by
  refine ⟨by rw [put_len]; exact h.len, fun d hd hn => ?_⟩
  rw [← h.get d hd hn]
  simp only [AH.put, AH.get]
  rw [List.getElem?_set_ne (by omega)]
theorem Keep.obs {b : Nat} {H H1 H2 : AH} (h : Keep b H H1) (e : H2.obs = H1.obs) : Keep b H H2 := by
  refine ⟨by rw [e]; exact h.len, fun c hc hn => ?_⟩
  rw [← h.get c hc hn]; simp only [AH.get, e]
theorem Holds.keep {b c : Nat} {H H' : AH} {l : List AV} (h : Holds H c l) (k : Keep b H H') (hn : c ≠ b) : Holds H' c l := ⟨Nat.lt_of_lt_of_le h.1 k.len, by rw [k.get c h.1 hn]; exact h.2⟩
theorem same_rfl {op : IOp} {H : AH} : sameR op H H := rfl
theorem same_obs {n : Option Nat} {v : AV} {H1 H2 : AH} (e : H1.obs = H2.obs) : sameR (.load n (.cst v)) H1 H2 := same_ld fun b _ => by simp only [AH.get, e]
theorem same_keep {n : Option Nat} {b o c : Nat} {H1 H2 : AH} (h : Keep b H2 H1) (hc : c < H2.obs.length) (hn : c ≠ b) : sameR (.load n (.cst (.ptr c o))) H1 H2 := same_ld fun d hd => by
  simp only [blkOf, Option.some.injEq] at hd
  subst hd
  exact h.get c hc hn
theorem same_grow {n : Option Nat} {o c : Nat} {H1 H2 : AH} (h : Grow H2 H1) (hc : c < H2.obs.length) : sameR (.load n (.cst (.ptr c o))) H1 H2 := same_ld fun d hd => by
  simp only [blkOf, Option.some.injEq] at hd
  subst hd
  exact h.get hc
theorem Holds.obs' {H H' : AH} {b : Nat} {c : List AV} (h : Holds H b c) (e : H'.obs = H.obs) : Holds H' b c := by
  refine ⟨by rw [e]; exact h.1, ?_⟩
  have := h.2
  unfold AH.get at this ⊢
  rw [e]; exact this
end Go.SV
