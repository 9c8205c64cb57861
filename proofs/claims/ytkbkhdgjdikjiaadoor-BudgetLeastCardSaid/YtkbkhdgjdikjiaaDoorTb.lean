/- Maps in the abstract machine, as functions. Own text of the prover; nothing is assumed. -/
import Derived.Test.YtkbkhdgjdikjiaaDoorTa
namespace Go.SV

/-- Entries of a map, and what it tells. -/
structure MapIs (K : KeyK) {κ : Type} (enc : κ → AV) (f : κ → Option AV) (es : List (AV × AV × Nat)) (clk : Nat) : Prop where
  keys : ∀ e ∈ es, ∃ k, e.1 = enc k
  find : ∀ k, ∃ r, aFind K (enc k) es 0 = some r ∧ r.map (·.2) = f k
  born : ∀ (i : Nat) e, es[i]? = some e → e.2.2 < clk
  nodup : ∀ (i j : Nat) e e', es[i]? = some e → es[j]? = some e' → e.2.2 = e'.2.2 → i = j

def MapAt (K : KeyK) {κ : Type} (enc : κ → AV) (f : κ → Option AV) (H : AH) (b : Nat) : Prop := b < H.obs.length ∧ ∃ es clk, H.get b = .map es clk ∧ MapIs K enc f es clk

/-- Keys can be told apart. -/
def Keyed (K : KeyK) {κ : Type} [DecidableEq κ] (enc : κ → AV) : Prop := ∀ a b, keyEq K (enc a) (enc b) = some (decide (a = b))

theorem MapIs.empty (K : KeyK) {κ : Type} (enc : κ → AV) : MapIs K enc (fun _ => none) [] 0 := ⟨fun e h => by simp at h, fun k => ⟨none, rfl, rfl⟩, fun i e h => by simp at h, fun i j e e' h => by simp at h⟩
theorem MapAt.grow {K : KeyK} {κ : Type} {enc : κ → AV} {f : κ → Option AV} {H H' : AH} {b : Nat} (h : MapAt K enc f H b) (g : Grow H H') : MapAt K enc f H' b := by
  obtain ⟨h1, es, clk, h2, h3⟩ := h
  exact ⟨Nat.lt_of_lt_of_le h1 g.len, es, clk, by rw [g.get h1]; exact h2, h3⟩
theorem MapAt.put {K : KeyK} {κ : Type} {enc : κ → AV} {f : κ → Option AV} {H : AH} {b c : Nat} {o : AObj} (h : MapAt K enc f H b) (hc : c < H.obs.length) (hne : b ≠ c) : MapAt K enc f (H.put c o) b := by
  obtain ⟨h1, es, clk, h2, h3⟩ := h
  exact ⟨by rw [put_len]; exact h1, es, clk, by rw [put_get hc, if_neg hne]; exact h2, h3⟩

theorem MapAt.push (K : KeyK) {κ : Type} (enc : κ → AV) (H : AH) : MapAt K enc (fun _ => none) (H.push (.map [] 0)) H.obs.length := ⟨by rw [push_len]; omega, [], 0, push_get _ _, .empty K enc⟩

section
variable {K : KeyK} {κ : Type} [DecidableEq κ] {enc : κ → AV} {f : κ → Option AV}

theorem Keyed.key (h : Keyed K enc) (k : κ) : isKey K (enc k) = true := by simp [isKey, h k k]
theorem Keyed.inj (h : Keyed K enc) {a b : κ} (e : enc a = enc b) : a = b := by
  have h1 := h a b
  rw [e, h b b] at h1
  simpa using h1



theorem aFind_shift (hK : Keyed K enc) (k : κ) : ∀ (es : List (AV × AV × Nat)) (i : Nat), (∀ e ∈ es, ∃ k, e.1 = enc k) → ∃ r, aFind K (enc k) es 0 = some r ∧ aFind K (enc k) es i = some (r.map fun p => (p.1 + i, p.2)) := by
  intro es
  induction es with
  | nil => intro i _; exact ⟨none, rfl, rfl⟩
  | cons e es ih =>
    intro i h
    obtain ⟨k', hk'⟩ := h e (by simp)
    simp only [aFind, hk', hK k k']
    by_cases hkk : k = k'
    · simp only [hkk, decide_true]
      exact ⟨some (0, e.2.1), rfl, by simp⟩
    · simp only [hkk, decide_false]
      obtain ⟨r, h1, h2⟩ := ih (i + 1) fun e he => h e (by simp [he])
      obtain ⟨r', h1', h2'⟩ := ih 1 fun e he => h e (by simp [he])
      rw [h1] at h1'
      simp only [Option.some.injEq] at h1'
      subst h1'
      refine ⟨_, h2', ?_⟩
      rw [h2]
      cases r with
      | none => rfl
      | some p => simp only [Option.map_some, Option.some.injEq, Prod.mk.injEq, and_true]; omega

theorem modGet {α : Type} (g : α → α) (l : List α) (i j : Nat) : (l.modify i g)[j]? = if i = j then (l[j]?).map g else l[j]? := by
  rw [List.getElem?_modify]
  by_cases hij : i = j
  · simp [hij]
  · simp [hij]

/-- Where a key stands. -/
theorem aFind_pos (hK : Keyed K enc) (k : κ) : ∀ (es : List (AV × AV × Nat)), (∀ e ∈ es, ∃ k, e.1 = enc k) →
    (aFind K (enc k) es 0 = some none ∧ ∀ e ∈ es, e.1 ≠ enc k) ∨ ∃ i e, aFind K (enc k) es 0 = some (some (i, e.2.1)) ∧ es[i]? = some e ∧ e.1 = enc k ∧ ∀ (j : Nat) e', j < i → es[j]? = some e' → e'.1 ≠ enc k := by
  intro es
  induction es with
  | nil => intro _; exact .inl ⟨rfl, fun e h => by simp at h⟩
  | cons e es ih =>
    intro h
    obtain ⟨k', hk'⟩ := h e (by simp)
    have hs := aFind_shift hK k es 1 fun e he => h e (by simp [he])
    obtain ⟨r, hr1, hr2⟩ := hs
    by_cases hkk : k = k'
    · refine .inr ⟨0, e, ?_, rfl, by rw [hk', hkk], fun j e' hj => by omega⟩
      subst hkk
      simp only [aFind, hk', hK k k, decide_true]
    · have hne : e.1 ≠ enc k := by rw [hk']; exact fun e => hkk (hK.inj e).symm
      rcases ih fun e he => h e (by simp [he]) with ⟨h1, h2⟩ | ⟨i, e1, h1, h2, h3, h4⟩
      · refine .inl ⟨?_, ?_⟩
        · simp only [aFind, hk', hK k k', hkk, decide_false]
          rw [h1] at hr1
          simp only [Option.some.injEq] at hr1
          subst hr1
          exact hr2
        · intro e' he'
          simp only [List.mem_cons] at he'
          rcases he' with rfl | he'
          · exact hne
          · exact h2 e' he'
      · refine .inr ⟨i + 1, e1, ?_, by simpa using h2, h3, ?_⟩
        · simp only [aFind, hk', hK k k', hkk, decide_false]
          rw [h1] at hr1
          simp only [Option.some.injEq] at hr1
          subst hr1
          exact hr2
        · intro j e' hj he'
          cases j with
          | zero => simp at he'; subst he'; exact hne
          | succ j => exact h4 j e' (by omega) (by simpa using he')

theorem aFind_of {k : κ} (hK : Keyed K enc) {es : List (AV × AV × Nat)} (h : ∀ e ∈ es, ∃ k, e.1 = enc k) {i : Nat} {e : AV × AV × Nat} (hi : es[i]? = some e) (he : e.1 = enc k) (hj : ∀ (j : Nat) e', j < i → es[j]? = some e' → e'.1 ≠ enc k) :
    aFind K (enc k) es 0 = some (some (i, e.2.1)) := by
  rcases aFind_pos hK k es h with ⟨_, h2⟩ | ⟨i', e', h1, h2, h3, h4⟩
  · exact absurd he (h2 e (List.mem_of_getElem? hi))
  · rcases Nat.lt_trichotomy i i' with hlt | rfl | hgt
    · exact absurd he (h4 i e hlt hi)
    · rw [hi] at h2; simp only [Option.some.injEq] at h2; subst h2; exact h1
    · exact absurd h3 (hj i' e' hgt h2)

theorem aFind_no {k : κ} (hK : Keyed K enc) {es : List (AV × AV × Nat)} (h : ∀ e ∈ es, ∃ k, e.1 = enc k) (hn : ∀ e ∈ es, e.1 ≠ enc k) : aFind K (enc k) es 0 = some none := by
  rcases aFind_pos hK k es h with ⟨h1, _⟩ | ⟨i', e', h1, h2, h3, h4⟩
  · exact h1
  · exact absurd h3 (hn e' (List.mem_of_getElem? h2))

/-- A value put to a key. -/
def setK (f : κ → Option AV) (k : κ) (v : AV) : κ → Option AV := fun k' => if k' = k then some v else f k'

theorem MapIs.upd (hK : Keyed K enc) {es : List (AV × AV × Nat)} {clk : Nat} (h : MapIs K enc f es clk) (k : κ) (v : AV) :
    (∃ i x, aFind K (enc k) es 0 = some (some (i, x)) ∧ f k = some x ∧ MapIs K enc (setK f k v) (es.modify i fun e => (enc k, v, e.2.2)) clk ∧ ∃ e, es[i]? = some e) ∨
    (aFind K (enc k) es 0 = some none ∧ f k = none ∧ MapIs K enc (setK f k v) (es ++ [(enc k, v, clk)]) (clk + 1)) := by
  have ff : ∀ k' r, aFind K (enc k') es 0 = some r → f k' = r.map (·.2) := by
    intro k' r hr
    obtain ⟨r', h1, h2⟩ := h.find k'
    rw [h1] at hr; simp only [Option.some.injEq] at hr; subst hr; exact h2.symm
  rcases aFind_pos hK k es h.keys with ⟨h1, h2⟩ | ⟨i, e, h1, h2, h3, h4⟩
  · refine .inr ⟨h1, ff k _ h1, ?_⟩
    have hkeys : ∀ e ∈ es ++ [(enc k, v, clk)], ∃ k, e.1 = enc k := by
      intro e he
      simp only [List.mem_append, List.mem_singleton] at he
      rcases he with he | rfl
      · exact h.keys e he
      · exact ⟨k, rfl⟩
    refine ⟨hkeys, fun k' => ?_, fun i e hi => ?_, fun i j e e' hi hj hb => ?_⟩
    · by_cases hk : k' = k
      · subst hk
        refine ⟨some (es.length, v), aFind_of (e := (enc k', v, clk)) hK hkeys (by simp) rfl fun j e' hj he' => ?_, by simp [setK]⟩
        rw [List.getElem?_append_left hj] at he'
        exact h2 e' (List.mem_of_getElem? he')
      · rcases aFind_pos hK k' es h.keys with ⟨a1, a2⟩ | ⟨i, e, a1, a2, a3, a4⟩
        · refine ⟨none, aFind_no hK hkeys fun e he => ?_, ?_⟩
          · simp only [List.mem_append, List.mem_singleton] at he
            rcases he with he | rfl
            · exact a2 e he
            · exact fun e => hk (hK.inj e).symm
          · rw [setK, if_neg hk, ff k' _ a1]
        · have hil : i < es.length := by
            rcases Nat.lt_or_ge i es.length with h | h
            · exact h
            · rw [List.getElem?_eq_none h] at a2; simp at a2
          refine ⟨some (i, e.2.1), aFind_of hK hkeys (by rw [List.getElem?_append_left hil]; exact a2) a3 fun j e' hj he' => ?_, ?_⟩
          · rw [List.getElem?_append_left (by omega)] at he'
            exact a4 j e' hj he'
          · rw [setK, if_neg hk, ff k' _ a1]
    · rcases Nat.lt_or_ge i es.length with hl | hl
      · rw [List.getElem?_append_left hl] at hi
        have := h.born i e hi; omega
      · rw [List.getElem?_append_right hl] at hi
        cases e2 : i - es.length with
        | zero => rw [e2] at hi; simp at hi; subst hi; simp
        | succ n => rw [e2] at hi; simp at hi
    · have last : ∀ (i : Nat) e, (es ++ [(enc k, v, clk)])[i]? = some e → (es[i]? = some e ∧ e.2.2 < clk) ∨ (i = es.length ∧ e.2.2 = clk) := by
        intro i e hi
        rcases Nat.lt_or_ge i es.length with hl | hl
        · rw [List.getElem?_append_left hl] at hi
          exact .inl ⟨hi, h.born i e hi⟩
        · rw [List.getElem?_append_right hl] at hi
          cases e2 : i - es.length with
          | zero => rw [e2] at hi; simp at hi; subst hi; exact .inr ⟨by omega, rfl⟩
          | succ n => rw [e2] at hi; simp at hi
      rcases last i e hi with ⟨a1, a2⟩ | ⟨a1, a2⟩ <;> rcases last j e' hj with ⟨b1, b2⟩ | ⟨b1, b2⟩
      · exact h.nodup i j e e' a1 b1 hb
      · omega
      · omega
      · omega
  · refine .inl ⟨i, e.2.1, h1, ff k _ h1, ?_, e, h2⟩
    have get : ∀ (j : Nat), (es.modify i fun e => (enc k, v, e.2.2))[j]? = if i = j then (es[j]?).map (fun e => (enc k, v, e.2.2)) else es[j]? := fun j => by
      rw [List.getElem?_modify]
      by_cases hij : i = j
      · simp [hij]
      · simp [hij]
    have hkeys : ∀ e ∈ es.modify i fun e => (enc k, v, e.2.2), ∃ k, e.1 = enc k := by
      intro e' he'
      obtain ⟨j, hj⟩ := List.getElem?_of_mem he'
      rw [get] at hj
      split at hj
      · simp only [Option.map_eq_some_iff] at hj
        obtain ⟨_, _, rfl⟩ := hj
        exact ⟨k, rfl⟩
      · exact h.keys e' (List.mem_of_getElem? hj)
    refine ⟨hkeys, fun k' => ?_, fun j e' hj => ?_, fun j j' e1 e2 hj hj' hb => ?_⟩
    · by_cases hk : k' = k
      · subst hk
        refine ⟨some (i, v), aFind_of (e := (enc k', v, e.2.2)) hK hkeys (by rw [get, if_pos rfl, h2]; rfl) rfl fun j e' hj he' => ?_, by simp [setK]⟩
        rw [get, if_neg (by omega)] at he'
        exact h4 j e' hj he'
      · rcases aFind_pos hK k' es h.keys with ⟨a1, a2⟩ | ⟨i', e', a1, a2, a3, a4⟩
        · refine ⟨none, aFind_no hK hkeys fun e' he' => ?_, ?_⟩
          · obtain ⟨j, hj⟩ := List.getElem?_of_mem he'
            rw [get] at hj
            split at hj
            · simp only [Option.map_eq_some_iff] at hj
              obtain ⟨_, _, rfl⟩ := hj
              exact fun e => hk (hK.inj e).symm
            · exact a2 e' (List.mem_of_getElem? hj)
          · rw [setK, if_neg hk, ff k' _ a1]
        · have hne : i ≠ i' := by
            rintro rfl
            rw [h2] at a2
            simp only [Option.some.injEq] at a2
            subst a2
            exact hk (hK.inj (a3.symm.trans h3))
          refine ⟨some (i', e'.2.1), aFind_of hK hkeys (by rw [get, if_neg hne]; exact a2) a3 fun j e2 hj he2 => ?_, ?_⟩
          · rw [get] at he2
            split at he2
            · simp only [Option.map_eq_some_iff] at he2
              obtain ⟨_, _, rfl⟩ := he2
              exact fun e => hk (hK.inj e).symm
            · exact a4 j e2 hj he2
          · rw [setK, if_neg hk, ff k' _ a1]
    · rw [get] at hj
      split at hj
      · simp only [Option.map_eq_some_iff] at hj
        obtain ⟨x, hx, rfl⟩ := hj
        exact h.born j x hx
      · exact h.born j e' hj
    · have st : ∀ (j : Nat) e1, (es.modify i fun e => (enc k, v, e.2.2))[j]? = some e1 → ∃ e0, es[j]? = some e0 ∧ e0.2.2 = e1.2.2 := by
        intro j e1 hj
        rw [get] at hj
        split at hj
        · simp only [Option.map_eq_some_iff] at hj
          obtain ⟨x, hx, rfl⟩ := hj
          exact ⟨x, hx, rfl⟩
        · exact ⟨e1, hj, rfl⟩
      obtain ⟨x, hx, hx'⟩ := st j e1 hj
      obtain ⟨y, hy, hy'⟩ := st j' e2 hj'
      exact h.nodup j j' x y hx hy (by rw [hx', hy', hb])

/-! ### Rules -/
theorem s_map {H : AH} {k : AV → AH → Prop} (h : k (.map H.obs.length) (H.push (.map [] 0))) : sP (aop [] .mkMap H) k := sP_i rfl h
theorem g_look {H : AH} {b : Nat} {x : κ} {z : AV} {k : AV → Prop} (hm : MapAt K enc f H b) (hK : Keyed K enc) (h : k ((f x).getD z)) : gP (aLook K z false (.map b) (enc x) H) k := by
  obtain ⟨h1, es, clk, h2, h3⟩ := hm
  obtain ⟨r, hr, hf⟩ := h3.find x
  refine gP_i (v := (f x).getD z) ?_ h
  simp only [aLook, mapEs, h2, hK.key, if_true, hr, Option.map_some]
  rw [← hf]
  cases r with
  | none => rfl
  | some p => rfl
theorem g_lookOk {H : AH} {b : Nat} {x : κ} {z : AV} {k : AV → Prop} (hm : MapAt K enc f H b) (hK : Keyed K enc) (h : k (.tup [(f x).getD z, .bool (f x).isSome])) : gP (aLook K z true (.map b) (enc x) H) k := by
  obtain ⟨h1, es, clk, h2, h3⟩ := hm
  obtain ⟨r, hr, hf⟩ := h3.find x
  refine gP_i (v := .tup [(f x).getD z, .bool (f x).isSome]) ?_ h
  simp only [aLook, mapEs, h2, hK.key, if_true, hr, Option.map_some]
  rw [← hf]
  cases r with
  | none => rfl
  | some p => rfl
theorem g_lookNil {H : AH} {x : κ} {z : AV} {k : AV → Prop} (hK : Keyed K enc) (h : k z) : gP (aLook K z false .nilm (enc x) H) k :=
  gP_i (by simp [aLook, mapEs, hK.key, aFind, lookR]) h
theorem s_upd {H : AH} {b : Nat} {x : κ} {v : AV} {k : AV → AH → Prop} (hm : MapAt K enc f H b) (hK : Keyed K enc) (hv : v.def? = true)
    (h : ∀ o, MapAt K enc (setK f x v) (H.put b o) b → k .undef (H.put b o)) : sP (aop [] (.mapUpd K (.cst (.map b)) (.cst (enc x)) (.cst v)) H) k := by
  obtain ⟨h1, es, clk, h2, h3⟩ := hm
  rcases h3.upd hK x v with ⟨i, y, a1, a2, a3, _⟩ | ⟨a1, a2, a3⟩
  · refine sP_i ?_ (h (.map (es.modify i fun e => (enc x, v, e.2.2)) clk) ⟨by rw [put_len]; exact h1, _, _, by rw [put_get h1, if_pos rfl], a3⟩)
    simp only [aop, Opd.ev, h2, hK.key, hv, Bool.and_self, if_true, a1, Option.map_some, AH.put]
  · refine sP_i ?_ (h (.map (es ++ [(enc x, v, clk)]) (clk + 1)) ⟨by rw [put_len]; exact h1, _, _, by rw [put_get h1, if_pos rfl], a3⟩)
    simp only [aop, Opd.ev, h2, hK.key, hv, Bool.and_self, if_true, a1, Option.map_some, AH.put]

/-- A map of which an entry is at hand, by its stamp. -/
def MapE (K : KeyK) (enc : κ → AV) (f : κ → Option AV) (H : AH) (b : Nat) (x : κ) (st : Nat) : Prop :=
  b < H.obs.length ∧ ∃ es clk i e, H.get b = .map es clk ∧ MapIs K enc f es clk ∧ aFind K (enc x) es 0 = some (some (i, e.2.1)) ∧ es[i]? = some e ∧ e.2.2 = st

theorem s_entry {H : AH} {b : Nat} {x : κ} {z : AV} {k : AV → AH → Prop} (hm : MapAt K enc f H b) (hK : Keyed K enc)
    (h : ∀ o (st : Nat), MapE K enc (setK f x ((f x).getD z)) (H.put b o) b x st → k (.tup [(f x).getD z, .int .i64 st]) (H.put b o)) : sP (aop [] (.mapEntry K z (.cst (.map b)) (.cst (enc x))) H) k := by
  obtain ⟨h1, es, clk, h2, h3⟩ := hm
  rcases h3.upd hK x ((f x).getD z) with ⟨i, y, a1, a2, a3, e, he⟩ | ⟨a1, a2, a3⟩
  · have hy : e.2.1 = y := by
      rcases aFind_pos hK x es h3.keys with ⟨b1, _⟩ | ⟨i', e', b1, b2, _, _⟩
      · rw [b1] at a1; simp at a1
      · rw [b1] at a1
        simp only [Option.some.injEq, Prod.mk.injEq] at a1
        obtain ⟨rfl, rfl⟩ := a1
        rw [he] at b2; simp only [Option.some.injEq] at b2; rw [b2]
    have hfx : (f x).getD z = y := by rw [a2]; rfl
    have hmod : (es.modify i fun e => (enc x, e.2.1, e.2.2)) = es.modify i fun e => (enc x, (f x).getD z, e.2.2) := by
      refine List.ext_getElem? fun j => ?_
      rw [modGet, modGet]
      by_cases hij : i = j
      · subst hij; rw [he]; simp [hfx, hy]
      · rw [if_neg hij, if_neg hij]
    rw [← hmod] at a3
    obtain ⟨r, hr1, hr2⟩ := a3.find x
    refine sP_i ?_ (h (.map (es.modify i fun e => (enc x, e.2.1, e.2.2)) clk) e.2.2 ⟨by rw [put_len]; exact h1, _, _, i, (enc x, e.2.1, e.2.2), by rw [put_get h1, if_pos rfl], a3, ?_, ?_, rfl⟩)
    · simp only [aop, Opd.ev, h2, hK.key, if_true, a1, Option.map_some, AH.put, he, Option.getD_some, hfx]
    · rcases aFind_pos hK x es h3.keys with ⟨b1, _⟩ | ⟨i', e', b1, b2, b3, b4⟩
      · rw [b1] at a1; simp at a1
      · rw [b1] at a1
        simp only [Option.some.injEq, Prod.mk.injEq] at a1
        obtain ⟨rfl, _⟩ := a1
        refine aFind_of (e := (enc x, e.2.1, e.2.2)) hK a3.keys (by rw [modGet, if_pos rfl, he]; rfl) rfl fun j e2 hj he2 => ?_
        rw [modGet, if_neg (by omega)] at he2
        exact b4 j e2 hj he2
    · rw [modGet, if_pos rfl, he]; rfl
  · have hfx : (f x).getD z = z := by rw [a2]; rfl
    rw [hfx] at a3
    refine sP_i ?_ (h (.map (es ++ [(enc x, z, clk)]) (clk + 1)) clk ⟨by rw [put_len]; exact h1, _, _, es.length, (enc x, z, clk), by rw [put_get h1, if_pos rfl], by rw [hfx]; exact a3, ?_, by simp, rfl⟩)
    · simp only [aop, Opd.ev, h2, hK.key, if_true, a1, Option.map_some, AH.put, hfx]
    · refine aFind_of (e := (enc x, z, clk)) hK a3.keys (by simp) rfl fun j e2 hj he2 => ?_
      rw [List.getElem?_append_left hj] at he2
      rcases aFind_pos hK x es h3.keys with ⟨_, b2⟩ | ⟨i', e', b1, _⟩
      · exact b2 e2 (List.mem_of_getElem? he2)
      · rw [b1] at a1; simp at a1

/-- A look that a new entry for the same key does not change. -/
theorem same_entry {H : AH} {b : Nat} {x : κ} {z : AV} {o : AObj} {st : Nat} (hm : MapAt K enc f H b) (hK : Keyed K enc) (hm' : MapE K enc (setK f x ((f x).getD z)) (H.put b o) b x st) :
    sameR (.lookup K z false (.cst (.map b)) (.cst (enc x))) (H.put b o) H := by
  obtain ⟨h1, es, clk, h2, h3⟩ := hm
  obtain ⟨h1', es', clk', i', e', h2', h3', _⟩ := hm'
  obtain ⟨r, hr, hf⟩ := h3.find x
  obtain ⟨r', hr', hf'⟩ := h3'.find x
  simp only [sameR, aop, Opd.ev, aLook, mapEs, h2, h2', hK.key, if_true, hr, hr', Option.map_some, Option.some.injEq]
  simp only [setK, if_true] at hf'
  rw [← hf] at hf'
  cases r with
  | none => cases r' with
    | none => rfl
    | some p => simp at hf'; simp [lookR, hf']
  | some q => cases r' with
    | none => simp at hf'
    | some p => simp at hf'; simp [lookR, hf']

theorem s_entSt {H : AH} {b st : Nat} {x : κ} {v : AV} {k : AV → AH → Prop} (hm : MapE K enc f H b x st) (hK : Keyed K enc) (hv : v.def? = true)
    (h : ∀ o, MapAt K enc (setK f x v) (H.put b o) b → k .undef (H.put b o)) : sP (aop [] (.entrySt (.cst (.map b)) (.cst (.int .i64 st)) (.cst v)) H) k := by
  obtain ⟨h1, es, clk, i, e, h2, h3, h4, h5, h6⟩ := hm
  have hfi : es.findIdx? (fun e => ((e.2.2 : Nat) : Int) == (st : Int)) = some i := by
    have hil : i < es.length := by
      rcases Nat.lt_or_ge i es.length with h | h
      · exact h
      · rw [List.getElem?_eq_none h] at h5; simp at h5
    have hei : es[i] = e := by rw [List.getElem?_eq_getElem hil] at h5; exact Option.some.inj h5
    rw [List.findIdx?_eq_some_iff_getElem]
    refine ⟨hil, by rw [hei, h6]; simp, fun j hj => ?_⟩
    simp only [beq_iff_eq, Int.natCast_inj, Bool.not_eq_true, beq_eq_false_iff_ne, ne_eq]
    intro e2
    have := h3.nodup j i es[j] e (List.getElem?_eq_getElem (by omega)) h5 (by rw [e2, h6])
    omega
  have hek : e.1 = enc x := by
    rcases aFind_pos hK x es h3.keys with ⟨b1, _⟩ | ⟨i', e', b1, b2, b3, b4⟩
    · rw [b1] at h4; simp at h4
    · rw [b1] at h4
      simp only [Option.some.injEq, Prod.mk.injEq] at h4
      obtain ⟨rfl, _⟩ := h4
      rw [h5] at b2; simp only [Option.some.injEq] at b2; rw [b2]; exact b3
  rcases h3.upd hK x v with ⟨i', y, a1, a2, a3, _⟩ | ⟨a1, a2, a3⟩
  · rw [h4] at a1
    simp only [Option.some.injEq, Prod.mk.injEq] at a1
    obtain ⟨rfl, _⟩ := a1
    have hmod : (es.modify i fun e => (e.1, v, e.2.2)) = es.modify i fun e => (enc x, v, e.2.2) := by
      refine List.ext_getElem? fun j => ?_
      rw [modGet, modGet]
      by_cases hij : i = j
      · subst hij; rw [h5]; simp [hek]
      · rw [if_neg hij, if_neg hij]
    refine sP_i ?_ (h (.map (es.modify i fun e => (e.1, v, e.2.2)) clk) ⟨by rw [put_len]; exact h1, _, _, by rw [put_get h1, if_pos rfl], by rw [hmod]; exact a3⟩)
    simp only [aop, Opd.ev, h2, hv, if_true, hfi, AH.put]
  · rw [h4] at a1; simp at a1
theorem g_mlen {H : AH} {b : Nat} {k : AV → Prop} {es : List (AV × AV × Nat)} {clk : Nat} (hg : H.get b = .map es clk) (h : k (.int .i64 es.length)) : gP (aLen .map (.map b) H) k :=
  gP_i (by simp only [aLen, hg]) h
end

theorem MapE.at {K : KeyK} {κ : Type} {enc : κ → AV} {f : κ → Option AV} {H : AH} {b st : Nat} {x : κ} (h : MapE K enc f H b x st) : MapAt K enc f H b := by
  obtain ⟨h1, es, clk, i, e, h2, h3, _⟩ := h
  exact ⟨h1, es, clk, h2, h3⟩

theorem keyI : Keyed (.scal .int) (AV.int .i64) := fun a b => by
  simp only [keyEq, cellEq, if_true, Option.some.injEq]
  rw [Bool.eq_iff_iff]; simp
theorem keyS : Keyed (.scal .str) AV.str := fun a b => by
  simp only [keyEq, cellEq, Option.some.injEq]
  rw [Bool.eq_iff_iff]; simp
def enc2 (p : List UInt8 × List UInt8) : AV := .agg [.str p.1, .str p.2]
theorem key2 : Keyed (.struct [.str, .str]) enc2 := fun a b => by
  simp only [keyEq, enc2, cellsEq, cellEq, Option.bind_some, Option.some.injEq]
  rw [Bool.eq_iff_iff]
  cases a; cases b
  simp
end Go.SV
