/- Contracts: a document that is read, kids of the last one that is open. Own text of the prover; nothing is assumed. -/
import Derived.Test.YtkbkhdgjdikjiaaGreatDoorFa
set_option maxRecDepth 100000
namespace Go.SV

variable {T : Nat → Option Entry}

/-- Kids as a row with a token of its own. -/
def kidV (t : Nat) (n : Nd) : AV := if n.kids = [] then .nils else .sl t 1 (iv n.kids)
def nmV (f : List UInt8 → Option Int) : List UInt8 → Option AV := fun k => (f k).map (AV.int .i64)

/-- The nodes' cells. -/
def GC (tk : Nat → Nat) (g : List Nd) (c : List AV) : Prop :=
  c.all AV.isCell = true ∧ c.length = 4 * g.length ∧ ∀ (i : Nat) n, g[i]? = some n → c[4 * i]? = some (.int .i64 n.kind) ∧ c[4 * i + 1]? = some (.str n.tag) ∧ c[4 * i + 2]? = some (.str n.text) ∧ c[4 * i + 3]? = some (kidV (tk i) n)

structure DocA (H0 H : AH) (b : Nat) (R : List (Nat × (Nat × Nat))) (d : Dc) (gv ov mv : AV) (tk : Nat → Nat) : Prop where
  hold : Holds H b [gv, ov, mv]
  lb : H0.obs.length ≤ b
  lt : H0.toks.length ≤ H.toks.length
  gr : (gv = .nils ∧ d.g = []) ∨ ∃ bg c, gv = .slr bg 0 d.g.length 4 ∧ Holds H bg c ∧ H0.obs.length ≤ bg ∧ bg ≠ b ∧ GC tk d.g c ∧ ∀ bo n, ov = .slr bo 0 n 1 → bg ≠ bo
  kt : ∀ (i : Nat) n, d.g[i]? = some n → n.kids ≠ [] → H0.toks.length ≤ tk i ∧ H.toks[tk i]? = some (n.kids.length, 1)
  ki : ∀ (i j : Nat) n m, d.g[i]? = some n → d.g[j]? = some m → n.kids ≠ [] → m.kids ≠ [] → tk i = tk j → i = j
  orow : (ov = .nils ∧ d.op = []) ∨ ∃ bo c, ov = .slr bo 0 d.op.length 1 ∧ Holds H bo c ∧ H0.obs.length ≤ bo ∧ bo ≠ b ∧ c.all AV.isCell = true ∧ d.op.length ≤ c.length ∧ ∀ (i : Nat) k, d.op[i]? = some k → c[i]? = some (.int .i64 k)
  opin : ∀ k ∈ d.op, 0 ≤ k ∧ k < d.g.length
  nms : ∃ bm, mv = .map bm ∧ MapAt (.scal .str) AV.str (nmV d.nm) H bm ∧ H0.obs.length ≤ bm ∧ bm ≠ b
  nmin : ∀ k a, d.nm k = some a → 0 ≤ a ∧ a < d.g.length
  res : ∀ p ∈ R, H.toks[p.1]? = some p.2 ∧ ∀ (i : Nat) n, d.g[i]? = some n → n.kids ≠ [] → tk i ≠ p.1

theorem DocA.grow {H0 H H' : AH} {R : List (Nat × (Nat × Nat))} {b : Nat} {d : Dc} {gv ov mv : AV} {tk : Nat → Nat} (h : DocA H0 H b R d gv ov mv tk) (g : Grow H H') : DocA H0 H' b R d gv ov mv tk := by
  refine ⟨h.hold.grow g, h.lb, ?_, ?_, fun i n hi hn => ?_, h.ki, ?_, h.opin, ?_, h.nmin, fun p hp => ⟨by rw [g.tok (getElem?_lt (h.res p hp).1)]; exact (h.res p hp).1, (h.res p hp).2⟩⟩
  · obtain ⟨_, ⟨l, hl⟩⟩ := g
    have := h.lt
    rw [hl, List.length_append]; omega
  · rcases h.gr with r | ⟨bg, c, r1, r2, r3⟩
    · exact .inl r
    · exact .inr ⟨bg, c, r1, r2.grow g, r3⟩
  · obtain ⟨k1, k2⟩ := h.kt i n hi hn
    exact ⟨k1, by rw [g.tok (getElem?_lt k2)]; exact k2⟩
  · rcases h.orow with r | ⟨bo, c, r1, r2, r3⟩
    · exact .inl r
    · exact .inr ⟨bo, c, r1, r2.grow g, r3⟩
  · obtain ⟨bm, m1, m2, m3⟩ := h.nms
    exact ⟨bm, m1, m2.grow g, m3⟩

theorem MapAt.ne {K : KeyK} {κ : Type} {enc : κ → AV} {f : κ → Option AV} {H : AH} {b c : Nat} {l : List AV} (h : MapAt K enc f H b) (hc : Holds H c l) : b ≠ c := by
  rintro rfl
  obtain ⟨_, es, clk, h2, _⟩ := h
  rw [hc.2] at h2; cases h2

theorem s_tok {s bytes : Nat} {t : Nat} {xs ys : List AV} {t0 : Nat} {H : AH} {k : AV → AH → Prop} (ht : H.toks[t]? = some (xs.length, s)) (h0 : t ≠ 0) (hne : ys ≠ []) (hok : elemsOk s ys = true) (hb : (xs.length + ys.length) * bytes ≤ 2 ^ 47)
    (h : k (.sl t s (xs ++ ys)) ⟨H.obs, H.toks.set t (xs.length + ys.length, s)⟩) : sP (aAppend .tok s bytes (.sl t s xs) (.sl t0 s ys) H) k := by
  have he : elems s (.sl t0 s ys) H = some ys := by simp [elems]
  have hemp : ys.isEmpty = false := by cases ys with
    | nil => exact absurd rfl hne
    | cons => rfl
  refine sP_i ?_ h
  simp only [aAppend, he, hemp, hok, Bool.not_true, Bool.false_eq_true, if_false]
  rw [if_pos ⟨trivial, h0, ht, hb⟩]
theorem s_tokN {s bytes : Nat} {ys : List AV} {t0 : Nat} {H : AH} {k : AV → AH → Prop} (hne : ys ≠ []) (hok : elemsOk s ys = true) (hb : ys.length * bytes ≤ 2 ^ 47)
    (h : k (.sl H.toks.length s ys) ⟨H.obs, H.toks ++ [(ys.length, s)]⟩) : sP (aAppend .tok s bytes .nils (.sl t0 s ys) H) k := by
  have he : elems s (.sl t0 s ys) H = some ys := by simp [elems]
  have hemp : ys.isEmpty = false := by cases ys with
    | nil => exact absurd rfl hne
    | cons => rfl
  refine sP_i ?_ h
  simp only [aAppend, he, hemp, hok, Bool.not_true, Bool.false_eq_true, if_false]
  rw [if_pos hb]

/-- All that is held stays, but the nodes' cells. -/
def KeepG (gv : AV) (H H' : AH) : Prop := ∀ (c : Nat) (l : List AV), Holds H c l → (∀ bg n, gv = .slr bg 0 n 4 → c ≠ bg) → Holds H' c l

/-- One kid more: the cells. -/
theorem GC.kid {tk tk' : Nat → Nat} {g : List Nd} {c : List AV} (h : GC tk g c) {o : Nat} {n : Nd} {a : Int} (hn : g[o]? = some n) (htk : ∀ i, i ≠ o → tk' i = tk i) :
    GC tk' (g.modify o (addKid a)) (c.set (4 * o + 3) (.sl (tk' o) 1 (iv (n.kids ++ [a])))) := by
  obtain ⟨h1, h2, h3⟩ := h
  have ho := getElem?_lt hn
  refine ⟨?_, by simp [h2], fun i m hi => ?_⟩
  · rw [List.all_eq_true] at h1 ⊢
    intro x hx
    rcases List.mem_or_eq_of_mem_set hx with h | rfl
    · exact h1 x h
    · rfl
  · rw [modGet] at hi
    by_cases hio : o = i
    · subst hio
      rw [if_pos rfl, hn] at hi
      simp only [Option.map_some, Option.some.injEq] at hi
      subst hi
      obtain ⟨a1, a2, a3, a4⟩ := h3 o n hn
      rw [List.getElem?_set_ne (by omega), List.getElem?_set_ne (by omega), List.getElem?_set_ne (by omega), List.getElem?_set_self (by omega)]
      refine ⟨a1, a2, a3, ?_⟩
      simp [kidV, addKid]
    · rw [if_neg hio] at hi
      obtain ⟨a1, a2, a3, a4⟩ := h3 i m hi
      rw [List.getElem?_set_ne (by omega), List.getElem?_set_ne (by omega), List.getElem?_set_ne (by omega), List.getElem?_set_ne (by omega), htk i (fun e => hio e.symm)]
      exact ⟨a1, a2, a3, a4⟩

theorem iv_len (l : List Int) : (iv l).length = l.length := by simp
theorem iv_app (l : List Int) (a : Int) : iv l ++ [.int .i64 a] = iv (l ++ [a]) := by simp

theorem last_split {α : Type} {l : List α} : l = [] ∨ ∃ l' p, l = l' ++ [p] := by
  by_cases h : l = []
  · exact .inl h
  · exact .inr ⟨l.dropLast, l.getLast h, (List.dropLast_concat_getLast h).symm⟩

theorem kid_ok (hT : Has T) {H0 H : AH} {R : List (Nat × (Nat × Nat))} {b : Nat} {d : Dc} {gv ov mv : AV} {tk : Nat → Nat} (h : DocA H0 H b R d gv ov mv tk) (g : Grow H0 H) (hp : 0 < H0.toks.length) {N : Nat} (hN : N < 2 ^ 40) (hgl : d.g.length < 2 ^ 40) (hop : d.op.length ≤ N) (hkl : ∀ n ∈ d.g, n.kids.length ≤ N)
    {a : Int} (ha : 0 ≤ a ∧ a < d.g.length) :
    ∃ w H', Den.of T 70 [.ptr b 0, .int .i64 a] H = some (w, H') ∧ w = .int .i64 (kidD d a).2 ∧ Grow H0 H' ∧ (∃ tk', DocA H0 H' b R (kidD d a).1 gv ov mv tk') ∧ KeepG gv H H' := by
  refine w70_ok hT ?_
  unfold w70
  have hh := h.hold
  have hol : ∀ {k : AV → Prop}, k (.int .i64 d.op.length) → gP (aLen .row ov H) k := by
    intro k hk
    rcases h.orow with ⟨rfl, e⟩ | ⟨bo, c, rfl, _⟩
    · rw [e] at hk; exact g_lenN hk
    · exact g_lenR hk
  (repeat (first | (with_reducible first | refine Stp.go ?_ | (refine i_cT ?_ ?_; · first | assumption | decide | exact rfl) | (refine i_cF ?_ ?_; · first | assumption | decide | exact rfl) | (refine i_T ?_ ?_; · first | assumption | exact rfl) | (refine i_F ?_ ?_; · first | assumption | exact rfl) | (refine Sts.go ?_ ?_; · first | omega | decide) | refine Stu.go ?_) | refine g_h1 hh rfl ?_ | refine hol ?_))
  refine i_c (fun h0 => ?_) (fun h0 => ?_)
  · have he : d.op = [] := List.eq_nil_of_length_eq_zero (by omega)
    have hk : kidD d a = (d, 0) := by unfold kidD; rw [he]; rfl
    rw [hk]
    exact ⟨rfl, g, ⟨tk, h⟩, fun _ _ h _ => h⟩
  obtain ⟨op', o, hop'⟩ : ∃ l' p, d.op = l' ++ [p] := (last_split (l := d.op)).resolve_left (fun e => h0 (by rw [e]; rfl))
  rcases h.orow with ⟨_, e⟩ | ⟨bo, co, rfl, o2, o3, o4, o5, o6, o7⟩
  · rw [e] at h0; exact absurd rfl h0
  have hol' : d.op.length = op'.length + 1 := by rw [hop']; simp
  have ho := h.opin o (by rw [hop']; simp)
  obtain ⟨n, hn⟩ : ∃ n, d.g[o.toNat]? = some n := ⟨_, List.getElem?_eq_getElem (by omega)⟩
  rcases h.gr with ⟨_, e⟩ | ⟨bg, cg, rfl, r2, r3, r4, r5, r6⟩
  · rw [e] at hn; simp at hn
  have hlast : d.op.getLast? = some o := by rw [hop']; simp
  have hco : co[op'.length]? = some (.int .i64 o) := o7 op'.length o (by rw [hop']; simp)
  (repeat (first | (with_reducible first | refine Stp.go ?_ | (refine i_cT ?_ ?_; · first | assumption | decide | exact rfl) | (refine i_cF ?_ ?_; · first | assumption | decide | exact rfl) | (refine i_T ?_ ?_; · first | assumption | exact rfl) | (refine i_F ?_ ?_; · first | assumption | exact rfl) | (refine Sts.go ?_ ?_; · first | omega | decide) | refine Stu.go ?_) | refine g_h1 hh rfl ?_ | refine g_lenR ?_))
  have e1 : ((d.op.length : Nat) : Int) - 1 = ((op'.length : Nat) : Int) := by omega
  rw [e1]
  refine g_idxR1 ⟨by omega, by omega⟩ ?_
  rw [Int.toNat_natCast]
  refine g_h1 o2 hco ?_
  refine g_idxR ⟨by omega, by omega⟩ ?_
  rw [Nat.zero_add]
  obtain ⟨q1, q2, q3, q4⟩ := r5.2.2 _ n hn
  have hka : ∃ m, d.g[a.toNat]? = some m ∧ kindAt d.g a = m.kind := by
    refine ⟨d.g[a.toNat]'(by omega), List.getElem?_eq_getElem (by omega), ?_⟩
    simp [kindAt, List.getElem?_eq_getElem (show a.toNat < d.g.length by omega)]
  obtain ⟨m, hm, hmk⟩ := hka
  obtain ⟨p1, _, _, _⟩ := r5.2.2 _ m hm
  have hkidD : kidD d a = if n.kind = 2 ∧ n.kids.length % 2 = 0 ∧ kindAt d.g a ≠ 0 then (d, 5) else (⟨d.g.modify o.toNat (addKid a), d.op, d.nm⟩, 0) := by
    unfold kidD
    rw [hlast]
    simp only [hn]
  have hnl := hkl n (List.mem_of_getElem? hn)
  have e4 : o.toNat * 4 = 4 * o.toNat := by omega
  rw [e4]
  refine j1 (fun x H' => x = .bool (decide (n.kind = 2 ∧ n.kids.length % 2 = 0 ∧ kindAt d.g a ≠ 0)) ∧ H = H') ?_ ?_
  rotate_left
  · intro j hj
    refine Stp.go ?_
    refine Stp.go ?_
    refine g_h1 r2 (v := .int .i64 n.kind) (by simpa using q1) ?_
    refine Stp.go ?_
    refine Stp.go ?_
    refine i_c (fun h2 => ?_) (fun h2 => ?_)
    rotate_left
    · exact hj _ _ ⟨by rw [decide_eq_false (fun e => h2 e.1)], rfl⟩
    refine Stp.go ?_
    refine Stp.go ?_
    refine g_h1 r2 (v := kidV (tk o.toNat) n) q4 ?_
    have hlk : ∀ {k : AV → Prop}, k (.int .i64 n.kids.length) → gP (aLen .row (kidV (tk o.toNat) n) H) k := by
      intro k hk
      unfold kidV
      split
      · rename_i e; rw [e] at hk; exact g_lenN hk
      · exact g_lenL (by rw [iv_len]; exact hk)
    refine hlk ?_
    refine g_rem (by decide) ?_
    refine Stp.go ?_
    refine Stp.go ?_
    have hr : ((n.kids.length : Int)).tmod 2 = ((n.kids.length % 2 : Nat) : Int) := by rw [Int.tmod_eq_emod_of_nonneg (by omega)]; omega
    rw [hr]
    refine i_c (fun h3 => ?_) (fun h3 => ?_)
    rotate_left
    · exact hj _ _ ⟨by rw [decide_eq_false (fun e => h3 (by have := e.2.1; omega))], rfl⟩
    refine Stp.go ?_
    refine Stp.go ?_
    refine g_h1 hh rfl ?_
    refine g_idxR ⟨ha.1, by omega⟩ ?_
    refine Stp.go ?_
    refine g_h1 r2 (v := .int .i64 m.kind) (by rw [show 0 + a.toNat * 4 + 0 = 4 * a.toNat by omega]; exact p1) ?_
    refine Stp.go ?_
    refine hj _ _ ⟨?_, rfl⟩
    congr 1
    rw [Bool.eq_iff_iff, hmk]
    have h3' : n.kids.length % 2 = 0 := by omega
    simp [h2, h3']
  rintro _ _ ⟨rfl, rfl⟩
  refine i_c (fun hc => ?_) (fun hc => ?_)
  · rw [hkidD, if_pos hc]
    exact ⟨rfl, g, ⟨tk, h⟩, fun _ _ h _ => h⟩
  rw [hkidD, if_neg hc]
  refine Stp.go ?_
  refine Stp.go ?_
  refine g_h1 r2 (v := kidV (tk o.toNat) n) q4 ?_
  refine s_lit rfl ?_
  -- the new heap, once the row has the kid
  have fin : ∀ (tk' : Nat → Nat) (H3 : AH), H3.obs = H.obs → Grow H0 H3 → (∀ i, i ≠ o.toNat → tk' i = tk i) → H3.toks[tk' o.toNat]? = some (n.kids.length + 1, 1) → H0.toks.length ≤ tk' o.toNat →
      (∀ (i : Nat) n', d.g[i]? = some n' → i ≠ o.toNat → n'.kids ≠ [] → H3.toks[tk i]? = some (n'.kids.length, 1) ∧ tk i ≠ tk' o.toNat) → (∀ p ∈ R, H3.toks[p.1]? = some p.2 ∧ tk' o.toNat ≠ p.1) →
      gP (aNilck (.ptr bg (4 * o.toNat))) fun x62 => gP (aFieldAddr 3 x62) fun x63 => hP (aStore 1 x63 (.sl (tk' o.toNat) 1 (iv (n.kids ++ [a]))) H3) fun H4 => AV.int .i64 0 = .int .i64 ((⟨d.g.modify o.toNat (addKid a), d.op, d.nm⟩ : Dc), (0 : Int)).2 ∧ Grow H0 H4 ∧ (∃ tk', DocA H0 H4 b R ((⟨d.g.modify o.toNat (addKid a), d.op, d.nm⟩ : Dc), (0 : Int)).1 (.slr bg 0 d.g.length 4) (.slr bo 0 d.op.length 1) mv tk') ∧ KeepG (.slr bg 0 d.g.length 4) H H4 := by
    intro tk' H3 hobs g3 htk ht ht0 hoth hres
    have r2' := r2.obs' hobs
    have hcl := r5.2.1
    have ho2 := getElem?_lt hn
    refine Stp.go ?_
    refine Stp.go ?_
    refine h_one r2' (by omega) rfl fun cc => ?_
    have hmodl : (d.g.modify o.toNat (addKid a)).length = d.g.length := by simp
    refine ⟨rfl, g3.put r3, ⟨tk', ⟨(hh.obs' hobs).put r2'.1 r4.symm, h.lb, ?_, ?_, fun i n' hi hk => ?_, fun i j n1 n2 hi hj k1 k2 he => ?_, ?_, fun k hk => ?_, ?_, fun k a' hk => ?_, fun p hp => ⟨(hres p hp).1, fun i n' hi hk => ?_⟩⟩⟩, ?_⟩
    · have hl3 : H0.toks.length ≤ H3.toks.length := by
        obtain ⟨_, ⟨l, hl⟩⟩ := g3
        rw [hl, List.length_append]; omega
      exact hl3
    · exact .inr ⟨bg, _, by simp, cc, r3, r4, r5.kid hn htk, r6⟩
    · show H0.toks.length ≤ tk' i ∧ H3.toks[tk' i]? = _
      have hi' : (d.g.modify o.toNat (addKid a))[i]? = some n' := hi
      rw [modGet] at hi'
      by_cases hio : o.toNat = i
      · subst hio
        rw [if_pos rfl, hn] at hi'
        simp only [Option.map_some, Option.some.injEq] at hi'
        subst hi'
        exact ⟨ht0, by rw [ht]; simp [addKid]⟩
      · rw [if_neg hio] at hi'
        rw [htk i (fun e => hio e.symm)]
        exact ⟨(h.kt i n' hi' hk).1, (hoth i n' hi' (fun e => hio e.symm) hk).1⟩
    · have hi' : (d.g.modify o.toNat (addKid a))[i]? = some n1 := hi
      have hj' : (d.g.modify o.toNat (addKid a))[j]? = some n2 := hj
      rw [modGet] at hi' hj'
      by_cases hio : o.toNat = i
      · by_cases hjo : o.toNat = j
        · omega
        · rw [if_neg hjo] at hj'
          have := (hoth j n2 hj' (fun e => hjo e.symm) k2).2
          subst hio
          rw [htk j (fun e => hjo e.symm)] at he
          exact absurd he.symm this
      · rw [if_neg hio] at hi'
        rw [htk i (fun e => hio e.symm)] at he
        by_cases hjo : o.toNat = j
        · subst hjo
          exact absurd he (hoth i n1 hi' (fun e => hio e.symm) k1).2
        · rw [if_neg hjo] at hj'
          rw [htk j (fun e => hjo e.symm)] at he
          exact h.ki i j n1 n2 hi' hj' k1 k2 he
    · have hbb := r6 bo d.op.length rfl
      exact .inr ⟨bo, co, rfl, (o2.obs' hobs).put r2'.1 hbb.symm, o3, o4, o5, o6, o7⟩
    · have := h.opin k hk
      simp only [hmodl]; exact this
    · obtain ⟨bm, m1, m2, m3, m4⟩ := h.nms
      have m2' : MapAt (.scal .str) AV.str (nmV d.nm) H3 bm := by
        obtain ⟨x1, es, clk, x2, x3⟩ := m2
        refine ⟨by rw [hobs]; exact x1, es, clk, ?_, x3⟩
        rw [← x2]; simp only [AH.get, hobs]
      exact ⟨bm, m1, m2'.put r2'.1 (m2'.ne r2'), m3, m4⟩
    · have := h.nmin k a' hk
      simp only [hmodl]; exact this
    · have hi' : (d.g.modify o.toNat (addKid a))[i]? = some n' := hi
      rw [modGet] at hi'
      by_cases hio : o.toNat = i
      · rw [← hio]; exact (hres p hp).2
      · rw [if_neg hio] at hi'
        rw [htk i (fun e => hio e.symm)]
        exact (h.res p hp).2 i n' hi' hk
    · intro c l hc hne
      exact (hc.obs' hobs).put r2'.1 (hne bg _ rfl)
  by_cases hk0 : n.kids = []
  · have hkv : kidV (tk o.toNat) n = .nils := by rw [kidV, if_pos hk0]
    rw [hkv]
    obtain ⟨tk', ht, hto⟩ : ∃ tk' : Nat → Nat, tk' o.toNat = H.toks.length ∧ ∀ i, i ≠ o.toNat → tk' i = tk i := ⟨fun i => if i = o.toNat then H.toks.length else tk i, if_pos rfl, fun i hi => if_neg hi⟩
    have hkl1 : (n.kids ++ [a]) = [a] := by rw [hk0]; rfl
    have key := fin tk' ⟨H.obs, H.toks ++ [(1, 1)]⟩ rfl
      (g.trans ⟨⟨[], by simp⟩, ⟨[(1, 1)], rfl⟩⟩) hto (by rw [ht, hk0]; simp) (by rw [ht]; exact h.lt) (fun i n' hi hio hk => by
        have hh := (h.kt i n' hi hk).2
        have hl := getElem?_lt hh
        refine ⟨by show (H.toks ++ [(1, 1)])[tk i]? = _; rw [List.getElem?_append_left hl]; exact hh, by rw [ht]; omega⟩) (fun p hp => by
        have hh := (h.res p hp).1
        have hl := getElem?_lt hh
        exact ⟨by show (H.toks ++ [(1, 1)])[p.1]? = _; rw [List.getElem?_append_left hl]; exact hh, by rw [ht]; omega⟩)
    rw [ht, hkl1] at key
    exact s_tokN (by simp) rfl (by simp) key
  · have hkv : kidV (tk o.toNat) n = .sl (tk o.toNat) 1 (iv n.kids) := by rw [kidV, if_neg hk0]
    rw [hkv]
    obtain ⟨t0, t1⟩ := h.kt _ n hn hk0
    have tl := getElem?_lt t1
    have hgt : Grow H0 ⟨H.obs, H.toks.set (tk o.toNat) (n.kids.length + 1, 1)⟩ := by
      obtain ⟨go, ⟨l, hl⟩⟩ := g
      refine ⟨go, ?_⟩
      show ∃ l', H.toks.set _ _ = _
      rw [hl, List.set_append_right _ _ t0]
      exact ⟨_, rfl⟩
    have key := fin tk ⟨H.obs, H.toks.set (tk o.toNat) (n.kids.length + 1, 1)⟩ rfl hgt (fun _ _ => rfl) (by show (H.toks.set _ _)[_]? = _; rw [List.getElem?_set_self tl]) t0 (fun i n' hi hio hk => by
        have hne : tk i ≠ tk o.toNat := fun e => hio (h.ki i _ n' n hi hn hk hk0 e)
        refine ⟨?_, hne⟩
        show (H.toks.set _ _)[tk i]? = _
        rw [List.getElem?_set_ne hne.symm]
        exact (h.kt i n' hi hk).2) (fun p hp => by
        have hne := (h.res p hp).2 _ n hn hk0
        refine ⟨?_, hne⟩
        show (H.toks.set _ _)[p.1]? = _
        rw [List.getElem?_set_ne hne]
        exact (h.res p hp).1)
    rw [← iv_app] at key
    refine s_tok (by rw [iv_len]; exact t1) (by omega) (by simp) rfl (by rw [iv_len]; simp; omega) ?_
    rw [iv_len]
    exact key

end Go.SV
