/- Contracts: a node that a document is given. Own text of the prover; nothing is assumed. -/
import Derived.Test.YtkbkhdgjdikjiaaGreatDoorFb
set_option maxRecDepth 100000
namespace Go.SV

variable {T : Nat → Option Entry}

/-- What a rule for a new row leaves as it was. -/
def KeepR (b : Nat) (v : AV) (H H' : AH) : Prop := ∀ (c : Nat) (l : List AV), Holds H c l → c ≠ b → (∀ x o n s, v = .slr x o n s → c ≠ x) → Holds H' c l

/-- A node more. -/
theorem s_addN {H0 H : AH} {R : List (Nat × (Nat × Nat))} {b : Nat} {d : Dc} {gv ov mv : AV} {tk : Nat → Nat} (h : DocA H0 H b R d gv ov mv tk) (g : Grow H0 H) (hl : d.g.length < 2 ^ 40) (kind : Int) (tag text : List UInt8) {k : AH → Prop}
    (hk : ∀ gv' H', DocA H0 H' b R ⟨d.g ++ [⟨kind, tag, text, []⟩], d.op, d.nm⟩ gv' ov mv tk → Grow H0 H' → KeepR b gv H H' → H.obs.length ≤ H'.obs.length → (∀ bg n, gv' = .slr bg 0 n 4 → H.obs.length ≤ bg) → k H') :
    sP (aAppend .ref 4 64 gv (.sl 0 4 [.agg [.int .i64 kind, .str tag, .str text, .nils]]) H) fun x47 H7 => gP (aNilck (.ptr b 0)) fun x48 => gP (aFieldAddr 0 x48) fun x49 => hP (aStore 1 x49 x47 H7) k := by
  have hh := h.hold
  have lH := g.len
  have hb := hh.1
  -- what holds of a heap in which the new row lies
  have fin : ∀ (H6 : AH) (c6 : List AV), H6.toks = H.toks → Grow H0 H6 → Holds H6 b [gv, ov, mv] → (∀ (c : Nat) (l : List AV), Holds H c l → (∀ x o n s, gv = .slr x o n s → c ≠ x) → Holds H6 c l) → (∀ (c : Nat) es clk, c < H.obs.length → H.get c = .map es clk → H6.get c = .map es clk) → Holds H6 H.obs.length c6 → GC tk (d.g ++ [⟨kind, tag, text, []⟩]) c6 →
      gP (aNilck (.ptr b 0)) fun x48 => gP (aFieldAddr 0 x48) fun x49 => hP (aStore 1 x49 (.slr H.obs.length 0 (d.g.length + 1) 4) H6) k := by
    intro H6 c6 htk g6 hh6 hkeep hmap hc6 hgc
    refine Stp.go ?_
    refine Stp.go ?_
    refine h_one hh6 (by simp) rfl fun cc => ?_
    have hb6 := hh6.1
    refine hk (.slr H.obs.length 0 (d.g.length + 1) 4) _ ⟨cc, h.lb, by show H0.toks.length ≤ H6.toks.length; rw [htk]; exact h.lt, .inr ⟨H.obs.length, c6, by simp, hc6.put hb6 (by omega), lH, by omega, hgc, fun bo n e => ?_⟩, fun i n hi hn => ?_, fun i j n m hi hj hn hm he => ?_, ?_, fun k hk' => ?_, ?_, fun k a hka => ?_, fun p hp => ⟨by show H6.toks[p.1]? = _; rw [htk]; exact (h.res p hp).1, fun i n hi hn => ?_⟩⟩
      (g6.put h.lb) (fun c l hc hne hx => (hkeep c l hc hx).put hb6 hne) (by rw [put_len]; exact Nat.le_of_lt hc6.1 |> fun h => by have := hc6.1; omega) (fun bg n e => by cases e; exact Nat.le_refl _)
    · rcases h.orow with ⟨e2, _⟩ | ⟨bo', c, e2, o2, _⟩
      · rw [e2] at e; cases e
      · rw [e2] at e; cases e; have := o2.1; omega
    · have hi' : (d.g ++ [⟨kind, tag, text, []⟩])[i]? = some n := hi
      by_cases hil : i < d.g.length
      · rw [List.getElem?_append_left hil] at hi'
        obtain ⟨k1, k2⟩ := h.kt i n hi' hn
        exact ⟨k1, by show H6.toks[tk i]? = _; rw [htk]; exact k2⟩
      · rw [List.getElem?_append_right (by omega)] at hi'
        have : n = ⟨kind, tag, text, []⟩ := by
          have := List.mem_of_getElem? hi'
          simpa using this
        subst this
        exact absurd rfl hn
    · have hi' : (d.g ++ [⟨kind, tag, text, []⟩])[i]? = some n := hi
      have hj' : (d.g ++ [⟨kind, tag, text, []⟩])[j]? = some m := hj
      have old : ∀ {i : Nat} {n : Nd}, (d.g ++ [⟨kind, tag, text, []⟩])[i]? = some n → n.kids ≠ [] → d.g[i]? = some n := by
        intro i n hi hn
        by_cases hil : i < d.g.length
        · rw [List.getElem?_append_left hil] at hi; exact hi
        · rw [List.getElem?_append_right (by omega)] at hi
          have := List.mem_of_getElem? hi
          simp only [List.mem_singleton] at this
          subst this
          exact absurd rfl hn
      exact h.ki i j n m (old hi' hn) (old hj' hm) hn hm he
    · rcases h.orow with r | ⟨bo, c, r1, r2, r3, r4, r5⟩
      · exact .inl r
      · refine .inr ⟨bo, c, r1, (hkeep bo c r2 (fun x o n s e => ?_)).put hb6 r4, r3, r4, r5⟩
        rcases h.gr with ⟨e2, _⟩ | ⟨bg, cg, e2, _, _, _, _, e3⟩
        · rw [e2] at e; cases e
        · have h9 := (e3 bo _ r1).symm
          rw [e2] at e; cases e; exact h9
    · have := h.opin k hk'
      simp only [List.length_append, List.length_singleton]; omega
    · obtain ⟨bm, m1, ⟨m2, es, clk, m3, m4⟩, m5, m6⟩ := h.nms
      refine ⟨bm, m1, MapAt.put ⟨?_, es, clk, hmap bm es clk m2 m3, m4⟩ hb6 m6, m5, m6⟩
      have := hc6.1; omega
    · have := h.nmin k a hka
      simp only [List.length_append, List.length_singleton]; omega
    · have hi' : (d.g ++ [⟨kind, tag, text, []⟩])[i]? = some n := hi
      by_cases hil : i < d.g.length
      · rw [List.getElem?_append_left hil] at hi'
        exact (h.res p hp).2 i n hi' hn
      · rw [List.getElem?_append_right (by omega)] at hi'
        have := List.mem_of_getElem? hi'
        simp only [List.mem_singleton] at this
        subst this
        exact absurd rfl hn
  have cellsN : ([AV.agg [.int .i64 kind, .str tag, .str text, .nils]].flatMap AV.cells) = [.int .i64 kind, .str tag, .str text, .nils] := rfl
  have newN : ∀ (i : Nat) n, [(⟨kind, tag, text, []⟩ : Nd)][i]? = some n → i = 0 ∧ n = ⟨kind, tag, text, []⟩ := by
    intro i n hi
    have := getElem?_lt hi
    simp only [List.length_singleton] at this
    have h0 : i = 0 := by omega
    subst h0
    simp at hi
    exact ⟨rfl, hi.symm⟩
  rcases h.gr with ⟨rfl, e⟩ | ⟨bg, cg, rfl, r2, r3, r4, r5, r6⟩
  · refine s_appN (by simp) rfl (by simp) ?_
    rw [cellsN]
    have key := fin (H.push (.cells [.int .i64 kind, .str tag, .str text, .nils])) _ rfl g.pushed (hh.pushed _) (fun c l hc _ => hc.pushed _) (fun c es clk hc hg => by rw [push_old hc]; exact hg) (Holds.push _ _) (by
      rw [e]
      refine ⟨rfl, rfl, fun i n hi => ?_⟩
      obtain ⟨rfl, rfl⟩ := newN i n (by simpa using hi)
      exact ⟨rfl, rfl, rfl, by simp [kidV]⟩)
    rw [e] at key
    exact key
  · obtain ⟨g1, g2, g3⟩ := r5
    refine s_appR r2 (by omega) g1 (by simp) rfl (by simp; omega) ?_
    rw [cellsN]
    have lp : (H.put bg .dead).obs.length = H.obs.length := put_len _ _ _
    have c6 := Holds.push (H.put bg .dead) (cg.take (d.g.length * 4) ++ [.int .i64 kind, .str tag, .str text, .nils])
    rw [lp] at c6
    refine fin _ _ rfl ((g.put r3).pushed) ((hh.put r2.1 r4.symm).pushed _) (fun c l hc hx => (hc.put r2.1 (hx bg _ _ _ rfl)).pushed _) (fun c es clk hc hg => ?_) c6 ?_
    · have hne : c ≠ bg := by rintro rfl; rw [r2.2] at hg; cases hg
      rw [push_old (by rw [lp]; exact hc), put_get r2.1, if_neg hne]; exact hg
    · have ht : cg.take (d.g.length * 4) = cg := List.take_of_length_le (by omega)
      rw [ht]
      refine ⟨by rw [List.all_append, g1]; rfl, by simp [g2]; omega, fun i n hi => ?_⟩
      by_cases hil : i < d.g.length
      · rw [List.getElem?_append_left hil] at hi
        rw [List.getElem?_append_left (by omega), List.getElem?_append_left (by omega), List.getElem?_append_left (by omega), List.getElem?_append_left (by omega)]
        exact g3 i n hi
      · rw [List.getElem?_append_right (by omega)] at hi
        obtain ⟨h1, rfl⟩ := newN _ n hi
        have hi2 : i = d.g.length := by omega
        subst hi2
        rw [List.getElem?_append_right (by omega), List.getElem?_append_right (by omega), List.getElem?_append_right (by omega), List.getElem?_append_right (by omega), g2, show 4 * d.g.length - 4 * d.g.length = 0 by omega, show 4 * d.g.length + 1 - 4 * d.g.length = 1 by omega, show 4 * d.g.length + 2 - 4 * d.g.length = 2 by omega, show 4 * d.g.length + 3 - 4 * d.g.length = 3 by omega]
        exact ⟨rfl, rfl, rfl, by simp [kidV]⟩

/-- A list or a map more that is open. -/
theorem s_addO {H0 H : AH} {R : List (Nat × (Nat × Nat))} {b : Nat} {d : Dc} {gv ov mv : AV} {tk : Nat → Nat} (h : DocA H0 H b R d gv ov mv tk) (g : Grow H0 H) (hl : d.op.length < 2 ^ 40) {a : Int} (ha : 0 ≤ a ∧ a < d.g.length) {k : AH → Prop}
    (hk : ∀ ov' H', DocA H0 H' b R ⟨d.g, d.op ++ [a], d.nm⟩ gv ov' mv tk → Grow H0 H' → k H') :
    sP (aAppend .ref 1 8 ov (.sl 0 1 [.int .i64 a]) H) fun x73 H13 => gP (aNilck (.ptr b 0)) fun x74 => gP (aFieldAddr 1 x74) fun x75 => hP (aStore 1 x75 x73 H13) k := by
  have hh := h.hold
  have lH := g.len
  have hb := hh.1
  have fin : ∀ (H6 : AH) (c6 : List AV), H6.toks = H.toks → Grow H0 H6 → Holds H6 b [gv, ov, mv] → (∀ (c : Nat) (l : List AV), Holds H c l → (∀ x o n s, ov = .slr x o n s → c ≠ x) → Holds H6 c l) → (∀ (c : Nat) es clk, c < H.obs.length → H.get c = .map es clk → H6.get c = .map es clk) → Holds H6 H.obs.length c6 →
      c6.all AV.isCell = true → d.op.length + 1 ≤ c6.length → (∀ (i : Nat) k, (d.op ++ [a])[i]? = some k → c6[i]? = some (.int .i64 k)) →
      gP (aNilck (.ptr b 0)) fun x74 => gP (aFieldAddr 1 x74) fun x75 => hP (aStore 1 x75 (.slr H.obs.length 0 (d.op.length + 1) 1) H6) k := by
    intro H6 c6 htk g6 hh6 hkeep hmap hc6 h1 h2 h3
    refine Stp.go ?_
    refine Stp.go ?_
    refine h_one hh6 (by simp) rfl fun cc => ?_
    have hb6 := hh6.1
    refine hk (.slr H.obs.length 0 (d.op.length + 1) 1) _ ⟨cc, h.lb, by show H0.toks.length ≤ H6.toks.length; rw [htk]; exact h.lt, ?_, fun i n hi hn => ?_, h.ki, .inr ⟨H.obs.length, c6, by simp, hc6.put hb6 (by omega), lH, by omega, h1, by simpa using h2, h3⟩, fun k hk' => ?_, ?_, h.nmin, fun p hp => ⟨by show H6.toks[p.1]? = _; rw [htk]; exact (h.res p hp).1, (h.res p hp).2⟩⟩ (g6.put h.lb)
    · rcases h.gr with r | ⟨bg, cg, r1, r2, r3, r4, r5, r6⟩
      · exact .inl r
      · refine .inr ⟨bg, cg, r1, (hkeep bg cg r2 (fun x o n s e => ?_)).put hb6 r4, r3, r4, r5, fun bo n e => by cases e; have := r2.1; omega⟩
        rcases h.orow with ⟨e2, _⟩ | ⟨bo, c, e2, _⟩
        · rw [e2] at e; cases e
        · have h9 := r6 bo _ e2
          rw [e2] at e; cases e; exact h9
    · obtain ⟨k1, k2⟩ := h.kt i n hi hn
      exact ⟨k1, by show H6.toks[tk i]? = _; rw [htk]; exact k2⟩
    · simp only [List.mem_append, List.mem_singleton] at hk'
      rcases hk' with hk' | rfl
      · exact h.opin k hk'
      · exact ha
    · obtain ⟨bm, m1, ⟨m2, es, clk, m3, m4⟩, m5, m6⟩ := h.nms
      refine ⟨bm, m1, MapAt.put ⟨?_, es, clk, hmap bm es clk m2 m3, m4⟩ hb6 m6, m5, m6⟩
      have := hc6.1; omega
  rcases h.orow with ⟨rfl, e⟩ | ⟨bo, co, rfl, r2, r3, r4, r5, r6, r7⟩
  · refine s_appN (by simp) rfl (by simp) ?_
    have key := fin (H.push (.cells [.int .i64 a])) _ rfl g.pushed (hh.pushed _) (fun c l hc _ => hc.pushed _) (fun c es clk hc hg => by rw [push_old hc]; exact hg) (Holds.push _ _) rfl (by rw [e]; simp) (fun i k hi => by
      rw [e] at hi
      have := getElem?_lt hi
      simp only [List.nil_append, List.length_singleton] at this
      have h0 : i = 0 := by omega
      subst h0
      simp at hi
      subst hi; rfl)
    rw [e] at key
    exact key
  · refine s_appR r2 (by omega) r5 (by simp) rfl (by simp; omega) ?_
    have lp : (H.put bo .dead).obs.length = H.obs.length := put_len _ _ _
    have c6 := Holds.push (H.put bo .dead) (co.take (d.op.length * 1) ++ [AV.int .i64 a].flatMap AV.cells)
    rw [lp] at c6
    refine fin _ _ rfl ((g.put r3).pushed) ((hh.put r2.1 r4.symm).pushed _) (fun c l hc hx => (hc.put r2.1 (hx bo _ _ _ rfl)).pushed _) (fun c es clk hc hg => ?_) c6 ?_ ?_ fun i k hi => ?_
    · have hne : c ≠ bo := by rintro rfl; rw [r2.2] at hg; cases hg
      rw [push_old (by rw [lp]; exact hc), put_get r2.1, if_neg hne]; exact hg
    · rw [List.all_append, Bool.and_eq_true]
      exact ⟨by simpa using cells_take (n := d.op.length * 1) r5, rfl⟩
    · rw [List.length_append, List.length_take]
      show d.op.length + 1 ≤ min (d.op.length * 1) co.length + 1
      omega
    · have hl2 : (co.take (d.op.length * 1)).length = d.op.length := by simp; omega
      by_cases hil : i < d.op.length
      · rw [List.getElem?_append_left hil] at hi
        rw [List.getElem?_append_left (by omega), List.getElem?_take, if_pos (by omega)]
        exact r7 i k hi
      · have hil2 := getElem?_lt hi
        rw [List.length_append, List.length_singleton] at hil2
        have : i = d.op.length := by omega
        subst this
        rw [get_snoc_of] at hi
        simp only [Option.some.injEq] at hi
        subst hi
        rw [List.getElem?_append_right (by omega), hl2, Nat.sub_self]
        rfl

/-- A name more. -/
theorem DocA.name {H0 H : AH} {R : List (Nat × (Nat × Nat))} {b bm : Nat} {d : Dc} {gv ov : AV} {tk : Nat → Nat} (h : DocA H0 H b R d gv ov (.map bm) tk) {k : List UInt8} {a : Int} (ha : 0 ≤ a ∧ a < d.g.length) {o : AObj} (hm : MapAt (.scal .str) AV.str (setK (nmV d.nm) k (.int .i64 a)) (H.put bm o) bm) :
    DocA H0 (H.put bm o) b R ⟨d.g, d.op, setNm d.nm k a⟩ gv ov (.map bm) tk := by
  obtain ⟨bm', m1, m2, m3, m4⟩ := h.nms
  simp only [AV.map.injEq] at m1
  subst m1
  have hbm := m2.1
  have ne : ∀ {c l}, Holds H c l → c ≠ bm := fun hc e => m2.ne hc e.symm
  refine ⟨h.hold.put hbm (ne h.hold), h.lb, h.lt, ?_, h.kt, h.ki, ?_, h.opin, ⟨bm, rfl, ?_, m3, m4⟩, fun k' a' hk => ?_, h.res⟩
  · rcases h.gr with r | ⟨bg, c, r1, r2, r3⟩
    · exact .inl r
    · exact .inr ⟨bg, c, r1, r2.put hbm (ne r2), r3⟩
  · rcases h.orow with r | ⟨bo, c, r1, r2, r3⟩
    · exact .inl r
    · exact .inr ⟨bo, c, r1, r2.put hbm (ne r2), r3⟩
  · have e : nmV (setNm d.nm k a) = setK (nmV d.nm) k (.int .i64 a) := by
      funext x
      simp only [nmV, setNm, setK]
      split <;> rfl
    rw [e]; exact hm
  · simp only [setNm] at hk
    split at hk
    · simp only [Option.some.injEq] at hk; subst hk; exact ha
    · exact h.nmin k' a' hk

theorem kidD_op (d : Dc) (a : Int) : (kidD d a).1.op = d.op ∧ (kidD d a).1.g.length = d.g.length ∧ (kidD d a).1.nm = d.nm := by
  unfold kidD
  split
  · exact ⟨rfl, rfl, rfl⟩
  · split
    · exact ⟨rfl, rfl, rfl⟩
    · split
      · exact ⟨rfl, rfl, rfl⟩
      · exact ⟨rfl, by simp, rfl⟩

theorem DocA.gvlt {H0 H : AH} {R : List (Nat × (Nat × Nat))} {b : Nat} {d : Dc} {gv ov mv : AV} {tk : Nat → Nat} (h : DocA H0 H b R d gv ov mv tk) {x o n s : Nat} (e : gv = .slr x o n s) : x < H.obs.length := by
  rcases h.gr with ⟨e2, _⟩ | ⟨bg, c, e2, r2, _⟩
  · rw [e2] at e; cases e
  · rw [e2] at e; cases e; exact r2.1

theorem cnode_ok (hT : Has T) {H0 H : AH} {R : List (Nat × (Nat × Nat))} {b : Nat} {d : Dc} {gv ov mv : AV} {tk : Nat → Nat} (h : DocA H0 H b R d gv ov mv tk) (g : Grow H0 H) (hp : 0 < H0.toks.length) {N : Nat} (hN : N < 2 ^ 40) (hop : d.op.length ≤ N) (hkl : ∀ n ∈ d.g, n.kids.length ≤ N) (e : Ev) (htl : e.text.length < 2 ^ 60) :
    ∃ w H', Den.of T 71 [.ptr b 0, encE e] H = some (w, H') ∧ w = .int .i64 (nodeD d e).2 ∧ Grow H0 H' ∧ ((nodeD d e).2 = 0 → ∃ gv' ov' tk', DocA H0 H' b R (nodeD d e).1 gv' ov' mv tk') := by
  refine w71_ok hT ?_
  unfold w71
  refine s_box rfl rfl ?_
  have ce := Holds.push H (encE e).cells
  have hb0 := h.hold.1
  have hg0 : ∀ x o n s, gv = .slr x o n s → x < H.obs.length := fun x o n s e => h.gvlt e
  replace h := h.grow (.push H (.cells (encE e).cells))
  replace g := g.trans (.push H (.cells (encE e).cells))
  generalize H.push (.cells (encE e).cells) = H1 at *
  generalize H.obs.length = be at *
  have hgl : ∀ {k : AV → Prop} {H : AH}, k (.int .i64 d.g.length) → gP (aLen .row gv H) k := by
    intro k H hk
    rcases h.gr with ⟨rfl, e⟩ | ⟨bo, c, rfl, _⟩
    · rw [e] at hk; exact g_lenN hk
    · exact g_lenR hk
  refine Stp.go ?_
  refine Stp.go ?_
  refine g_h1 h.hold rfl ?_
  refine hgl ?_
  refine Stp.go ?_
  refine i_c (fun hl => ?_) (fun hl => ?_)
  · have hd : nodeD d e = (d, 16) := by unfold nodeD; rw [if_pos (by omega)]
    rw [hd]
    exact ⟨rfl, g, fun e => by cases e⟩
  refine g_hN ce rfl ?_
  refine c_gr (tagOf_ok hT e htl H1) fun H2 g2 => ?_
  replace ce := ce.grow g2
  replace h := h.grow g2
  replace g := g.trans g2
  clear g2
  refine Stp.go ?_
  refine Stp.go ?_
  refine Stp.go ?_
  refine Stp.go ?_
  refine i_c (fun ht => ?_) (fun ht => ?_)
  rotate_left
  · have hd : nodeD d e = (d, (tagOf e).2) := by unfold nodeD; rw [if_neg (by omega), if_pos ht]
    rw [hd]
    exact ⟨rfl, g, fun e => absurd e ht⟩
  have hd : nodeD d e = (opnD (kidD (newD d e) d.g.length).1 (kindE e.kind) d.g.length, (kidD (newD d e) d.g.length).2) := by unfold nodeD; rw [if_neg (by omega), if_neg (by simpa using ht)]
  refine Stp.go ?_
  refine Stp.go ?_
  refine g_h1 h.hold rfl ?_
  refine hgl ?_
  refine Stp.go ?_
  refine g_h1 ce rfl ?_
  refine gP_i (v := .agg [.int .i64 0, .str (tagOf e).1, .str e.text, .nils]) rfl ?_
  refine a_i ?_
  refine h_top (c' := [.int .i64 0, .str (tagOf e).1, .str e.text, .nils]) rfl rfl rfl (by simp) rfl ?_
  have cn := Holds.push H2 [.int .i64 0, .str (tagOf e).1, .str e.text, .nils]
  have g3 := Grow.push H2 (.cells [.int .i64 0, .str (tagOf e).1, .str e.text, .nils])
  generalize H2.push (.cells [.int .i64 0, .str (tagOf e).1, .str e.text, .nils]) = H3 at *
  generalize hbn : H2.obs.length = bn at *
  have hbH2 := h.hold.1
  have hbe2 := ce.1
  have hg2 : ∀ x o n s, gv = .slr x o n s → x < H2.obs.length := fun x o n s e => h.gvlt e
  refine j0 (fun H' => Grow H2 H' ∧ Holds H' bn [.int .i64 (kindE e.kind), .str (tagOf e).1, .str e.text, .nils]) ?_ ?_
  rotate_left
  · intro j hj
    have ce3 := ce.grow g3
    refine Stp.go ?_
    refine g_h1 ce3 rfl ?_
    refine Stp.go ?_
    refine i_c (fun h2 => ?_) (fun h2 => ?_)
    · refine Stp.go ?_
      refine h_one cn (by simp) rfl fun cc => ?_
      exact hj _ ⟨g3.put (by omega), by rw [kindE, if_pos h2]; exact cc⟩
    refine Stp.go ?_
    refine i_c (fun h4 => ?_) (fun h4 => ?_)
    · refine Stp.go ?_
      refine h_one cn (by simp) rfl fun cc => ?_
      exact hj _ ⟨g3.put (by omega), by rw [kindE, if_neg h2, if_pos h4]; exact cc⟩
    · exact hj _ ⟨g3, by rw [kindE, if_neg h2, if_neg h4]; exact cn⟩
  clear cn g3
  rintro H5 ⟨g3, cn⟩
  replace ce := ce.grow g3
  replace h := h.grow g3
  replace g := g.trans g3
  refine Stp.go ?_
  refine Stp.go ?_
  refine g_h1 h.hold rfl ?_
  refine g_hN cn rfl ?_
  refine s_lit rfl ?_
  have hbn5 := cn.1
  refine s_addN h g (by omega) (kindE e.kind) (tagOf e).1 e.text fun gv' H8 h8 g8 kr hlen hfresh => ?_
  have cn8 := kr bn _ cn (by omega) (fun x o n s ex => by have := hg2 x o n s ex; omega)
  have ce8 := kr be _ ce (by omega) (fun x o n s ex => by have := hg0 x o n s ex; omega)
  have hnl : (d.g ++ [(⟨kindE e.kind, (tagOf e).1, e.text, []⟩ : Nd)]).length = d.g.length + 1 := by simp
  refine j0 (fun H' => Grow H0 H' ∧ DocA H0 H' b R (newD d e) gv' ov mv tk ∧ Holds H' bn [.int .i64 (kindE e.kind), .str (tagOf e).1, .str e.text, .nils]) ?_ ?_
  rotate_left
  · intro j hj
    refine Stp.go ?_
    refine g_h1 ce8 rfl ?_
    refine Stp.go ?_
    refine Stp.go ?_
    refine i_c (fun ha => ?_) (fun ha => ?_)
    · exact hj _ ⟨g8, by rw [newD, if_pos ha]; exact h8, cn8⟩
    · refine Stp.go ?_
      refine Stp.go ?_
      refine g_h1 h8.hold rfl ?_
      refine Stp.go ?_
      refine g_h1 ce8 rfl ?_
      obtain ⟨bm, rfl, m2, m3, m4⟩ := h8.nms
      refine s_upd m2 keyS rfl fun o mo => ?_
      exact hj _ ⟨g8.put m3, by rw [newD, if_neg ha]; exact h8.name (by simp only [hnl]; omega) mo, cn8.put m2.1 (m2.ne cn8).symm⟩
  rintro H9 ⟨g9, h9, cn9⟩
  have hng : (newD d e).g.length = d.g.length + 1 := hnl
  refine c_i (kid_ok hT h9 g9 hp hN (by omega) hop (fun n hn => ?_) (a := (d.g.length : Nat)) (by omega)) ?_
  · have hn' : n ∈ d.g ++ [(⟨kindE e.kind, (tagOf e).1, e.text, []⟩ : Nd)] := hn
    simp only [List.mem_append, List.mem_singleton] at hn'
    rcases hn' with hn' | rfl
    · exact hkl n hn'
    · exact Nat.zero_le _
  rintro _ H10 ⟨rfl, g10, ⟨tk', h10⟩, kg⟩
  obtain ⟨ko, kl, _⟩ := kidD_op (newD d e) d.g.length
  have cn10 := kg bn _ cn9 (fun bg n ex => by have := hfresh bg n ex; omega)
  rw [hd]
  refine j0 (fun H' => Grow H0 H' ∧ ∃ ov', DocA H0 H' b R (opnD (kidD (newD d e) d.g.length).1 (kindE e.kind) d.g.length) gv' ov' mv tk') ?_ ?_
  · rintro H11 ⟨g11, ov', h11⟩
    exact ⟨rfl, g11, fun _ => ⟨gv', ov', tk', h11⟩⟩
  intro j hj
  refine Stp.go ?_
  refine g_h1 cn10 rfl ?_
  refine Stp.go ?_
  refine Stp.go ?_
  refine i_c (fun h0 => ?_) (fun h0 => ?_)
  · exact hj _ ⟨g10, ov, by rw [opnD, if_pos h0]; exact h10⟩
  · refine Stp.go ?_
    refine Stp.go ?_
    refine g_h1 h10.hold rfl ?_
    refine s_lit rfl ?_
    have hop' : (newD d e).op.length ≤ N := hop
    refine s_addO h10 g10 (by rw [ko]; omega) (a := (d.g.length : Nat)) (by rw [kl]; omega) fun ov' H11 h11 g11 => ?_
    exact hj _ ⟨g11, ov', by rw [opnD, if_neg h0]; exact h11⟩

end Go.SV
