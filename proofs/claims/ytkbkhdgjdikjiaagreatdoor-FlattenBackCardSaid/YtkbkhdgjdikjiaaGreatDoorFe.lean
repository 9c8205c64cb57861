/- Contracts: graphs of events. Own text of the prover; nothing is assumed. -/
import Derived.Test.YtkbkhdgjdikjiaaGreatDoorFd
set_option maxRecDepth 100000
namespace Go.SV

variable {T : Nat → Option Entry}

/-- A document that is open, and what is open of it. -/
structure Pn (d : Dc) (st : List (Int × Nat)) (i : Nat) : Prop where
  stk : ∃ s' m, st = s' ++ [(0, m)] ∧ s'.length = d.op.length ∧ ∀ p ∈ s', p.1 = 2 ∨ p.1 = 4
  gl : d.g.length ≤ 2000
  opl : d.op.length ≤ i
  kl : ∀ n ∈ d.g, n.kids.length ≤ i ∧ n.text.length < 2 ^ 30 ∧ n.tag.length < 2 ^ 30

theorem resolve_len (s : List UInt8) : (resolve s).length ≤ 5 := by
  unfold resolve
  split
  · decide
  · split
    · decide
    · split
      · decide
      · split
        · decide
        · split
          · decide
          · split <;> decide

theorem tagOf_len (e : Ev) (h : e.tag.length < 2 ^ 30) : (tagOf e).1.length < 2 ^ 30 := by
  have hn : ∀ p : List UInt8, p.length < 2 ^ 30 → (namedT e.tag p).1.length < 2 ^ 30 := by
    intro p hp
    unfold namedT
    split
    · exact hp
    · split
      · exact h
      · simp
  unfold tagOf
  split
  · exact hn _ (by decide)
  · split
    · exact hn _ (by decide)
    · split
      · split
        · have := resolve_len e.text; simp only; omega
        · split
          · decide
          · split
            · exact h
            · simp
      · simp

theorem kidD_mem {d : Dc} {a : Int} {n : Nd} (h : n ∈ (kidD d a).1.g) : ∃ n0 ∈ d.g, n = n0 ∨ n = addKid a n0 := by
  unfold kidD at h
  split at h
  · exact ⟨n, h, .inl rfl⟩
  · split at h
    · exact ⟨n, h, .inl rfl⟩
    · split at h
      · exact ⟨n, h, .inl rfl⟩
      · obtain ⟨i, hi⟩ := List.getElem?_of_mem h
        simp only at hi
        rw [modGet] at hi
        split at hi
        · simp only [Option.map_eq_some_iff] at hi
          obtain ⟨n0, h0, rfl⟩ := hi
          exact ⟨n0, List.mem_of_getElem? h0, .inr rfl⟩
        · exact ⟨n, List.mem_of_getElem? hi, .inl rfl⟩

theorem kid_kl {d : Dc} {a : Int} {i : Nat} (h : ∀ n ∈ d.g, n.kids.length ≤ i ∧ n.text.length < 2 ^ 30 ∧ n.tag.length < 2 ^ 30) : ∀ n ∈ (kidD d a).1.g, n.kids.length ≤ i + 1 ∧ n.text.length < 2 ^ 30 ∧ n.tag.length < 2 ^ 30 := by
  intro n hn
  obtain ⟨n0, h0, rfl | rfl⟩ := kidD_mem hn
  · have := h _ h0; exact ⟨by omega, this.2⟩
  · have := h _ h0
    simp only [addKid, List.length_append, List.length_singleton]
    exact ⟨by omega, this.2⟩

theorem rightE_kind {e : Ev} (h : rightE e = true) : 0 ≤ e.kind ∧ e.kind ≤ 7 := by
  unfold rightE at h
  split at h
  · cases h
  · rename_i hk
    constructor
    · rcases Int.lt_or_le e.kind 0 with h1 | h1
      · exact absurd (.inl h1) hk
      · exact h1
    · rcases Int.lt_or_le 7 e.kind with h1 | h1
      · exact absurd (.inr (.inl h1)) hk
      · exact h1

theorem Pn.ends {d : Dc} {st st' : List (Int × Nat)} {i : Nat} {e : Ev} (h : Pn d st i) (hk : e.kind = 1) (hs : nestS st e = some st') : st' = [] := by
  obtain ⟨s', m, rfl, h1, h2⟩ := h.stk
  unfold nestS at hs
  rw [if_neg (by omega), if_pos hk] at hs
  cases s' with
  | nil => simp only [List.nil_append] at hs; split at hs; (simp only [Option.some.injEq] at hs; exact hs.symm); cases hs
  | cons p s' =>
    have := h2 p (by simp)
    simp only [List.cons_append] at hs
    rw [if_neg (by omega)] at hs
    cases hs

theorem Pn.pops {d : Dc} {st st' : List (Int × Nat)} {i : Nat} {e : Ev} (h : Pn d st i) (hk : e.kind = 3 ∨ e.kind = 5) (hs : nestS st e = some st') : d.op ≠ [] ∧ Pn ⟨d.g, d.op.dropLast, d.nm⟩ st' (i + 1) := by
  obtain ⟨s', m, rfl, h1, h2⟩ := h.stk
  have key : ∃ p s2, s' = p :: s2 ∧ st' = s2 ++ [(0, m)] := by
    unfold nestS at hs
    rw [if_neg (by omega), if_neg (by omega)] at hs
    cases s' with
    | nil =>
      rcases hk with hk | hk
      · rw [if_pos hk] at hs; simp at hs
      · rw [if_neg (by omega), if_pos hk] at hs; simp at hs
    | cons p s2 =>
      refine ⟨p, s2, rfl, ?_⟩
      rcases hk with hk | hk
      · rw [if_pos hk] at hs
        simp only [List.cons_append] at hs
        split at hs
        · simp only [Option.some.injEq] at hs; exact hs.symm
        · cases hs
      · rw [if_neg (by omega), if_pos hk] at hs
        simp only [List.cons_append] at hs
        split at hs
        · simp only [Option.some.injEq] at hs; exact hs.symm
        · cases hs
  obtain ⟨p, s2, rfl, rfl⟩ := key
  simp only [List.length_cons] at h1
  refine ⟨fun e => by rw [e] at h1; simp at h1, ⟨s2, m, rfl, by simp; omega, fun q hq => h2 q (by simp [hq])⟩, h.gl, by have := h.opl; simp; omega, fun n hn => ?_⟩
  have := h.kl n hn
  exact ⟨by omega, this.2⟩

theorem nest_up {st st' : List (Int × Nat)} {e : Ev} {s' : List (Int × Nat)} {m : Nat} (hst : st = s' ++ [(0, m)]) (hp : ∀ p ∈ s', p.1 = 2 ∨ p.1 = 4) (h0 : ¬ e.kind = 0) (h1 : ¬ e.kind = 1) (h3 : ¬ (e.kind = 3 ∨ e.kind = 5)) (hs : nestS st e = some st') :
    ∃ s2 m2, s2.length = s'.length ∧ (∀ p ∈ s2, p.1 = 2 ∨ p.1 = 4) ∧ st' = if e.kind = 2 ∨ e.kind = 4 then (e.kind, 0) :: (s2 ++ [(0, m2)]) else s2 ++ [(0, m2)] := by
  subst hst
  unfold nestS at hs
  rw [if_neg h0, if_neg h1, if_neg (by omega), if_neg (by omega)] at hs
  cases s' with
  | nil =>
    simp only [List.nil_append, Option.some.injEq] at hs
    exact ⟨[], m + 1, rfl, by simp, by rw [← hs]; rfl⟩
  | cons p s2 =>
    simp only [List.cons_append, Option.some.injEq] at hs
    refine ⟨(p.1, p.2 + 1) :: s2, m, rfl, fun q hq => ?_, by rw [← hs]; rfl⟩
    simp only [List.mem_cons] at hq
    rcases hq with rfl | hq
    · exact hp p (by simp)
    · exact hp q (by simp [hq])

theorem Pn.step {d : Dc} {st st' : List (Int × Nat)} {i : Nat} {e : Ev} (h : Pn d st i) (h0 : ¬ e.kind = 0) (h1 : ¬ e.kind = 1) (htx : e.text.length < 2 ^ 30) (htg : e.tag.length < 2 ^ 30) (hs : nestS st e = some st') (ho : (takeD d e).2.2 = 0) : Pn (takeD d e).1 st' (i + 1) := by
  by_cases h3 : e.kind = 3 ∨ e.kind = 5
  · have ht : takeD d e = (⟨d.g, d.op.dropLast, d.nm⟩, false, 0) := by unfold takeD; rw [if_neg h0, if_neg h1, if_pos h3]
    rw [ht]
    exact (h.pops h3 hs).2
  obtain ⟨s', m, hst, hl, hp⟩ := h.stk
  obtain ⟨s2, m2, hl2, hp2, rfl⟩ := nest_up hst hp h0 h1 h3 hs
  have hopl := h.opl
  have hgl := h.gl
  by_cases h7 : e.kind = 7
  · have hk : ¬ (e.kind = 2 ∨ e.kind = 4) := by omega
    rw [if_neg hk]
    cases hn : d.nm e.anchor with
    | none =>
      have ht : takeD d e = (d, false, 11) := by unfold takeD; rw [if_neg h0, if_neg h1, if_neg h3, if_pos h7, hn]
      rw [ht] at ho; cases ho
    | some a =>
      have ht : takeD d e = ((kidD d a).1, false, (kidD d a).2) := by unfold takeD; rw [if_neg h0, if_neg h1, if_neg h3, if_pos h7, hn]
      rw [ht]
      obtain ⟨k1, k2, _⟩ := kidD_op d a
      exact ⟨⟨s2, m2, rfl, by simp only [k1]; omega, hp2⟩, by simp only [k2]; exact hgl, by simp only [k1]; omega, kid_kl h.kl⟩
  · have ht : takeD d e = ((nodeD d e).1, false, (nodeD d e).2) := by unfold takeD; rw [if_neg h0, if_neg h1, if_neg h3, if_neg h7]
    rw [ht] at ho ⊢
    simp only at ho ⊢
    unfold nodeD at ho ⊢
    split at ho
    · cases ho
    rename_i hlt
    rw [if_neg hlt]
    split at ho
    · rename_i hne; exact absurd ho hne
    rename_i hok
    rw [if_neg hok]
    simp only
    obtain ⟨k1, k2, _⟩ := kidD_op (newD d e) d.g.length
    have hnl : (newD d e).g.length = d.g.length + 1 := by simp [newD]
    have hno : (newD d e).op = d.op := rfl
    have hkl : ∀ n ∈ (newD d e).g, n.kids.length ≤ i ∧ n.text.length < 2 ^ 30 ∧ n.tag.length < 2 ^ 30 := by
      intro n hn
      simp only [newD, List.mem_append, List.mem_singleton] at hn
      rcases hn with hn | rfl
      · exact h.kl n hn
      · exact ⟨Nat.zero_le _, htx, tagOf_len e htg⟩
    unfold opnD
    have hke : kindE e.kind = 0 ↔ ¬ (e.kind = 2 ∨ e.kind = 4) := by
      unfold kindE
      split
      · simp [*]
      · split <;> simp [*]
    by_cases hk : e.kind = 2 ∨ e.kind = 4
    · rw [if_pos hk, if_neg (fun e => (hke.1 e) hk)]
      refine ⟨⟨(e.kind, 0) :: s2, m2, rfl, by simp only [k1, hno, List.length_cons, List.length_append, List.length_singleton]; simp; omega, fun p hp => ?_⟩, by simp only [k2, hnl]; omega, by simp only [k1, hno]; simp; omega, kid_kl hkl⟩
      simp only [List.mem_cons] at hp
      rcases hp with rfl | hp
      · exact hk
      · exact hp2 p hp
    · rw [if_neg hk, if_pos (hke.2 hk)]
      exact ⟨⟨s2, m2, rfl, by simp only [k1, hno]; omega, hp2⟩, by simp only [k2, hnl]; omega, by simp only [k1, hno]; omega, kid_kl hkl⟩

def composeG (l : List Ev) : List (List Nd) × Int := if rightEs l = true then composeF l ⟨[], [], fun _ => none⟩ [] else ([], 5)

/-- What stands of a document, within. -/
def Dst (H0 H : AH) (b : Nat) (R : List (Nat × (Nat × Nat))) (d : Dc) (st : List (Int × Nat)) (i : Nat) : Prop :=
  (st = [] ∧ (∃ x y z, Holds H b [x, y, z]) ∧ ∀ p ∈ R, H.toks[p.1]? = some p.2) ∨ (st ≠ [] ∧ Pn d st i ∧ ∃ gv ov mv tk, DocA H0 H b R d gv ov mv tk)
def RTok (H0 : AH) (v : AV) (xs : List AV) (R : List (Nat × (Nat × Nat))) : Prop := (v = .nils ∧ xs = [] ∧ R = []) ∨ ∃ t, v = .sl t 1 xs ∧ H0.toks.length ≤ t ∧ R = [(t, (xs.length, 1))]
theorem RTok.tok {H0 H : AH} {v : AV} {xs : List AV} {R : List (Nat × (Nat × Nat))} (h : RTok H0 v xs R) (hR : ∀ p ∈ R, H.toks[p.1]? = some p.2) : Tok H0 H 1 v xs := by
  rcases h with ⟨h1, h2, _⟩ | ⟨t, h1, h2, rfl⟩
  · exact .inl ⟨h1, h2⟩
  · exact .inr ⟨t, h1, h2, hR (t, (xs.length, 1)) (by simp)⟩
theorem RTok.of {H0 H : AH} {v : AV} {xs : List AV} (h : Tok H0 H 1 v xs) : ∃ R, RTok H0 v xs R ∧ ∀ p ∈ R, H.toks[p.1]? = some p.2 := by
  rcases h with ⟨h1, h2⟩ | ⟨t, h1, h2, h3⟩
  · exact ⟨[], .inl ⟨h1, h2, rfl⟩, by simp⟩
  · exact ⟨[(t, (xs.length, 1))], .inr ⟨t, h1, h2, rfl⟩, fun p hp => by simp only [List.mem_singleton] at hp; subst hp; exact h3⟩

theorem composeG_ok (hT : Has T) (hK : Knows T) {v : AV} {l : List Ev} (hv : RowOf 5 IsEv v l) (hl : l.length < 2 ^ 20) (htx : ∀ e ∈ l, e.text.length < 2 ^ 30 ∧ e.tag.length < 2 ^ 30) (H : AH) (hp : 0 < H.toks.length) :
    ∃ w H', Den.of T 15 [v] H = some (w, H') ∧ (∃ ov, w = .tup [ov, .int .i64 (composeG l).2] ∧ RowOf 1 IsGv ov (composeG l).1) ∧ Grow H H' := by
  refine w15_ok hT ?_
  unfold w15
  refine c_gr (rightEs_ok hT hK hv (by omega) (fun e he => by have := (htx e he).1; omega) H) fun H1 g1 => ?_
  refine Stp.go ?_
  refine Stp.go ?_
  refine i_i (fun hr => ?_) (fun hr => ?_)
  rotate_left
  · have : composeG l = ([], 5) := by unfold composeG; rw [if_neg (by rw [hr]; decide)]
    rw [this]
    exact ⟨⟨.nils, rfl, .inl ⟨rfl, rfl⟩⟩, g1⟩
  have hcg : composeG l = composeF l ⟨[], [], fun _ => none⟩ [] := by unfold composeG; rw [if_pos hr]
  rw [hcg]
  have hnest : nestG l [] = some [] := by
    simp only [rightEs, Bool.and_eq_true, decide_eq_true_eq] at hr
    exact hr.1
  refine gP_i (v := .agg [.nils, .nils, .nilm]) rfl ?_
  refine s_box rfl rfl ?_
  have hcells : (AV.agg [AV.nils, AV.nils, AV.nilm]).cells = [AV.nils, AV.nils, AV.nilm] := rfl
  rw [hcells]
  have c1 := Holds.push H1 [AV.nils, AV.nils, AV.nilm]
  have g2 := g1.pushed (o := .cells [AV.nils, AV.nils, AV.nilm])
  have lb := g1.len
  generalize H1.push (.cells [AV.nils, AV.nils, AV.nilm]) = H2 at *
  generalize H1.obs.length = b at *
  refine g_lenW hv ?_
  refine l2 (fun k a c H' => ∃ (i : Nat) (xs : List AV) (outs : List (List Nd)) (d : Dc) (st : List (Int × Nat)) (R : List (Nat × (Nat × Nat))), c = .int .i64 i ∧ i ≤ l.length ∧ Grow H H' ∧ RTok H a xs R ∧ F2 IsGv xs outs ∧ outs.length ≤ i ∧ composeF l ⟨[], [], fun _ => none⟩ [] = composeF (l.drop i) d outs ∧ nestG (l.drop i) st = some [] ∧ Dst H H' b R d st i ∧ k = l.length - i) l.length
    ⟨0, [], [], ⟨[], [], fun _ => none⟩, [], [], rfl, Nat.zero_le _, g2, .inl ⟨rfl, rfl, rfl⟩, .nil, Nat.le_refl _, rfl, hnest, .inl ⟨rfl, ⟨_, _, _, c1⟩, by simp⟩, rfl⟩ ?_
  rintro m ov _ H3 ⟨i, xs, outs, d, st, R, rfl, hi, g3, hrt, hf, hou, he, hn, hd, hm⟩
  have hRt : ∀ p ∈ R, H3.toks[p.1]? = some p.2 := by
    rcases hd with ⟨_, _, h⟩ | ⟨_, _, gv, ov', mv, tk, h⟩
    · exact h
    · exact fun p hp => (h.res p hp).1
  refine Stp.go ?_
  refine i_c (fun hlt => ?_) (fun hlt => ?_)
  rotate_left
  · rw [List.drop_eq_nil_of_le (by omega), composeF] at he
    rw [he]
    exact ⟨⟨ov, rfl, (hrt.tok hRt).row hf⟩, g3⟩
  have hlt : i < l.length := by omega
  have hge := List.getElem?_eq_getElem hlt
  rw [List.drop_eq_getElem_cons hlt] at he hn
  have hte := htx _ (List.getElem_mem hlt)
  refine j_i ?_
  refine g_atn hv hge fun x hx => ?_
  generalize l[i] = e at *
  cases hx
  refine g_ldv5 ?_
  refine a_i ?_
  refine h_top (c' := (encE e).cells) rfl rfl rfl (by simp) rfl ?_
  have c3 := Holds.push H3 (encE e).cells
  have gp := Grow.push H3 (.cells (encE e).cells)
  replace g3 := g3.trans gp
  replace hd : Dst H (H3.push (.cells (encE e).cells)) b R d st i := by
    rcases hd with ⟨h1, ⟨x, y, z, h2⟩, h3⟩ | ⟨h1, h2, gv, ov', mv, tk, h3⟩
    · exact .inl ⟨h1, ⟨x, y, z, h2.grow gp⟩, h3⟩
    · exact .inr ⟨h1, h2, gv, ov', mv, tk, h3.grow gp⟩
  clear gp hRt
  generalize H3.push (.cells (encE e).cells) = H4 at *
  generalize H3.obs.length = be at *
  refine g_hN c3 rfl ?_
  rw [nestG] at hn
  split at hn
  rotate_left
  · cases hn
  rename_i hre
  obtain ⟨st', hs, hn'⟩ := Option.bind_eq_some_iff.1 hn
  have hk07 := rightE_kind hre
  -- where no document ends: on to the next event
  have next : ∀ {H7 : AH} {d' : Dc}, Grow H H7 → composeF l ⟨[], [], fun _ => none⟩ [] = composeF (l.drop (i + 1)) d' outs → Dst H H7 b R d' st' (i + 1) →
      gP (aBin .add (.int .i64 (i : Int)) (.int .i64 1)) fun x37 => ∃ m', m' < m ∧ ∃ (i : Nat) (xs : List AV) (outs : List (List Nd)) (d : Dc) (st : List (Int × Nat)) (R : List (Nat × (Nat × Nat))), x37 = .int .i64 i ∧ i ≤ l.length ∧ Grow H H7 ∧ RTok H ov xs R ∧ F2 IsGv xs outs ∧ outs.length ≤ i ∧ composeF l ⟨[], [], fun _ => none⟩ [] = composeF (l.drop i) d outs ∧ nestG (l.drop i) st = some [] ∧ Dst H H7 b R d st i ∧ m' = l.length - i := by
    intro H7 d' g7 he' hd'
    refine g_add64 (by omega) ?_
    exact ⟨l.length - (i + 1), by omega, i + 1, xs, outs, d', st', R, by congr 1, by omega, g7, hrt, hf, by omega, he', hn', hd', rfl⟩
  by_cases h0 : e.kind = 0
  · have hst : st = [] ∧ st' = [(0, 0)] := by
      unfold nestS at hs
      rw [if_pos h0] at hs
      split at hs
      · simp only [Option.some.injEq] at hs; exact ⟨rfl, hs.symm⟩
      · cases hs
    obtain ⟨rfl, rfl⟩ := hst
    rcases hd with ⟨_, ⟨x, y, z, h2⟩, h3⟩ | ⟨h1, _⟩
    rotate_left
    · exact absurd rfl h1
    refine c_i (ctake0 hT h2 lb g3 h3 d e h0) ?_
    rintro _ H7 ⟨rfl, g7, bm, h7⟩
    have ht : takeD d e = (⟨[], [], fun _ => none⟩, false, 0) := by unfold takeD; rw [if_pos h0]
    rw [ht] at h7 ⊢
    rw [composeF, ht] at he
    refine Stp.go ?_
    refine Stp.go ?_
    refine Stp.go ?_
    refine Stp.go ?_
    refine i_cT rfl ?_
    refine i_F rfl ?_
    exact next g7 he (.inr ⟨by simp, ⟨⟨[], 0, rfl, rfl, by simp⟩, by simp, by simp, by simp⟩, _, _, _, _, h7⟩)
  rcases hd with ⟨h1, _⟩ | ⟨hst, hpn, gv, ov', mv, tk, hA⟩
  · subst h1
    have hz : nestS [] e = none := by
      unfold nestS
      rw [if_neg h0]
      split
      · rfl
      · split
        · rfl
        · split <;> rfl
    rw [hz] at hs
    cases hs
  by_cases h1 : e.kind = 1
  · have hok : OkG d.g := ⟨by have := hpn.gl; omega, fun n hn => by have := hpn.kl n hn; exact ⟨by omega, this.2⟩⟩
    refine c_i (ctake1 hT hA g3 hp hok e h1) ?_
    rintro _ H7 ⟨rfl, g7, ⟨x, y, z, h7, hx⟩, hR7⟩
    have ht : takeD d e = if twice d.g = true then (d, false, 12) else (d, true, 0) := by unfold takeD; rw [if_neg h0, if_pos h1]
    rw [composeF, ht] at he
    rw [ht]
    have hst' := hpn.ends h1 hs
    subst hst'
    by_cases htw : twice d.g = true
    · rw [if_pos htw] at he ⊢
      refine Stp.go ?_
      refine Stp.go ?_
      refine Stp.go ?_
      refine Stp.go ?_
      refine i_cF (show ¬ ((12 : Int) = 0) by decide) ?_
      rw [he]
      exact ⟨⟨.nils, rfl, .inl ⟨rfl, rfl⟩⟩, g7⟩
    · rw [if_neg htw] at he ⊢
      refine Stp.go ?_
      refine Stp.go ?_
      refine Stp.go ?_
      refine Stp.go ?_
      refine i_cT rfl ?_
      refine i_T rfl ?_
      refine Stp.go ?_
      refine Stp.go ?_
      refine g_h1 h7 rfl ?_
      have hxg : IsGv x d.g := hx
      refine s_lit (by have := hx.def; have := hx.cells; have := hx.cell; simp [elemsOk, *]) ?_
      refine s_app (ys := [x]) (hrt.tok hR7) g7 hp (by simp) (by have := hx.def; have := hx.cells; have := hx.cell; simp [elemsOk, *]) (by have := hf.1; simp; omega) fun v9 H9 ht9 g9 hobs => ?_
      obtain ⟨R', hr1, hr2⟩ := RTok.of ht9
      refine g_add64 (by omega) ?_
      exact ⟨l.length - (i + 1), by omega, i + 1, xs ++ [x], outs ++ [d.g], d, [], R', by congr 1, by omega, g9, hr1, hf.snoc hxg, by simp; omega, he, hn', .inl ⟨rfl, ⟨x, y, z, h7.obs' hobs⟩, hr2⟩, rfl⟩
  · refine c_i (ctakeN hT hA g3 hp (N := i) (by omega) (by have := hpn.gl; omega) hpn.opl (fun n hn => (hpn.kl n hn).1) e (by omega) h0 h1 (fun h3 => (hpn.pops h3 hs).1)) ?_
    rintro _ H7 ⟨rfl, g7, h7⟩
    have hov : (takeD d e).2.1 = false := by
      unfold takeD
      rw [if_neg h0, if_neg h1]
      split
      · rfl
      · split
        · split <;> rfl
        · rfl
    rw [hov]
    rw [composeF, hov] at he
    have hst' : st' ≠ [] := by
      by_cases h3 : e.kind = 3 ∨ e.kind = 5
      · obtain ⟨s', m', hh, _⟩ := (hpn.pops h3 hs).2.stk
        rw [hh]; simp
      · obtain ⟨s', m', hst2, hl2, hp2⟩ := hpn.stk
        obtain ⟨s2, m2, _, _, rfl⟩ := nest_up hst2 hp2 h0 h1 h3 hs
        split <;> simp
    refine Stp.go ?_
    refine Stp.go ?_
    refine Stp.go ?_
    refine Stp.go ?_
    refine i_c (fun hz => ?_) (fun hz => ?_)
    · rw [if_neg (by rw [hz]; simp)] at he
      refine i_F rfl ?_
      obtain ⟨gv2, ov2, tk2, hA2⟩ := h7 hz
      exact next g7 he (.inr ⟨hst', hpn.step h0 h1 hte.1 hte.2 hs hz, gv2, ov2, mv, tk2, hA2⟩)
    · rw [if_pos hz] at he
      rw [he]
      exact ⟨⟨.nils, rfl, .inl ⟨rfl, rfl⟩⟩, g7⟩

end Go.SV
