/- Contracts: the order of nodes as they are met. Own text of the prover; nothing is assumed. -/
import Derived.Test.YtkbkhdgjdikjiaaGreatDoorCf
set_option maxRecDepth 100000
namespace Go.SV

variable {T : Nat → Option Entry}

/-- Nodes are met: how often each one was, and those met first, in turn. -/
def meetF (g : List Nd) : Nat → List Nat × List Int → Int → List Nat × List Int
  | 0, s, _ => s
  | n + 1, s, i =>
    let c := (s.1[i.toNat]?).getD 0
    if 0 < c then (s.1.set i.toNat (c + 1), s.2)
    else ((((g[i.toNat]?).map (·.kids)).getD []).foldl (fun s k => meetF g n s k) (s.1.set i.toNat (c + 1), s.2 ++ [i]))

def order (g : List Nd) : List Int := if rightG g = true then (meetF g (g.length + 1) (List.replicate g.length 0, []) 0).2 else []

def pot : List Nd → List Nat → Nat
  | n :: g, m :: ms => (if m = 0 then n.kids.length else m) + pot g ms
  | _, _ => 0
def zeros (ms : List Nat) : Nat := ms.count 0

theorem pot_set : ∀ (g : List Nd) (ms : List Nat) (i : Nat) (hi : i < g.length) (hm : i < ms.length),
    (if ms[i] = 0 then pot g (ms.set i (ms[i] + 1)) + g[i].kids.length = pot g ms + 1 else pot g (ms.set i (ms[i] + 1)) = pot g ms + 1) ∧ ms[i] ≤ pot g ms := by
  intro g
  induction g with
  | nil => intro ms i hi; simp at hi
  | cons n g ih =>
    intro ms i hi hm
    cases ms with
    | nil => simp at hm
    | cons m ms =>
      cases i with
      | zero =>
        simp only [List.getElem_cons_zero, List.set_cons_zero, pot]
        split <;> simp [*] <;> omega
      | succ i =>
        obtain ⟨h1, h2⟩ := ih ms i (by simpa using hi) (by simpa using hm)
        simp only [List.getElem_cons_succ, List.set_cons_succ, pot]
        refine ⟨?_, by omega⟩
        have him : i < ms.length := by simpa using hm
        by_cases h0 : ms[i] = 0
        · rw [if_pos h0] at h1 ⊢; omega
        · rw [if_neg h0] at h1 ⊢; omega

theorem zeros_set (ms : List Nat) (i : Nat) (hm : i < ms.length) : if ms[i] = 0 then zeros (ms.set i (ms[i] + 1)) + 1 = zeros ms else zeros (ms.set i (ms[i] + 1)) = zeros ms := by
  unfold zeros
  induction ms generalizing i with
  | nil => simp at hm
  | cons m ms ih =>
    cases i with
    | zero =>
      simp only [List.getElem_cons_zero, List.set_cons_zero, List.count_cons]
      split <;> simp [*]
    | succ i =>
      have := ih i (by simpa using hm)
      simp only [List.getElem_cons_succ, List.set_cons_succ, List.count_cons]
      have him : i < ms.length := by simpa using hm
      by_cases h0 : ms[i] = 0
      · rw [if_pos h0] at this ⊢; omega
      · rw [if_neg h0] at this ⊢; omega

/-- What holds between states when some nodes have been met. -/
structure Met (g : List Nd) (k : Nat) (s s' : List Nat × List Int) : Prop where
  len : s'.1.length = s.1.length
  pot : pot g s'.1 ≤ pot g s.1 + k
  zer : zeros s'.1 ≤ zeros s.1
  out : s'.2.length + zeros s'.1 = s.2.length + zeros s.1

theorem Met.refl (g : List Nd) (s : List Nat × List Int) : Met g 0 s s := ⟨rfl, by omega, Nat.le_refl _, rfl⟩
theorem Met.trans {g : List Nd} {k l : Nat} {a b c : List Nat × List Int} (h : Met g k a b) (h2 : Met g l b c) : Met g (k + l) a c :=
  ⟨h2.len.trans h.len, by have := h.pot; have := h2.pot; omega, Nat.le_trans h2.zer h.zer, h2.out.trans h.out⟩

theorem met_of (g : List Nd) (hk : ∀ n ∈ g, ∀ k ∈ n.kids, hasG g k = true) : ∀ (n : Nat) (s : List Nat × List Int) (i : Int), hasG g i = true → s.1.length = g.length → Met g 1 s (meetF g n s i) := by
  intro n
  induction n with
  | zero => intro s i _ _; exact ⟨rfl, by simp [meetF], Nat.le_refl _, rfl⟩
  | succ n ih =>
    intro s i hi hl
    simp only [hasG, decide_eq_true_eq] at hi
    have hig : i.toNat < g.length := by omega
    have him : i.toNat < s.1.length := by omega
    have hp := (pot_set g s.1 i.toNat hig him).1
    have hz := zeros_set s.1 i.toNat him
    simp only [meetF, List.getElem?_eq_getElem him, Option.getD_some, List.getElem?_eq_getElem hig, Option.map_some]
    split
    · rename_i h0
      rw [if_neg (by omega)] at hp hz
      exact ⟨by simp, by simp only; omega, by simp only; omega, by simp only; omega⟩
    · rename_i h0
      rw [if_pos (by omega)] at hp hz
      have fold : ∀ (ks : List Int) (s : List Nat × List Int), (∀ k ∈ ks, hasG g k = true) → s.1.length = g.length → Met g ks.length s (ks.foldl (fun s k => meetF g n s k) s) := by
        intro ks
        induction ks with
        | nil => intro s _ _; exact .refl _ _
        | cons k ks ihk =>
          intro s h1 h2
          have a := ih s k (h1 k (by simp)) h2
          have b := ihk (meetF g n s k) (fun k hk => h1 k (by simp [hk])) (a.len.trans h2)
          have := a.trans b
          rw [List.foldl_cons, List.length_cons, Nat.add_comm]
          exact this
      have f := fold g[i.toNat].kids (s.1.set i.toNat (s.1[i.toNat] + 1), s.2 ++ [i]) (hk _ (List.getElem_mem hig)) (by simpa using hl)
      refine ⟨by rw [f.len]; simp, ?_, ?_, ?_⟩
      · have := f.pot; simp only at this; omega
      · have := f.zer; simp only at this; omega
      · have := f.out; simp only [List.length_append, List.length_singleton] at this; omega

theorem Holds.obs {H H' : AH} {b : Nat} {c : List AV} (h : Holds H b c) (e : H'.obs = H.obs) : Holds H' b c := by
  refine ⟨by rw [e]; exact h.1, ?_⟩
  have := h.2
  unfold AH.get at this ⊢
  rw [e]; exact this

def ints (ms : List Nat) : List AV := ms.map fun (m : Nat) => .int .i64 (m : Int)
theorem ints_set (ms : List Nat) (i m : Nat) : (ints ms).set i (.int .i64 (m : Int)) = ints (ms.set i m) := by simp [ints, List.map_set]
theorem ints_get {ms : List Nat} {i : Nat} (h : i < ms.length) : (ints ms)[i]? = some (.int .i64 ((ms[i] : Nat) : Int)) := by simp [ints, h]
theorem splice1 (c : List AV) (i : Nat) (x : AV) (hx : x.cells = [x]) : splice c i x.cells = c.set i x := by rw [hx]; rfl

structure Blks (H0 : AH) (b1 b2 b3 b4 bm : Nat) : Prop where
  l2 : H0.obs.length ≤ b2
  lm : H0.obs.length ≤ bm
  n21 : b1 ≠ b2
  n23 : b3 ≠ b2
  n24 : b4 ≠ b2
  n2m : bm ≠ b2
  nm1 : b1 ≠ bm
  nm3 : b3 ≠ bm
  nm4 : b4 ≠ bm

def meetFn (b1 b2 b3 b4 : Nat) : AV := .fn (.func 59) [] [.ptr b3 0, .ptr b2 0, .ptr b1 0, .ptr b4 0]

structure Ms (H0 H : AH) (v : AV) (n : Nat) (b1 b2 b3 b4 bm : Nat) (s : List Nat × List Int) : Prop where
  grow : Grow H0 H
  c1 : Holds H b1 [v]
  c3 : Holds H b3 [.slr bm 0 n 1]
  c4 : Holds H b4 [meetFn b1 b2 b3 b4]
  cm : Holds H bm (ints s.1)
  c2 : ∃ ov xs, Holds H b2 [ov] ∧ Tok H0 H 1 ov xs ∧ F2 IsI xs s.2

theorem meet_ok (hT : Has T) {v : AV} {g : List Nd} (hv : IsG v g) (hg : OkG g) (hk : ∀ n ∈ g, ∀ k ∈ n.kids, hasG g k = true) {H0 : AH} (hp : 0 < H0.toks.length) {b1 b2 b3 b4 bm : Nat} (hB : Blks H0 b1 b2 b3 b4 bm) :
    ∀ (n : Nat) (i : Int) (s : List Nat × List Int) (H : AH), hasG g i = true → s.1.length = g.length → zeros s.1 < n → pot g s.1 + 1 < 2 ^ 60 → s.2.length + zeros s.1 ≤ g.length → Ms H0 H v g.length b1 b2 b3 b4 bm s →
    ∃ v' H', Den.of T 59 [.int .i64 i, .ptr b3 0, .ptr b2 0, .ptr b1 0, .ptr b4 0] H = some (v', H') ∧ v' = .tup [] ∧ Ms H0 H' v g.length b1 b2 b3 b4 bm (meetF g n s i) := by
  intro n
  induction n with
  | zero => intro i s H _ _ h; omega
  | succ n ih =>
    intro i s H hi hl hz hpot hout hM
    refine w59_ok hT ?_
    unfold w59
    have hi' := hi
    simp only [hasG, decide_eq_true_eq] at hi'
    have hig : i.toNat < g.length := by omega
    have him : i.toNat < s.1.length := by omega
    have hp1 := pot_set g s.1 i.toNat hig him
    have hz1 := zeros_set s.1 i.toNat him
    have hlg := hg.1
    obtain ⟨ov, xs, c2, ht, hf⟩ := hM.c2
    refine g_h1 hM.c3 rfl ?_
    refine g_idxR1 (by omega) ?_
    refine g_h1 hM.cm (ints_get him) ?_
    (repeat (with_reducible first | refine Stp.go ?_ | (refine i_cT ?_ ?_; · first | assumption | decide | exact rfl) | (refine i_cF ?_ ?_; · first | assumption | decide | exact rfl) | (refine i_T ?_ ?_; · first | assumption | exact rfl) | (refine i_F ?_ ?_; · first | assumption | exact rfl) | (refine Sts.go ?_ ?_; · first | omega | decide) | refine Stu.go ?_))
    refine g_idxR1 (by omega) ?_
    refine h_st hM.cm.2 rfl rfl rfl (by simp [ints]; omega) ?_
    rw [splice1 _ _ _ rfl, show ((s.1[i.toNat] : Nat) : Int) + 1 = ((s.1[i.toNat] + 1 : Nat) : Int) from rfl, ints_set]
    have M1 : Ms H0 (H.put bm (.cells (ints (s.1.set i.toNat (s.1[i.toNat] + 1))))) v g.length b1 b2 b3 b4 bm (s.1.set i.toNat (s.1[i.toNat] + 1), s.2) :=
      ⟨hM.grow.put hB.lm, hM.c1.put hM.cm.1 hB.nm1, hM.c3.put hM.cm.1 hB.nm3, hM.c4.put hM.cm.1 hB.nm4, ⟨by rw [put_len]; exact hM.cm.1, by rw [put_get hM.cm.1, if_pos rfl]⟩, ov, xs, c2.put hM.cm.1 hB.n2m.symm, ht.same rfl, hf⟩
    generalize H.put bm (.cells (ints (s.1.set i.toNat (s.1[i.toNat] + 1)))) = H1 at *
    refine g_h1 M1.c3 rfl ?_
    refine g_idxR1 (by omega) ?_
    refine g_h1 M1.cm (ints_get (by simpa using him)) ?_
    simp only [List.getElem_set_self]
    (repeat (with_reducible first | refine Stp.go ?_ | (refine i_cT ?_ ?_; · first | assumption | decide | exact rfl) | (refine i_cF ?_ ?_; · first | assumption | decide | exact rfl) | (refine i_T ?_ ?_; · first | assumption | exact rfl) | (refine i_F ?_ ?_; · first | assumption | exact rfl) | (refine Sts.go ?_ ?_; · first | omega | decide) | refine Stu.go ?_))
    simp only [meetF, List.getElem?_eq_getElem him, Option.getD_some, List.getElem?_eq_getElem hig, Option.map_some]
    refine i_dec (fun h => ?_) (fun h => ?_)
    · rw [if_pos (by omega)]
      exact ⟨trivial, M1⟩
    have h0 : s.1[i.toNat] = 0 := by omega
    rw [if_neg (by omega)]
    rw [if_pos h0] at hp1 hz1
    obtain ⟨ov, xs, c2, ht, hf⟩ := M1.c2
    refine g_h1 c2 rfl ?_
    refine s_lit (elemsOk1 _) ?_
    have hxl : xs.length = s.2.length := hf.1
    refine s_app ht M1.grow hp (by simp) (elemsOk1 _) (by simp; omega) fun ov' H3 ht3 g3 ho3 => ?_
    have d2 := c2.obs ho3
    have dm := M1.cm.obs ho3
    have d1 := M1.c1.obs ho3
    have d3 := M1.c3.obs ho3
    have d4 := M1.c4.obs ho3
    have hov : ov'.def? = true ∧ ov'.cells = [ov'] ∧ ov'.isCell = true := by
      rcases ht3 with ⟨rfl, _⟩ | ⟨t, rfl, _⟩ <;> exact ⟨rfl, rfl, rfl⟩
    refine h_st d2.2 hov.1 (by rw [hov.2.1]; rfl) (by rw [hov.2.1]; simp [hov.2.2]) (by simp) ?_
    rw [splice1 _ _ _ hov.2.1]
    have M4 : Ms H0 (H3.put b2 (.cells [ov'])) v g.length b1 b2 b3 b4 bm (s.1.set i.toNat (s.1[i.toNat] + 1), s.2 ++ [i]) :=
      ⟨g3.put hB.l2, d1.put d2.1 hB.n21, d3.put d2.1 hB.n23, d4.put d2.1 hB.n24, dm.put d2.1 hB.n2m, ov', _, ⟨by rw [put_len]; exact d2.1, by rw [put_get d2.1, if_pos rfl]⟩, ht3.same rfl, hf.snoc rfl⟩
    simp only [List.set_cons_zero]
    generalize H3.put b2 (.cells [ov']) = H4 at *
    refine g_h1 M4.c1 rfl ?_
    refine g_at hv hi'.1 (List.getElem?_eq_getElem hig) fun x hx => ?_
    obtain ⟨kv, rfl, hkv⟩ := hx
    have hkk := hk _ (List.getElem_mem hig)
    have hkl := (hg.2 _ (List.getElem_mem hig)).1
    refine g_fv3 ?_
    refine g_ldv ?_
    refine g_lenW hkv ?_
    have hs4 : (s.1.set i.toNat (s.1[i.toNat] + 1)).length = g.length := by simpa using hl
    generalize hs : (s.1.set i.toNat (s.1[i.toNat] + 1), s.2 ++ [i]) = s4 at *
    have e1 : s4.1 = s.1.set i.toNat (s.1[i.toNat] + 1) := by rw [← hs]
    have e2 : s4.2 = s.2 ++ [i] := by rw [← hs]
    rw [← e1] at hs4 hp1 hz1
    generalize hks : g[i.toNat].kids = ks at *
    have e3 : s4.2.length = s.2.length + 1 := by rw [e2]; simp
    refine l1 (fun m a H' => ∃ (j : Nat) (s' : List Nat × List Int), a = .int .i64 j ∧ j ≤ ks.length ∧ Ms H0 H' v g.length b1 b2 b3 b4 bm s' ∧ Met g j s4 s' ∧ (ks.drop j).foldl (fun s k => meetF g n s k) s' = ks.foldl (fun s k => meetF g n s k) s4 ∧ m = ks.length - j) ks.length
      ⟨0, s4, rfl, Nat.zero_le _, M4, .refl _ _, rfl, rfl⟩ ?_
    rintro m _ H5 ⟨j, s', rfl, hj, M5, hmet, hfold, hm⟩
    (repeat (with_reducible first | refine Stp.go ?_ | (refine i_cT ?_ ?_; · first | assumption | decide | exact rfl) | (refine i_cF ?_ ?_; · first | assumption | decide | exact rfl) | (refine i_T ?_ ?_; · first | assumption | exact rfl) | (refine i_F ?_ ?_; · first | assumption | exact rfl) | (refine Sts.go ?_ ?_; · first | omega | decide) | refine Stu.go ?_))
    refine i_dec (fun h => ?_) (fun h => ?_)
    rotate_left
    · rw [List.drop_eq_nil_of_le (by omega)] at hfold
      exact ⟨trivial, by rw [← hfold]; exact M5⟩
    have hlt : j < ks.length := by omega
    rw [List.drop_eq_getElem_cons hlt, List.foldl_cons] at hfold
    refine g_atIn hkv (List.getElem?_eq_getElem hlt) ?_
    refine g_ldv ?_
    refine g_h1 M5.c4 rfl ?_
    refine v_c (by decide) rfl ?_
    have a1 := hmet.len
    have a2 := hmet.pot
    have a3 := hmet.zer
    have a4 := hmet.out
    refine c_i (ih ks[j] s' H5 (hkk _ (List.getElem_mem hlt)) (by omega) (by omega) (by omega) (by omega) M5) ?_
    rintro _ H6 ⟨rfl, M6⟩
    (repeat (with_reducible first | refine Stp.go ?_ | (refine i_cT ?_ ?_; · first | assumption | decide | exact rfl) | (refine i_cF ?_ ?_; · first | assumption | decide | exact rfl) | (refine i_T ?_ ?_; · first | assumption | exact rfl) | (refine i_F ?_ ?_; · first | assumption | exact rfl) | (refine Sts.go ?_ ?_; · first | omega | decide) | refine Stu.go ?_))
    refine ⟨ks.length - (j + 1), by omega, j + 1, _, by congr 1, by omega, M6, ?_, hfold, rfl⟩
    exact hmet.trans (met_of g hk n s' ks[j] (hkk _ (List.getElem_mem hlt)) (by omega))

end Go.SV
