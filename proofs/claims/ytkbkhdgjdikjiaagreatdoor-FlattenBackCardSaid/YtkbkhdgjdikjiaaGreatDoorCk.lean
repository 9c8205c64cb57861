/- Contracts: a graph is told. Own text of the prover; nothing is assumed. -/
import Derived.Test.YtkbkhdgjdikjiaaGreatDoorCj
set_option maxRecDepth 100000
namespace Go.SV

variable {T : Nat → Option Entry}

theorem isEv (e : Ev) : IsEv (encE e) e := rfl

structure Tl where
  out : List Ev
  met : Nat
  deep : Nat
  most : Nat

def nameEv (e : Ev) (a : List UInt8) : Ev := ⟨e.kind, a, e.tag, e.text, e.plain⟩
def openS (s : Tl) (e : Ev) : Tl := ⟨s.out ++ [e], s.met + 1, s.deep + 1, max s.most (s.deep + 1)⟩
def nameAt (names : List (List UInt8)) (a : Int) : List UInt8 := (names[a.toNat]?).getD []
def tellF (g : List Nd) (names : List (List UInt8)) : Nat → Tl → Int → Tl
  | 0, s, _ => s
  | n + 1, s, a =>
    if a < s.met then ⟨s.out ++ [⟨7, nameAt names a, [], [], false⟩], s.met, s.deep, s.most⟩
    else if ((g[a.toNat]?).getD default).kind = 0 then ⟨s.out ++ [nameEv (eventOf ((g[a.toNat]?).getD default)) (nameAt names a)], s.met + 1, s.deep, s.most⟩
    else
      let s4 := ((g[a.toNat]?).getD default).kids.foldl (fun s k => tellF g names n s k) (openS s (nameEv (eventOf ((g[a.toNat]?).getD default)) (nameAt names a)))
      ⟨s4.out ++ [⟨(eventOf ((g[a.toNat]?).getD default)).kind + 1, [], [], [], false⟩], s4.met, s4.deep - 1, s4.most⟩

structure Told (N k : Nat) (s s' : Tl) : Prop where
  met : s.met ≤ s'.met
  le : s'.met ≤ N
  deep : s'.deep = s.deep
  most : s'.most ≤ N
  out : s'.out.length + (N - s'.met) * 1048578 ≤ s.out.length + k + (N - s.met) * 1048578

theorem Told.trans {N k l : Nat} {a b c : Tl} (h : Told N k a b) (h2 : Told N l b c) : Told N (k + l) a c :=
  ⟨Nat.le_trans h.met h2.met, h2.le, h2.deep.trans h.deep, h2.most, by have := h.out; have := h2.out; omega⟩
theorem Told.zero {N : Nat} {s : Tl} (h1 : s.met ≤ N) (h2 : s.most ≤ N) : Told N 0 s s := ⟨Nat.le_refl _, h1, rfl, h2, by omega⟩

theorem told_of {g : List Nd} {names : List (List UInt8)} (hk : ∀ n ∈ g, ∀ k ∈ n.kids, hasG g k = true) (hkl : ∀ n ∈ g, n.kids.length < 2 ^ 20) : ∀ (n : Nat) (s : Tl) (a : Int), hasG g a = true → s.met ≤ g.length → s.deep ≤ s.met → s.most ≤ g.length →
    Told g.length 1 s (tellF g names n s a) := by
  intro n
  induction n with
  | zero => intro s a _ h1 _ h2; exact ⟨Nat.le_refl _, h1, rfl, h2, by simp only [tellF]; omega⟩
  | succ n ih =>
    intro s a ha h1 h2 h3
    simp only [hasG, decide_eq_true_eq] at ha
    have hag : a.toNat < g.length := by omega
    simp only [tellF, List.getElem?_eq_getElem hag, Option.getD_some]
    split
    · exact ⟨Nat.le_refl _, h1, rfl, h3, by simp only [List.length_append, List.length_singleton]; omega⟩
    rename_i hm
    have hm1 : s.met + 1 ≤ g.length := by omega
    split
    · exact ⟨Nat.le_succ _, hm1, rfl, h3, by simp only [List.length_append, List.length_singleton]; omega⟩
    have fold : ∀ (ks : List Int) (s : Tl), (∀ k ∈ ks, hasG g k = true) → s.met ≤ g.length → s.deep ≤ s.met → s.most ≤ g.length → Told g.length ks.length s (ks.foldl (fun s k => tellF g names n s k) s) := by
      intro ks
      induction ks with
      | nil => intro s _ h1 _ h3; exact .zero h1 h3
      | cons k ks ihk =>
        intro s h0 h1 h2 h3
        have x := ih s k (h0 k (by simp)) h1 h2 h3
        have y := ihk (tellF g names n s k) (fun k hk => h0 k (by simp [hk])) x.le (by have := x.met; have := x.deep; omega) x.most
        have := x.trans y
        rw [List.foldl_cons, List.length_cons, Nat.add_comm]
        exact this
    have o1 : (openS s (nameEv (eventOf g[a.toNat]) (nameAt names a))).met = s.met + 1 := rfl
    have o2 : (openS s (nameEv (eventOf g[a.toNat]) (nameAt names a))).deep = s.deep + 1 := rfl
    have o3 : (openS s (nameEv (eventOf g[a.toNat]) (nameAt names a))).out.length = s.out.length + 1 := by simp [openS]
    have o4 : (openS s (nameEv (eventOf g[a.toNat]) (nameAt names a))).most ≤ g.length := by simp only [openS]; omega
    generalize openS s (nameEv (eventOf g[a.toNat]) (nameAt names a)) = s3 at *
    have f := fold g[a.toNat].kids s3 (hk _ (List.getElem_mem hag)) (by omega) (by omega) o4
    have hl := hkl _ (List.getElem_mem hag)
    have f1 := f.met; have f2 := f.le; have f3 := f.deep; have f4 := f.most; have f5 := f.out
    refine ⟨?_, f2, ?_, f4, ?_⟩
    · simp only; omega
    · simp only; omega
    · simp only [List.length_append, List.length_singleton]
      omega

structure Ts (H0 H : AH) (v : AV) (n b bn : Nat) (names : List (List UInt8)) (s : Tl) : Prop where
  grow : Grow H0 H
  c : ∃ ov xs, Holds H b [v, ov, .slr bn 0 n 1, .int .i64 s.met, .int .i64 s.deep, .int .i64 s.most] ∧ Tok H0 H 5 ov xs ∧ F2 IsEv xs s.out
  cn : Holds H bn (names.map .str)

theorem Ts.up {H0 H H' : AH} {v : AV} {n b bn : Nat} {names : List (List UInt8)} {s : Tl} (h : Ts H0 H v n b bn names s) (g : Grow H H') : Ts H0 H' v n b bn names s := by
  obtain ⟨g0, ⟨ov, xs, h1, h2, h3⟩, h4⟩ := h
  exact ⟨g0.trans g, ⟨ov, xs, h1.grow g, h2.grow g, h3⟩, h4.grow g⟩

theorem Ts.put {H0 H : AH} {v : AV} {n b bn : Nat} {names : List (List UInt8)} {s : Tl} {ov : AV} {xs : List AV} (g : Grow H0 H) (hB : H0.obs.length ≤ b) (hb : b < H.obs.length) (hne : bn ≠ b) (cn : Holds H bn (names.map .str)) (ht : Tok H0 H 5 ov xs) (hf : F2 IsEv xs s.out) :
    Ts H0 (H.put b (.cells [v, ov, .slr bn 0 n 1, .int .i64 s.met, .int .i64 s.deep, .int .i64 s.most])) v n b bn names s :=
  ⟨g.put hB, ⟨ov, xs, ⟨by rw [put_len]; exact hb, by rw [put_get hb, if_pos rfl]⟩, ht.same rfl, hf⟩, cn.put hb hne⟩

theorem Tok.val {H0 H : AH} {s : Nat} {v : AV} {xs : List AV} (h : Tok H0 H s v xs) : v.isCell = true := by
  rcases h with ⟨rfl, _⟩ | ⟨t, rfl, _⟩ <;> rfl

theorem eventOf_kind (n : Nd) : 0 ≤ (eventOf n).kind ∧ (eventOf n).kind < 10 := by
  unfold eventOf
  repeat' split
  all_goals simp

theorem inside_ok (hT : Has T) {H0 H : AH} {v : AV} {n b bn : Nat} {names : List (List UInt8)} {s s4 : Tl} (hB : H0.obs.length ≤ b) (hne : bn ≠ b) {F : Nat} {cap : List AV} (hF : F < 100000)
    (h : Ts H0 H v n b bn names s) (hd : s.deep < 2 ^ 60) (hm : s.most < 2 ^ 60) (hd4 : 0 < s4.deep ∧ s4.deep < 2 ^ 60)
    (hC : ∀ H2, Ts H0 H2 v n b bn names ⟨s.out, s.met, s.deep + 1, max s.most (s.deep + 1)⟩ → Keep b H H2 → ∃ v' H3, Den.of T F cap H2 = some (v', H3) ∧ v' = .tup [] ∧ Ts H0 H3 v n b bn names s4 ∧ Keep b H2 H3) :
    ∃ v' H', Den.of T 113 [.ptr b 0, .fn (.func F) [] cap] H = some (v', H') ∧ v' = .tup [] ∧ Ts H0 H' v n b bn names ⟨s4.out, s4.met, s4.deep - 1, s4.most⟩ ∧ Keep b H H' := by
  refine w113_ok hT ?_
  unfold w113
  obtain ⟨ov, xs, c, ht, hf⟩ := h.c
  (repeat (first | (with_reducible first | refine Stp.go ?_ | (refine i_cT ?_ ?_; · first | assumption | decide | exact rfl) | (refine i_cF ?_ ?_; · first | assumption | decide | exact rfl) | (refine i_T ?_ ?_; · first | assumption | exact rfl) | (refine i_F ?_ ?_; · first | assumption | exact rfl) | (refine Sts.go ?_ ?_; · first | omega | decide) | refine Stu.go ?_) | refine g_h1 c rfl ?_))
  refine h_one c (by simp) rfl fun _ => ?_
  have T1 := Ts.put (s := ⟨s.out, s.met, s.deep + 1, s.most⟩) (v := v) (n := n) h.grow hB c.1 hne h.cn ht hf
  have k1 := Keep.put (.cells [v, ov, .slr bn 0 n 1, .int .i64 s.met, .int .i64 ((s.deep + 1 : Nat) : Int), .int .i64 s.most]) c.1
  change Ts H0 (H.put b (.cells [v, ov, .slr bn 0 n 1, .int .i64 s.met, .int .i64 ((s.deep + 1 : Nat) : Int), .int .i64 s.most])) v n b bn names _ at T1
  simp only [List.set_cons_succ, List.set_cons_zero]
  rw [show (s.deep : Int) + 1 = ((s.deep + 1 : Nat) : Int) from rfl]
  generalize H.put b (.cells [v, ov, .slr bn 0 n 1, .int .i64 s.met, .int .i64 ((s.deep + 1 : Nat) : Int), .int .i64 s.most]) = H1 at *
  obtain ⟨ov1, xs1, c1, ht1, hf1⟩ := T1.c
  (repeat (first | (with_reducible first | refine Stp.go ?_ | (refine i_cT ?_ ?_; · first | assumption | decide | exact rfl) | (refine i_cF ?_ ?_; · first | assumption | decide | exact rfl) | (refine i_T ?_ ?_; · first | assumption | exact rfl) | (refine i_F ?_ ?_; · first | assumption | exact rfl) | (refine Sts.go ?_ ?_; · first | omega | decide) | refine Stu.go ?_) | refine g_h1 c1 rfl ?_))
  refine gP_i (v := .int .i64 ((max s.most (s.deep + 1) : Nat) : Int)) ?_ ?_
  · simp only [aFold, aMin, if_true, Option.bind_some]
    congr 2
    split <;> omega
  (repeat (with_reducible first | refine Stp.go ?_ | (refine i_cT ?_ ?_; · first | assumption | decide | exact rfl) | (refine i_cF ?_ ?_; · first | assumption | decide | exact rfl) | (refine i_T ?_ ?_; · first | assumption | exact rfl) | (refine i_F ?_ ?_; · first | assumption | exact rfl) | (refine Sts.go ?_ ?_; · first | omega | decide) | refine Stu.go ?_))
  refine h_one c1 (by simp) rfl fun _ => ?_
  have T2 := Ts.put (s := ⟨s.out, s.met, s.deep + 1, max s.most (s.deep + 1)⟩) (v := v) (n := n) T1.grow hB c1.1 hne T1.cn ht1 hf1
  have k2 := k1.trans (Keep.put (.cells [v, ov1, .slr bn 0 n 1, .int .i64 s.met, .int .i64 ((s.deep + 1 : Nat) : Int), .int .i64 ((max s.most (s.deep + 1) : Nat) : Int)]) c1.1)
  simp only [List.set_cons_succ, List.set_cons_zero]
  generalize H1.put b (.cells [v, ov1, .slr bn 0 n 1, .int .i64 s.met, .int .i64 ((s.deep + 1 : Nat) : Int), .int .i64 ((max s.most (s.deep + 1) : Nat) : Int)]) = H2 at *
  refine v_c hF rfl ?_
  refine c_i (hC H2 T2 k2) ?_
  rintro _ H3 ⟨rfl, T3, k3⟩
  obtain ⟨ov3, xs3, c3, ht3, hf3⟩ := T3.c
  (repeat (first | (with_reducible first | refine Stp.go ?_ | (refine i_cT ?_ ?_; · first | assumption | decide | exact rfl) | (refine i_cF ?_ ?_; · first | assumption | decide | exact rfl) | (refine i_T ?_ ?_; · first | assumption | exact rfl) | (refine i_F ?_ ?_; · first | assumption | exact rfl) | (refine Sts.go ?_ ?_; · first | omega | decide) | refine Stu.go ?_) | refine g_h1 c3 rfl ?_))
  refine h_one c3 (by simp) rfl fun _ => ?_
  have T4 := Ts.put (s := ⟨s4.out, s4.met, s4.deep - 1, s4.most⟩) (v := v) (n := n) T3.grow hB c3.1 hne T3.cn ht3 hf3
  have k4 := (k2.trans k3).trans (Keep.put (.cells [v, ov3, .slr bn 0 n 1, .int .i64 s4.met, .int .i64 ((s4.deep - 1 : Nat) : Int), .int .i64 s4.most]) c3.1)
  simp only [List.set_cons_succ, List.set_cons_zero]
  rw [show (s4.deep : Int) - 1 = ((s4.deep - 1 : Nat) : Int) by omega]
  exact ⟨trivial, T4, k4⟩

theorem Keep.pushed {b : Nat} {H H1 : AH} {o : AObj} (h : Keep b H H1) : Keep b H (H1.push o) := h.trans (.of (.push _ _))

theorem node_ok (hT : Has T) (hK : Knows T) {v : AV} {g : List Nd} (hv : IsG v g) (hg : OkG g) (hgl : g.length ≤ 2000) (hk : ∀ n ∈ g, ∀ k ∈ n.kids, hasG g k = true) {H0 : AH} (hp : 0 < H0.toks.length) {b bn : Nat} (hB : H0.obs.length ≤ b) (hne : bn ≠ b)
    {names : List (List UInt8)} (hnm : names.length = g.length) :
    ∀ (n : Nat) (a : Int) (s : Tl) (H : AH), hasG g a = true → g.length - s.met < n → s.met ≤ g.length → s.deep ≤ s.met → s.most ≤ g.length → s.out.length + 1 + (g.length - s.met) * 1048578 ≤ 2 ^ 41 → Ts H0 H v g.length b bn names s →
    ∃ v' H', Den.of T 69 [.ptr b 0, .int .i64 a] H = some (v', H') ∧ v' = .tup [] ∧ Ts H0 H' v g.length b bn names (tellF g names n s a) ∧ Keep b H H' := by
  intro n
  induction n with
  | zero => intro a s H _ h; omega
  | succ n ih =>
    intro a s H ha hn hm hd hmo hout hS
    refine w69_ok hT ?_
    unfold w69
    simp only [hasG, decide_eq_true_eq] at ha
    have hag : a.toNat < g.length := by omega
    have hbl : b < H.obs.length := by obtain ⟨_, _, c, _⟩ := hS.c; exact c.1
    have hbn : bn < H.obs.length := hS.cn.1
    have hH0 : H0.obs.length ≤ H.obs.length := hS.grow.len
    refine s_box rfl rfl ?_
    have p2 := Holds.push H (AV.ptr b 0).cells
    have S1 := hS.up (.push H (.cells (AV.ptr b 0).cells))
    have k1 : Keep b H (H.push (.cells (AV.ptr b 0).cells)) := .of (.push _ _)
    have hp2 : H.obs.length ≠ b := by omega
    have hl1 : H.obs.length < (H.push (.cells (AV.ptr b 0).cells)).obs.length := by rw [push_len]; omega
    generalize H.push (.cells (AV.ptr b 0).cells) = H1 at *
    generalize hb2 : H.obs.length = b2 at *
    obtain ⟨ov, xs, c, ht, hf⟩ := S1.c
    have hxl : xs.length = s.out.length := hf.1
    (repeat (first | (with_reducible first | refine Stp.go ?_ | (refine i_cT ?_ ?_; · first | assumption | decide | exact rfl) | (refine i_cF ?_ ?_; · first | assumption | decide | exact rfl) | (refine i_T ?_ ?_; · first | assumption | exact rfl) | (refine i_F ?_ ?_; · first | assumption | exact rfl) | (refine Sts.go ?_ ?_; · first | omega | decide) | refine Stu.go ?_) | refine g_h1 p2 rfl ?_ | refine g_h1 c rfl ?_))
    refine i_dec (fun h => ?_) (fun h => ?_)
    · (repeat (first | (with_reducible first | refine Stp.go ?_ | (refine i_cT ?_ ?_; · first | assumption | decide | exact rfl) | (refine i_cF ?_ ?_; · first | assumption | decide | exact rfl) | (refine i_T ?_ ?_; · first | assumption | exact rfl) | (refine i_F ?_ ?_; · first | assumption | exact rfl) | (refine Sts.go ?_ ?_; · first | omega | decide) | refine Stu.go ?_) | refine g_h1 p2 rfl ?_ | refine g_h1 c rfl ?_))
      refine g_idxR1 (by omega) ?_
      refine g_h1 S1.cn (v := .str (nameAt names a)) (by simp [nameAt, List.getElem?_eq_getElem (show a.toNat < names.length by omega)]) ?_
      refine gP_i (v := encE ⟨7, nameAt names a, [], [], false⟩) rfl ?_
      refine s_lit (okE _) ?_
      refine s_app ht S1.grow hp (by simp) (okE _) (by simp; omega) fun ov' H3 ht3 g3 ho3 => ?_
      (repeat (with_reducible first | refine Stp.go ?_ | (refine i_cT ?_ ?_; · first | assumption | decide | exact rfl) | (refine i_cF ?_ ?_; · first | assumption | decide | exact rfl) | (refine i_T ?_ ?_; · first | assumption | exact rfl) | (refine i_F ?_ ?_; · first | assumption | exact rfl) | (refine Sts.go ?_ ?_; · first | omega | decide) | refine Stu.go ?_))
      have c3 := c.obs' ho3
      refine h_one c3 (by simp) ht3.val fun _ => ?_
      refine ⟨same_obs ho3, rfl, ?_, (k1.obs ho3).trans (.put _ c3.1)⟩
      have T4 := Ts.put (s := ⟨s.out ++ [⟨7, nameAt names a, [], [], false⟩], s.met, s.deep, s.most⟩) (v := v) (n := g.length) g3 hB c3.1 hne (S1.cn.obs' ho3) ht3 (hf.snoc (isEv _))
      rw [tellF, if_pos h]
      exact T4
    have hm1 : s.met + 1 ≤ g.length := by omega
    (repeat (first | (with_reducible first | refine Stp.go ?_ | (refine i_cT ?_ ?_; · first | assumption | decide | exact rfl) | (refine i_cF ?_ ?_; · first | assumption | decide | exact rfl) | (refine i_T ?_ ?_; · first | assumption | exact rfl) | (refine i_F ?_ ?_; · first | assumption | exact rfl) | (refine Sts.go ?_ ?_; · first | omega | decide) | refine Stu.go ?_) | refine g_h1 p2 rfl ?_ | refine g_h1 c rfl ?_))
    refine h_one c (by simp) rfl fun _ => ?_
    have S5 := Ts.put (s := ⟨s.out, s.met + 1, s.deep, s.most⟩) (v := v) (n := g.length) S1.grow hB c.1 hne S1.cn ht hf
    have k5 := k1.trans (Keep.put (.cells [v, ov, .slr bn 0 g.length 1, .int .i64 ((s.met + 1 : Nat) : Int), .int .i64 s.deep, .int .i64 s.most]) c.1)
    have p2' := p2.put (o := .cells [v, ov, .slr bn 0 g.length 1, .int .i64 ((s.met + 1 : Nat) : Int), .int .i64 s.deep, .int .i64 s.most]) c.1 hp2
    simp only [List.set_cons_succ, List.set_cons_zero]
    rw [show (s.met : Int) + 1 = ((s.met + 1 : Nat) : Int) from rfl]
    clear p2
    have hl5 : (H1.put b (.cells [v, ov, .slr bn 0 g.length 1, .int .i64 ((s.met + 1 : Nat) : Int), .int .i64 s.deep, .int .i64 s.most])).obs.length = H1.obs.length := put_len _ _ _
    generalize H1.put b (.cells [v, ov, .slr bn 0 g.length 1, .int .i64 ((s.met + 1 : Nat) : Int), .int .i64 s.deep, .int .i64 s.most]) = H5 at *
    obtain ⟨ov5, xs5, c5, ht5, hf5⟩ := S5.c
    (repeat (first | (with_reducible first | refine Stp.go ?_ | (refine i_cT ?_ ?_; · first | assumption | decide | exact rfl) | (refine i_cF ?_ ?_; · first | assumption | decide | exact rfl) | (refine i_T ?_ ?_; · first | assumption | exact rfl) | (refine i_F ?_ ?_; · first | assumption | exact rfl) | (refine Sts.go ?_ ?_; · first | omega | decide) | refine Stu.go ?_) | refine g_h1 p2' rfl ?_ | refine g_h1 c5 rfl ?_))
    refine g_at hv ha.1 (List.getElem?_eq_getElem hag) fun x hx => ?_
    have hx' := hx
    have hok := hx.ok
    have hni := hg.2 _ (List.getElem_mem hag)
    have hkk := hk _ (List.getElem_mem hag)
    have htf : tellF g names (n + 1) s a = if ((g[a.toNat]?).getD default).kind = 0 then ⟨s.out ++ [nameEv (eventOf ((g[a.toNat]?).getD default)) (nameAt names a)], s.met + 1, s.deep, s.most⟩ else
      let s4 := ((g[a.toNat]?).getD default).kids.foldl (fun s k => tellF g names n s k) (openS s (nameEv (eventOf ((g[a.toNat]?).getD default)) (nameAt names a)))
      ⟨s4.out ++ [⟨(eventOf ((g[a.toNat]?).getD default)).kind + 1, [], [], [], false⟩], s4.met, s4.deep - 1, s4.most⟩ := by rw [tellF, if_neg h]
    rw [List.getElem?_eq_getElem hag, Option.getD_some] at htf
    generalize g[a.toNat] = nd at *
    obtain ⟨kv, rfl, hkv⟩ := hx
    refine g_ldv4 ?_
    refine a_i ?_
    refine h_top (c' := [AV.int IntKind.i64 nd.kind, AV.str nd.tag, AV.str nd.text, kv]) hok.1 hok.2.1 hok.2.2 (by simp) rfl ?_
    have p4 := Holds.push H5 [AV.int IntKind.i64 nd.kind, AV.str nd.tag, AV.str nd.text, kv]
    have hp4 : H5.obs.length ≠ b := by have := c5.1; omega
    have p2'' := p2'.pushed (.cells [AV.int IntKind.i64 nd.kind, AV.str nd.tag, AV.str nd.text, kv])
    have S7 := S5.up (.push _ (.cells [AV.int IntKind.i64 nd.kind, AV.str nd.tag, AV.str nd.text, kv]))
    have k7 : Keep b H (H5.push (.cells [AV.int IntKind.i64 nd.kind, AV.str nd.tag, AV.str nd.text, kv])) := k5.pushed
    have hl7 : (H5.push (.cells [AV.int IntKind.i64 nd.kind, AV.str nd.tag, AV.str nd.text, kv])).obs.length = H5.obs.length + 1 := push_len _ _
    clear p2' S5 c5 ht5 k5
    generalize H5.push (.cells [AV.int IntKind.i64 nd.kind, AV.str nd.tag, AV.str nd.text, kv]) = H7 at *
    generalize H5.obs.length = b4 at *
    refine g_hN p4 rfl ?_
    refine c_gr (event_ok hT hK hx' hni H7) fun H8 g8 => ?_
    refine a_i ?_
    refine h_top (c' := (encE (eventOf nd)).cells) rfl rfl rfl (by simp) rfl ?_
    have p5 := Holds.push H8 (encE (eventOf nd)).cells
    have g10 : Grow H7 (H8.push (.cells (encE (eventOf nd)).cells)) := g8.pushed
    have S10 := S7.up g10
    have hp5 : H8.obs.length ≠ b := by have h1 := g8.len; obtain ⟨_, _, c, _⟩ := S7.c; have := c.1; omega
    have k10 : Keep b H (H8.push (.cells (encE (eventOf nd)).cells)) := k7.trans (.of g10)
    replace p4 := p4.grow g10
    replace p2'' := p2''.grow g10
    have hl8 := g8.len
    clear S7 k7 g10 g8
    generalize H8.push (.cells (encE (eventOf nd)).cells) = H10 at *
    generalize H8.obs.length = b5 at *
    obtain ⟨ov10, xs10, c10, ht10, hf10⟩ := S10.c
    (repeat (first | (with_reducible first | refine Stp.go ?_ | (refine i_cT ?_ ?_; · first | assumption | decide | exact rfl) | (refine i_cF ?_ ?_; · first | assumption | decide | exact rfl) | (refine i_T ?_ ?_; · first | assumption | exact rfl) | (refine i_F ?_ ?_; · first | assumption | exact rfl) | (refine Sts.go ?_ ?_; · first | omega | decide) | refine Stu.go ?_) | refine g_h1 p2'' rfl ?_ | refine g_h1 c10 rfl ?_))
    refine g_idxR1 (by omega) ?_
    refine g_h1 S10.cn (v := .str (nameAt names a)) (by simp [nameAt, List.getElem?_eq_getElem (show a.toNat < names.length by omega)]) ?_
    (repeat (with_reducible first | refine Stp.go ?_ | (refine i_cT ?_ ?_; · first | assumption | decide | exact rfl) | (refine i_cF ?_ ?_; · first | assumption | decide | exact rfl) | (refine i_T ?_ ?_; · first | assumption | exact rfl) | (refine i_F ?_ ?_; · first | assumption | exact rfl) | (refine Sts.go ?_ ?_; · first | omega | decide) | refine Stu.go ?_))
    refine h_one p5 (by simp [encE, AV.cells]) rfl fun p5' => ?_
    have hb45 : b4 ≠ b5 := by omega
    have hb25 : b2 ≠ b5 := by omega
    have hHb5 : H.obs.length ≤ b5 := by omega
    change Holds _ b5 (encE (nameEv (eventOf nd) (nameAt names a))).cells at p5'
    change Holds _ _ _ at p5'
    have g11 : Grow H0 (H10.put b5 (.cells ((encE (eventOf nd)).cells.set 1 (.str (nameAt names a))))) := S10.grow.put (by omega)
    have c11 := c10.put (o := .cells ((encE (eventOf nd)).cells.set 1 (.str (nameAt names a)))) p5.1 hp5.symm
    have cn11 := S10.cn.put (o := .cells ((encE (eventOf nd)).cells.set 1 (.str (nameAt names a)))) p5.1 (by omega)
    have p4' := p4.put (o := .cells ((encE (eventOf nd)).cells.set 1 (.str (nameAt names a)))) p5.1 hb45
    have p22 := p2''.put (o := .cells ((encE (eventOf nd)).cells.set 1 (.str (nameAt names a)))) p5.1 hb25
    have k11 := k10.putN (o := .cells ((encE (eventOf nd)).cells.set 1 (.str (nameAt names a)))) hHb5
    have ht11 : Tok H0 (H10.put b5 (.cells ((encE (eventOf nd)).cells.set 1 (.str (nameAt names a))))) 5 ov10 xs10 := ht10.same rfl
    clear p4 p2'' S10 c10 ht10 k10 p5
    generalize H10.put b5 (.cells ((encE (eventOf nd)).cells.set 1 (.str (nameAt names a)))) = H11 at *
    (repeat (first | (with_reducible first | refine Stp.go ?_ | (refine i_cT ?_ ?_; · first | assumption | decide | exact rfl) | (refine i_cF ?_ ?_; · first | assumption | decide | exact rfl) | (refine i_T ?_ ?_; · first | assumption | exact rfl) | (refine i_F ?_ ?_; · first | assumption | exact rfl) | (refine Sts.go ?_ ?_; · first | omega | decide) | refine Stu.go ?_) | refine g_h1 p22 rfl ?_ | refine g_h1 c11 rfl ?_))
    refine g_hN p5' rfl ?_
    refine s_lit (okE (nameEv (eventOf nd) (nameAt names a))) ?_
    have hx10 : xs10.length = s.out.length := hf10.1
    refine s_app ht11 g11 hp (by simp) (okE (nameEv (eventOf nd) (nameAt names a))) (by simp; omega) fun ov' H13 ht13 g13 ho13 => ?_
    (repeat (with_reducible first | refine Stp.go ?_ | (refine i_cT ?_ ?_; · first | assumption | decide | exact rfl) | (refine i_cF ?_ ?_; · first | assumption | decide | exact rfl) | (refine i_T ?_ ?_; · first | assumption | exact rfl) | (refine i_F ?_ ?_; · first | assumption | exact rfl) | (refine Sts.go ?_ ?_; · first | omega | decide) | refine Stu.go ?_))
    have c13 := c11.obs' ho13
    refine h_one c13 (by simp) ht13.val fun _ => ?_
    refine ⟨same_obs ho13, ?_⟩
    have S14 := Ts.put (s := ⟨s.out ++ [nameEv (eventOf nd) (nameAt names a)], s.met + 1, s.deep, s.most⟩) (v := v) (n := g.length) g13 hB c13.1 hne (cn11.obs' ho13) ht13 (hf10.snoc (isEv _))
    have k14 := (k11.obs ho13).trans (.put (.cells [v, ov', .slr bn 0 g.length 1, .int .i64 ((s.met + 1 : Nat) : Int), .int .i64 s.deep, .int .i64 s.most]) c13.1)
    have q4 := (p4'.obs' ho13).put (o := .cells [v, ov', .slr bn 0 g.length 1, .int .i64 ((s.met + 1 : Nat) : Int), .int .i64 s.deep, .int .i64 s.most]) c13.1 hp4
    have q2 := (p22.obs' ho13).put (o := .cells [v, ov', .slr bn 0 g.length 1, .int .i64 ((s.met + 1 : Nat) : Int), .int .i64 s.deep, .int .i64 s.most]) c13.1 hp2
    have q5 := (p5'.obs' ho13).put (o := .cells [v, ov', .slr bn 0 g.length 1, .int .i64 ((s.met + 1 : Nat) : Int), .int .i64 s.deep, .int .i64 s.most]) c13.1 hp5
    simp only [List.set_cons_succ, List.set_cons_zero]
    change Ts H0 (H13.put b (.cells [v, ov', .slr bn 0 g.length 1, .int .i64 ((s.met + 1 : Nat) : Int), .int .i64 s.deep, .int .i64 s.most])) v g.length b bn names _ at S14
    generalize H13.put b (.cells [v, ov', .slr bn 0 g.length 1, .int .i64 ((s.met + 1 : Nat) : Int), .int .i64 s.deep, .int .i64 s.most]) = H14 at *
    clear c13 ht13 g13 ho13 p4' p22 k11 cn11 c11
    (repeat (first | (with_reducible first | refine Stp.go ?_ | (refine i_cT ?_ ?_; · first | assumption | decide | exact rfl) | (refine i_cF ?_ ?_; · first | assumption | decide | exact rfl) | (refine i_T ?_ ?_; · first | assumption | exact rfl) | (refine i_F ?_ ?_; · first | assumption | exact rfl) | (refine Sts.go ?_ ?_; · first | omega | decide) | refine Stu.go ?_) | refine g_h1 q4 rfl ?_))
    refine i_int (fun h0 => ?_) (fun h0 => ?_)
    · rw [if_pos h0] at htf
      exact ⟨trivial, by rw [htf]; exact S14, k14⟩
    rw [if_neg h0] at htf
    (repeat (first | (with_reducible first | refine Stp.go ?_ | (refine i_cT ?_ ?_; · first | assumption | decide | exact rfl) | (refine i_cF ?_ ?_; · first | assumption | decide | exact rfl) | (refine i_T ?_ ?_; · first | assumption | exact rfl) | (refine i_F ?_ ?_; · first | assumption | exact rfl) | (refine Sts.go ?_ ?_; · first | omega | decide) | refine Stu.go ?_) | refine g_h1 q2 rfl ?_))
    refine s_fn2 ?_
    have hkl := hni.1
    -- the kids
    have o1 : (openS s (nameEv (eventOf nd) (nameAt names a))).met = s.met + 1 := rfl
    have o2 : (openS s (nameEv (eventOf nd) (nameAt names a))).deep = s.deep + 1 := rfl
    have o3 : (openS s (nameEv (eventOf nd) (nameAt names a))).out.length = s.out.length + 1 := by simp [openS]
    have o4 : (openS s (nameEv (eventOf nd) (nameAt names a))).most ≤ g.length := by simp only [openS]; omega
    have hopen : (⟨s.out ++ [nameEv (eventOf nd) (nameAt names a)], s.met + 1, s.deep + 1, max s.most (s.deep + 1)⟩ : Tl) = openS s (nameEv (eventOf nd) (nameAt names a)) := rfl
    generalize openS s (nameEv (eventOf nd) (nameAt names a)) = s3 at *
    have fold : ∀ (j : Nat), j ≤ nd.kids.length → Told g.length j s3 ((nd.kids.take j).foldl (fun s k => tellF g names n s k) s3) := by
      intro j
      induction j with
      | zero => intro _; exact .zero (by omega) o4
      | succ j ihj =>
        intro hj
        have hjl : j < nd.kids.length := by omega
        have h1 := ihj (by omega)
        rw [List.take_add_one, List.getElem?_eq_getElem hjl, List.foldl_append]
        refine h1.trans (told_of hk (fun n hn => (hg.2 n hn).1) n _ _ (hkk _ (List.getElem_mem hjl)) h1.le ?_ h1.most)
        have a1 := h1.met; have a2 := h1.deep
        omega
    have hall := fold nd.kids.length (Nat.le_refl _)
    rw [List.take_length] at hall
    have e1 := hall.met; have e2 := hall.deep; have e3 := hall.le; have e4 := hall.most; have e5 := hall.out
    refine c_i (inside_ok hT (F := 114) (s4 := nd.kids.foldl (fun s k => tellF g names n s k) s3) hB hne (by decide) S14 (by simp only; omega) (by simp only; omega) (by omega) fun H2 S2 k2 => ?_) ?_
    · -- the closure
      simp only [hopen] at S2
      refine w114_ok hT ?_
      unfold w114
      have r4 := q4.keep k2 hp4
      have r2 := q2.keep k2 hp2
      (repeat (first | (with_reducible first | refine Stp.go ?_ | (refine i_cT ?_ ?_; · first | assumption | decide | exact rfl) | (refine i_cF ?_ ?_; · first | assumption | decide | exact rfl) | (refine i_T ?_ ?_; · first | assumption | exact rfl) | (refine i_F ?_ ?_; · first | assumption | exact rfl) | (refine Sts.go ?_ ?_; · first | omega | decide) | refine Stu.go ?_) | refine g_h1 r4 rfl ?_ | refine g_lenW hkv ?_))
      refine l1 (fun m a' H' => ∃ j : Nat, a' = .int .i64 j ∧ j ≤ nd.kids.length ∧ Keep b H2 H' ∧ Ts H0 H' v g.length b bn names ((nd.kids.take j).foldl (fun s k => tellF g names n s k) s3) ∧ m = nd.kids.length - j) nd.kids.length
        ⟨0, rfl, Nat.zero_le _, .refl _ _, S2, rfl⟩ ?_
      rintro m _ H3 ⟨j, rfl, hj, k3, S3, hmj⟩
      (repeat (with_reducible first | refine Stp.go ?_ | (refine i_cT ?_ ?_; · first | assumption | decide | exact rfl) | (refine i_cF ?_ ?_; · first | assumption | decide | exact rfl) | (refine i_T ?_ ?_; · first | assumption | exact rfl) | (refine i_F ?_ ?_; · first | assumption | exact rfl) | (refine Sts.go ?_ ?_; · first | omega | decide) | refine Stu.go ?_))
      refine i_dec (fun h => ?_) (fun h => ?_)
      rotate_left
      · rw [show j = nd.kids.length by omega, List.take_length] at S3
        exact ⟨rfl, S3, k3⟩
      have hjl : j < nd.kids.length := by omega
      have hf3 := fold j hj
      refine g_atIn hkv (List.getElem?_eq_getElem hjl) ?_
      refine g_ldv ?_
      refine g_h1 (r2.keep k3 hp2) rfl ?_
      have a1 := hf3.met; have a2 := hf3.deep; have a3 := hf3.out; have a4 := hf3.le
      refine c_i (ih nd.kids[j] _ H3 (hkk _ (List.getElem_mem hjl)) (by omega) hf3.le (by omega) hf3.most (by omega) S3) ?_
      rintro _ H4 ⟨rfl, S4, k4⟩
      (repeat (with_reducible first | refine Stp.go ?_ | (refine i_cT ?_ ?_; · first | assumption | decide | exact rfl) | (refine i_cF ?_ ?_; · first | assumption | decide | exact rfl) | (refine i_T ?_ ?_; · first | assumption | exact rfl) | (refine i_F ?_ ?_; · first | assumption | exact rfl) | (refine Sts.go ?_ ?_; · first | omega | decide) | refine Stu.go ?_))
      refine ⟨nd.kids.length - (j + 1), by omega, j + 1, by congr 1, by omega, k3.trans k4, ?_, rfl⟩
      rw [List.take_add_one, List.getElem?_eq_getElem hjl, List.foldl_append]
      exact S4
    rintro _ H16 ⟨rfl, S16, k16⟩
    generalize nd.kids.foldl (fun s k => tellF g names n s k) s3 = s4 at *
    have r5 := q5.keep k16 hp5
    have r2 := q2.keep k16 hp2
    obtain ⟨ov16, xs16, c16, ht16, hf16⟩ := S16.c
    have hx16 : xs16.length = s4.out.length := hf16.1
    have hkind : 0 ≤ (nameEv (eventOf nd) (nameAt names a)).kind ∧ (nameEv (eventOf nd) (nameAt names a)).kind < 10 := eventOf_kind nd
    (repeat (first | (with_reducible first | refine Stp.go ?_ | (refine i_cT ?_ ?_; · first | assumption | decide | exact rfl) | (refine i_cF ?_ ?_; · first | assumption | decide | exact rfl) | (refine i_T ?_ ?_; · first | assumption | exact rfl) | (refine i_F ?_ ?_; · first | assumption | exact rfl) | (refine Sts.go ?_ ?_; · first | omega | decide) | refine Stu.go ?_) | refine g_h1 r2 rfl ?_ | refine g_h1 c16 rfl ?_ | refine g_h1 r5 rfl ?_))
    have hbld : ∀ {k : AV → Prop} {i : Int}, k (encE ⟨i, [], [], [], false⟩) → gP ((aBuild [(.int .i64 0), (.str []), (.str []), (.str []), (.bool false)] [(0, 1, .int .i64 i)]).map .agg) k := fun h => gP_i rfl h
    change gP ((aBuild [(.int .i64 0), (.str []), (.str []), (.str []), (.bool false)] [(0, 1, .int .i64 ((eventOf nd).kind + 1))]).map .agg) _
    refine hbld ?_
    refine s_lit (okE _) ?_
    refine s_app ht16 S16.grow hp (by simp) (okE _) (by simp; omega) fun ov' H18 ht18 g18 ho18 => ?_
    (repeat (with_reducible first | refine Stp.go ?_ | (refine i_cT ?_ ?_; · first | assumption | decide | exact rfl) | (refine i_cF ?_ ?_; · first | assumption | decide | exact rfl) | (refine i_T ?_ ?_; · first | assumption | exact rfl) | (refine i_F ?_ ?_; · first | assumption | exact rfl) | (refine Sts.go ?_ ?_; · first | omega | decide) | refine Stu.go ?_))
    have c18 := c16.obs' ho18
    refine h_one c18 (by simp) ht18.val fun _ => ?_
    refine ⟨same_obs ho18, trivial, ?_, (((k14.trans (.refl _ _)).trans k16).obs ho18).trans (.put _ c18.1)⟩
    have S19 := Ts.put (s := ⟨s4.out ++ [⟨(eventOf nd).kind + 1, [], [], [], false⟩], s4.met, s4.deep - 1, s4.most⟩) (v := v) (n := g.length) g18 hB c18.1 hne (S16.cn.obs' ho18) ht18 (hf16.snoc (isEv _))
    rw [htf]
    exact S19

end Go.SV
