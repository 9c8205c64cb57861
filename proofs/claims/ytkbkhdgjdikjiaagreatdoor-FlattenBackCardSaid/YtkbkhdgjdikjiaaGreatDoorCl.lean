/- Contracts: names of anchors, a graph told, events of graphs. Own text of the prover; nothing is assumed. -/
import Derived.Test.YtkbkhdgjdikjiaaGreatDoorCk
set_option maxRecDepth 100000
namespace Go.SV

variable {T : Nat → Option Entry}

def anchorN (n : Nat) : List UInt8 := 97 :: Lib.itoa n
def namesF : List Int → Nat → Nat → List (List UInt8)
  | [], _, _ => []
  | c :: l, i, n => if 1 < (if i = 0 then c + 1 else c) then anchorN (n + 1) :: namesF l (i + 1) (n + 1) else [] :: namesF l (i + 1) n
theorem namesF_len : ∀ (l : List Int) (i n : Nat), (namesF l i n).length = l.length := by
  intro l
  induction l with
  | nil => intro i n; rfl
  | cons c l ih =>
    intro i n
    rw [namesF]
    by_cases h : 1 < (if i = 0 then c + 1 else c)
    · rw [if_pos h, List.length_cons, ih, List.length_cons]
    · rw [if_neg h, List.length_cons, ih, List.length_cons]
def namesG (g : List Nd) : List (List UInt8) := namesF (ins g) 0 0 ++ List.replicate (g.length - (ins g).length) []
def tellG (g : List Nd) : Tl := tellF (normal g) (namesG (normal g)) ((normal g).length + 1) ⟨[], 0, 0, 0⟩ 0

theorem ins_len (g : List Nd) : (ins g).length ≤ g.length := by unfold ins; split <;> simp [cnt_len]
theorem namesG_len (g : List Nd) : (namesG g).length = g.length := by
  have := ins_len g
  simp [namesG, namesF_len]; omega
theorem normal_len (g : List Nd) : (normal g).length = (order g).length := by simp [normal]

theorem setAll_in (m : Nat) : ∀ (o : List Int) (i : Nat) (l : List Int), i + o.length ≤ m → (∀ x ∈ l, 0 ≤ x ∧ x < m) → ∀ x ∈ setAll o i l, 0 ≤ x ∧ x < m := by
  intro o
  induction o with
  | nil => intro i l _ h; exact h
  | cons a o ih =>
    intro i l hi h
    simp only [List.length_cons] at hi
    refine ih (i + 1) _ (by omega) fun x hx => ?_
    rcases List.mem_or_eq_of_mem_set hx with h1 | rfl
    · exact h x h1
    · omega

theorem order_pos {g : List Nd} (hr : rightG g = true) : 0 < (order g).length := by
  obtain ⟨hl, hk⟩ := rightG_kids hr
  have hm := (met_of g hk (g.length + 1) (List.replicate g.length 0, []) 0 (by simp [hasG]; omega) (by simp))
  rw [order, if_pos hr]
  have : ∀ (ks : List Int) (n : Nat) (s : List Nat × List Int), 0 < s.2.length → 0 < (ks.foldl (fun s k => meetF g n s k) s).2.length := by
    intro ks n
    have mono : ∀ (n : Nat) (s : List Nat × List Int) (i : Int), 0 < s.2.length → 0 < (meetF g n s i).2.length := by
      intro n
      induction n with
      | zero => intro s i h; exact h
      | succ n ih =>
        intro s i h
        simp only [meetF]
        split
        · exact h
        · have f : ∀ (ks : List Int) (s : List Nat × List Int), 0 < s.2.length → 0 < (ks.foldl (fun s k => meetF g n s k) s).2.length := by
            intro ks
            induction ks with
            | nil => intro s h; exact h
            | cons k ks ihk => intro s h; exact ihk _ (ih s k h)
          exact f _ _ (by simp)
    induction ks with
    | nil => intro s h; exact h
    | cons k ks ihk => intro s h; exact ihk _ (mono n s k h)
  rw [meetF]
  have h0 : ((List.replicate g.length 0)[(0 : Int).toNat]?).getD 0 = 0 := by
    rw [show (0 : Int).toNat = 0 from rfl]
    cases g with
    | nil => simp at hl
    | cons => simp
  simp only [h0, Nat.lt_irrefl, if_false]
  exact this _ _ _ (by simp)

theorem normal_kids {g : List Nd} (hr : rightG g = true) : ∀ n ∈ normal g, ∀ k ∈ n.kids, hasG (normal g) k = true := by
  intro n hn k hk
  simp only [normal, List.mem_map] at hn
  obtain ⟨a, ha, rfl⟩ := hn
  simp only [renum, List.mem_map] at hk
  obtain ⟨k', hk', rfl⟩ := hk
  have hp := order_pos hr
  simp only [hasG, decide_eq_true_eq, normal_len]
  have hall := setAll_in (order g).length (order g) 0 (List.replicate g.length 0) (by omega) (fun x hx => by rw [List.eq_of_mem_replicate hx]; omega)
  cases e : (numbers g)[k'.toNat]? with
  | none => simp only [Option.getD_none]; omega
  | some x => simp only [Option.getD_some]; exact hall x (List.mem_of_getElem? e)

theorem normal_ok2 {g : List Nd} (hg : OkG g) : OkG (normal g) := by
  refine ⟨by rw [normal_len]; exact Nat.lt_of_le_of_lt (order_len g) hg.1, fun n hn => ?_⟩
  simp only [normal, List.mem_map] at hn
  obtain ⟨a, ha, rfl⟩ := hn
  have := order_has g a ha
  simp only [hasG, decide_eq_true_eq] at this
  have hlt : a.toNat < g.length := by omega
  have h := hg.2 _ (List.getElem_mem hlt)
  rw [List.getElem?_eq_getElem hlt]
  exact ⟨by simpa [renum] using h.1, h.2.1, h.2.2⟩

theorem kids_len : ∀ (l : List Nd), (∀ n ∈ l, n.kids.length < 2 ^ 20) → (l.flatMap (·.kids)).length ≤ l.length * 2 ^ 20 := by
  intro l
  induction l with
  | nil => intro _; simp
  | cons a l ih =>
    intro h
    have h1 := h a (by simp)
    have h2 := ih fun n hn => h n (by simp [hn])
    simp only [List.flatMap_cons, List.length_append, List.length_cons]
    omega
theorem ins_in {g : List Nd} (hg : OkG g) (hl : g.length ≤ 2000) : ∀ c ∈ ins g, 0 ≤ c ∧ c < 2 ^ 60 := by
  intro c hc
  unfold ins at hc
  split at hc
  · simp only [cnt, List.mem_map] at hc
    obtain ⟨i, _, rfl⟩ := hc
    have h1 := List.count_le_length (a := (i : Int)) (l := g.flatMap (·.kids))
    have h2 := kids_len g fun n hn => (hg.2 n hn).1
    omega
  · simp at hc

theorem nDigits_le (u : Nat) : Lib.nDigits u ≤ u + 1 := by
  induction u using Nat.strongRecOn with
  | _ u ih =>
    rw [Lib.nDigits]
    split
    · omega
    · have := ih (u / 10) (by omega); omega
theorem itoa_len (n : Nat) : (Lib.itoa n).length ≤ n + 1 := by
  unfold Lib.itoa
  rw [if_neg (by omega), Lib.decDigits_length, Int.toNat_natCast]
  exact nDigits_le n

theorem strs_rep (n : Nat) : (List.replicate n [AV.str []]).flatten = (List.replicate n ([] : List UInt8)).map AV.str := by
  induction n with
  | zero => rfl
  | succ n ih => rw [List.replicate_succ, List.flatten_cons, ih]; rfl

theorem tell_ok (hT : Has T) (hK : Knows T) {v : AV} {g : List Nd} (hv : IsG v g) (hg : OkG g) (hr : rightG g = true) (H : AH) (hp : 0 < H.toks.length) :
    ∃ v' H', Den.of T 43 [v] H = some (v', H') ∧ (∃ b gv ov nv m d xs, v' = .ptr b 0 ∧ Holds H' b [gv, ov, nv, m, d, .int .i64 (tellG g).most] ∧ Tok H H' 5 ov xs ∧ F2 IsEv xs (tellG g).out) ∧ Grow H H' ∧
      ((tellG g).most ≤ 2000 ∧ (tellG g).out.length < 2 ^ 31) := by
  refine w43_ok hT ?_
  unfold w43
  refine c_i (normal_ok hT hK hv hg H hp) ?_
  rintro gv H1 ⟨hgv, g1⟩
  obtain ⟨hgl, _⟩ := rightG_kids hr
  have hol := order_len g
  have hop := order_pos hr
  have hnk := normal_kids hr
  have hgn := normal_ok2 hg
  have hnl : (normal g).length ≤ 2000 := by rw [normal_len]; omega
  have hnp : 0 < (normal g).length := by rw [normal_len]; exact hop
  have htg : tellG g = tellF (normal g) (namesG (normal g)) ((normal g).length + 1) ⟨[], 0, 0, 0⟩ 0 := rfl
  generalize normal g = g' at *
  refine g_lenW hgv ?_
  refine s_mkR (by omega) (by omega) rfl ?_
  rw [strs_rep]
  refine gP_i (v := .agg [gv, .nils, .slr H1.obs.length 0 g'.length 1, .int .i64 0, .int .i64 0, .int .i64 0]) ?_ ?_
  · have hd : gv.def? = true := hgv.def
    have hc : gv.cells = [gv] := hgv.cells
    simp only [aBuild, hd, hc, List.length_singleton, List.length_cons, List.length_nil]
    rfl
  refine s_box rfl ?_ ?_
  · show (gv.isCell && true) = true
    rw [hgv.cell]; rfl
  have cn := (Holds.push H1 ((List.replicate g'.length ([] : List UInt8)).map AV.str)).pushed (.cells (AV.agg [gv, .nils, .slr H1.obs.length 0 g'.length 1, .int .i64 0, .int .i64 0, .int .i64 0]).cells)
  have cb := Holds.push (H1.push (.cells ((List.replicate g'.length ([] : List UInt8)).map AV.str))) (AV.agg [gv, .nils, .slr H1.obs.length 0 g'.length 1, .int .i64 0, .int .i64 0, .int .i64 0]).cells
  have g3 : Grow H ((H1.push (.cells ((List.replicate g'.length ([] : List UInt8)).map AV.str))).push (.cells (AV.agg [gv, .nils, .slr H1.obs.length 0 g'.length 1, .int .i64 0, .int .i64 0, .int .i64 0]).cells)) := g1.pushed.pushed
  have hlb : (H1.push (.cells ((List.replicate g'.length ([] : List UInt8)).map AV.str))).obs.length = H1.obs.length + 1 := push_len _ _
  have hl1 := g1.len
  generalize (H1.push (.cells ((List.replicate g'.length ([] : List UInt8)).map AV.str))).push (.cells (AV.agg [gv, .nils, .slr H1.obs.length 0 g'.length 1, .int .i64 0, .int .i64 0, .int .i64 0]).cells) = H3 at *
  generalize (H1.push (.cells ((List.replicate g'.length ([] : List UInt8)).map AV.str))).obs.length = b at *
  generalize H1.obs.length = bn at *
  refine c_i (ins_ok hT hK hgv hgn H3 (g3.pos hp)) ?_
  rintro iw H4 ⟨hiw, g4'⟩
  have g4 := g3.trans g4'
  replace cn := cn.grow g4'
  replace cb := cb.grow g4'
  have hil := ins_len g'
  have hib := ins_in hgn (by omega)
  refine g_lenW hiw ?_
  refine l2 (fun m a c H' => ∃ (i n : Nat) (pre : List (List UInt8)), a = .int .i64 n ∧ c = .int .i64 i ∧ i ≤ (ins g').length ∧ n ≤ i ∧ Grow H H' ∧ Holds H' b [gv, .nils, .slr bn 0 g'.length 1, .int .i64 0, .int .i64 0, .int .i64 0] ∧
    Holds H' bn ((pre ++ List.replicate (g'.length - i) []).map AV.str) ∧ pre.length = i ∧ namesF (ins g') 0 0 = pre ++ namesF ((ins g').drop i) i n ∧ m = (ins g').length - i) (ins g').length
    ⟨0, 0, [], rfl, rfl, Nat.zero_le _, Nat.le_refl _, g4, cb, by simpa using cn, rfl, rfl, rfl⟩ ?_
  rintro m _ _ H5 ⟨i, n, pre, rfl, rfl, hi, hn, g5, cb5, cn5, hpl, hnm, hm⟩
  (repeat (with_reducible first | refine Stp.go ?_ | (refine i_cT ?_ ?_; · first | assumption | decide | exact rfl) | (refine i_cF ?_ ?_; · first | assumption | decide | exact rfl) | (refine i_T ?_ ?_; · first | assumption | exact rfl) | (refine i_F ?_ ?_; · first | assumption | exact rfl) | (refine Sts.go ?_ ?_; · first | omega | decide) | refine Stu.go ?_))
  refine i_dec (fun h => ?_) (fun h => ?_)
  rotate_left
  · have hie : i = (ins g').length := by omega
    have hng : namesG g' = pre ++ List.replicate (g'.length - i) [] := by
      rw [hie, List.drop_length] at hnm
      simp only [namesF, List.append_nil] at hnm
      rw [namesG, hnm, ← hie]
    rw [← hng] at cn5
    have S0 : Ts H H5 gv g'.length b bn (namesG g') ⟨[], 0, 0, 0⟩ := ⟨g5, ⟨.nils, [], cb5, .nil _ _ _, .nil⟩, cn5⟩
    have h0 : hasG g' 0 = true := by simp only [hasG, decide_eq_true_eq]; omega
    refine c_i (node_ok hT hK hgv hgn hnl hnk hp (by omega) (by omega) (namesG_len g') (g'.length + 1) 0 ⟨[], 0, 0, 0⟩ H5 h0 (by simp only; omega) (Nat.zero_le _) (Nat.le_refl _) (Nat.zero_le _) (by simp only [List.length_nil]; omega) S0) ?_
    rintro _ H10 ⟨rfl, S, _⟩
    have tl := told_of (names := namesG g') hnk (fun n hn => (hgn.2 n hn).1) (g'.length + 1) ⟨[], 0, 0, 0⟩ 0 h0 (Nat.zero_le _) (Nat.le_refl _) (Nat.zero_le _)
    rw [← htg] at S tl
    obtain ⟨ov, xs, c, ht, hf⟩ := S.c
    refine ⟨⟨b, _, ov, _, _, _, xs, rfl, c, ht, hf⟩, S.grow, ?_, ?_⟩
    · have := tl.most; omega
    · have := tl.out
      simp only [List.length_nil] at this
      omega
  have hlt : i < (ins g').length := by omega
  have hci := hib _ (List.getElem_mem hlt)
  have hce : (ins g')[i]? = some (ins g')[i] := List.getElem?_eq_getElem hlt
  rw [List.drop_eq_getElem_cons hlt, namesF] at hnm
  generalize (ins g')[i] = c at *
  have hrep : List.replicate (g'.length - i) ([] : List UInt8) = [] :: List.replicate (g'.length - (i + 1)) [] := by
    rw [show g'.length - i = (g'.length - (i + 1)) + 1 by omega]; rfl
  refine j1 (fun a H' => ∃ (n' : Nat) (x : List UInt8), a = .int .i64 n' ∧ n' ≤ i + 1 ∧ Grow H H' ∧ Holds H' b [gv, .nils, .slr bn 0 g'.length 1, .int .i64 0, .int .i64 0, .int .i64 0] ∧ Holds H' bn (((pre ++ [x]) ++ List.replicate (g'.length - (i + 1)) []).map AV.str) ∧
    namesF (ins g') 0 0 = (pre ++ [x]) ++ namesF ((ins g').drop (i + 1)) (i + 1) n') ?_ ?_
  · rintro _ H6 ⟨n', x, rfl, q1, q2, q3, q4, q5⟩
    (repeat (with_reducible first | refine Stp.go ?_ | (refine i_cT ?_ ?_; · first | assumption | decide | exact rfl) | (refine i_cF ?_ ?_; · first | assumption | decide | exact rfl) | (refine i_T ?_ ?_; · first | assumption | exact rfl) | (refine i_F ?_ ?_; · first | assumption | exact rfl) | (refine Sts.go ?_ ?_; · first | omega | decide) | refine Stu.go ?_))
    exact ⟨(ins g').length - (i + 1), by omega, i + 1, n', pre ++ [x], rfl, by congr 1, by omega, q1, q2, q3, q4, by simp [hpl], q5, rfl⟩
  intro j hj
  refine g_atIn (l := ins g') hiw hce ?_
  refine g_ldv ?_
  refine j1 (fun a H' => a = .int .i64 (if i = 0 then c + 1 else c) ∧ H5 = H') ?_ ?_
  · rintro _ _ ⟨rfl, rfl⟩
    generalize (if i = 0 then c + 1 else c) = c' at *
    (repeat (with_reducible first | refine Stp.go ?_ | (refine i_cT ?_ ?_; · first | assumption | decide | exact rfl) | (refine i_cF ?_ ?_; · first | assumption | decide | exact rfl) | (refine i_T ?_ ?_; · first | assumption | exact rfl) | (refine i_F ?_ ?_; · first | assumption | exact rfl) | (refine Sts.go ?_ ?_; · first | omega | decide) | refine Stu.go ?_))
    refine i_dec (fun h2 => ?_) (fun h2 => ?_)
    · rw [if_pos (show 1 < c' from h2)] at hnm
      have hit := itoa_len (n + 1)
      (repeat (first | (with_reducible first | refine Stp.go ?_ | (refine i_cT ?_ ?_; · first | assumption | decide | exact rfl) | (refine i_cF ?_ ?_; · first | assumption | decide | exact rfl) | (refine i_T ?_ ?_; · first | assumption | exact rfl) | (refine i_F ?_ ?_; · first | assumption | exact rfl) | (refine Sts.go ?_ ?_; · first | omega | decide) | refine Stu.go ?_) | refine g_h1 cb5 rfl ?_))
      rw [show (n : Int) + 1 = ((n + 1 : Nat) : Int) from rfl]
      refine c_eq (hK.itoa (n + 1) H5 (by omega)) ?_
      refine g_cat (by simp only [List.length_cons, List.length_nil]; omega) ?_
      refine g_idxR1 (by omega) ?_
      refine h_one cn5 (by simp [hpl]; omega) rfl fun cn6 => ?_
      refine ⟨same_rfl, hj _ _ ⟨n + 1, anchorN (n + 1), rfl, by omega, g5.put (by omega), cb5.put cn5.1 (by omega), ?_, by rw [hnm, List.append_assoc]; rfl⟩⟩
      have e : (((pre ++ List.replicate (g'.length - i) []).map AV.str).set ((i : Int).toNat) (.str ([97] ++ Lib.itoa ((n + 1 : Nat) : Int)))) = ((pre ++ [anchorN (n + 1)]) ++ List.replicate (g'.length - (i + 1)) []).map AV.str := by
        rw [Int.toNat_natCast, hrep, List.map_append, List.set_append_right _ _ (by simp [hpl])]
        simp [hpl, anchorN]
      rw [e] at cn6 ⊢
      exact cn6
    · rw [if_neg (show ¬ 1 < c' from h2)] at hnm
      refine hj _ _ ⟨n, [], rfl, by omega, g5, cb5, ?_, by rw [hnm, List.append_assoc]; rfl⟩
      rw [hrep] at cn5
      simpa using cn5
  · intro j3 hj3
    (repeat (with_reducible first | refine Stp.go ?_ | (refine i_cT ?_ ?_; · first | assumption | decide | exact rfl) | (refine i_cF ?_ ?_; · first | assumption | decide | exact rfl) | (refine i_T ?_ ?_; · first | assumption | exact rfl) | (refine i_F ?_ ?_; · first | assumption | exact rfl) | (refine Sts.go ?_ ?_; · first | omega | decide) | refine Stu.go ?_))
    refine i_int (fun h2 => ?_) (fun h2 => ?_)
    · (repeat (with_reducible first | refine Stp.go ?_ | (refine i_cT ?_ ?_; · first | assumption | decide | exact rfl) | (refine i_cF ?_ ?_; · first | assumption | decide | exact rfl) | (refine i_T ?_ ?_; · first | assumption | exact rfl) | (refine i_F ?_ ?_; · first | assumption | exact rfl) | (refine Sts.go ?_ ?_; · first | omega | decide) | refine Stu.go ?_))
      exact hj3 _ _ ⟨by rw [if_pos (by omega)], rfl⟩
    · exact hj3 _ _ ⟨by rw [if_neg (by omega)], rfl⟩

end Go.SV
