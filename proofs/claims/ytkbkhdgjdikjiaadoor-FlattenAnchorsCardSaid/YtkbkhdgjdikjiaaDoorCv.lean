/- Contracts: the name of an anchor; the law of anchors. Own text of the prover; nothing is assumed. -/
import Derived.Test.YtkbkhdgjdikjiaaDoorPf
import Derived.Test.YtkbkhdgjdikjiaaDoorCp
set_option maxRecDepth 100000
namespace Go.SV

variable {T : Nat → Option Entry}

theorem rune_digit : ∀ d : Nat, d < 10 → (Utf8.encode (48 + (d : Int))).data.toList = [UInt8.ofNat (48 + d)] ∧ IntKind.i32.wrap (48 + (d : Int)) = 48 + (d : Int) := by
  intro d hd
  rcases (show d = 0 ∨ d = 1 ∨ d = 2 ∨ d = 3 ∨ d = 4 ∨ d = 5 ∨ d = 6 ∨ d = 7 ∨ d = 8 ∨ d = 9 by omega) with rfl | rfl | rfl | rfl | rfl | rfl | rfl | rfl | rfl | rfl <;> exact ⟨by kernel_rfl, by kernel_rfl⟩

theorem s_rune {n : Int} {κ : IntKind} {H : AH} {k : AV → AH → Prop} (h : k (.str (Utf8.encode n).data.toList) H) : sP (aop [] (.cvRune (.cst (.int κ n))) H) k := sP_i rfl h

theorem name_ok (hT : Has T) {n : Nat} (hn : 0 < n) (hl : n < 2 ^ 40) (H : AH) : Den.of T 15 [.int .i64 n] H = some (.str (anchorN n), H) := by
  refine eq_of (w15_ok hT ?_)
  unfold w15
  refine l2 (fun m a c H' => ∃ (u : Nat) (s : List UInt8), a = .str s ∧ c = .int .i64 u ∧ H = H' ∧ Lib.decDigits n = (if u = 0 then [] else Lib.decDigits u) ++ s ∧ s.length + u ≤ n ∧ m = u) n ⟨n, [], rfl, rfl, rfl, by rw [if_neg (by omega)]; simp, by simp, rfl⟩ ?_
  rintro m _ _ _ ⟨u, s, rfl, rfl, rfl, he, hs, hm⟩
  refine Stp.go ?_
  refine i_c (fun h => ?_) (fun h => ?_)
  rotate_left
  · have hu : u = 0 := by omega
    refine g_cat (by simp; omega) ?_
    rw [if_pos hu, List.nil_append] at he
    refine ⟨?_, rfl⟩
    rw [anchorN, Lib.itoa, if_neg (by omega), Int.toNat_natCast, he]
    rfl
  have hu : 0 < u := by omega
  refine g_rem (by decide) ?_
  have hr : ((u : Int)).tmod 10 = ((u % 10 : Nat) : Int) := by rw [Int.tmod_eq_emod_of_nonneg (by omega)]; omega
  have hq : ((u : Int)).tdiv 10 = ((u / 10 : Nat) : Int) := by rw [Int.tdiv_eq_ediv_of_nonneg (by omega)]; omega
  rw [hr]
  obtain ⟨d1, d2⟩ := rune_digit (u % 10) (by omega)
  refine g_add64 (by omega) ?_
  refine g_cv ?_
  rw [d2]
  refine s_rune ?_
  rw [d1]
  refine g_cat (by simp; omega) ?_
  refine g_quo (by decide) ?_
  rw [hq, wrap_small (by omega)]
  refine ⟨u / 10, by omega, u / 10, _, rfl, rfl, rfl, ?_, by simp only [List.length_append, List.length_cons, List.length_nil]; omega, rfl⟩
  rw [he, if_neg (by omega)]
  by_cases h10 : u < 10
  · rw [if_pos (by omega), Lib.decDigits, dif_pos h10, List.nil_append, show u % 10 = u by omega]
  · rw [if_neg (by omega)]
    conv => lhs; rw [Lib.decDigits, dif_neg h10]
    rw [List.append_assoc]

/-! ### Maps and how many keys they have -/
def MapL {κ : Type} (K : KeyK) (enc : κ → AV) (f : κ → Option AV) (H : AH) (b n : Nat) : Prop := b < H.obs.length ∧ ∃ es clk, H.get b = .map es clk ∧ MapIs K enc f es clk ∧ es.length = n
section
variable {κ : Type} {K : KeyK} {enc : κ → AV} {f : κ → Option AV}
theorem MapL.at {H : AH} {b n : Nat} (h : MapL K enc f H b n) : MapAt K enc f H b := by
  obtain ⟨h1, es, clk, h2, h3, _⟩ := h
  exact ⟨h1, es, clk, h2, h3⟩
theorem MapL.grow {H H' : AH} {b n : Nat} (h : MapL K enc f H b n) (g : Grow H H') : MapL K enc f H' b n := by
  obtain ⟨h1, es, clk, h2, h3, h4⟩ := h
  exact ⟨Nat.lt_of_lt_of_le h1 g.len, es, clk, by rw [g.get h1]; exact h2, h3, h4⟩
theorem MapL.put {H : AH} {b c n : Nat} {o : AObj} (h : MapL K enc f H b n) (hc : c < H.obs.length) (hne : b ≠ c) : MapL K enc f (H.put c o) b n := by
  obtain ⟨h1, es, clk, h2, h3, h4⟩ := h
  exact ⟨by rw [put_len]; exact h1, es, clk, by rw [put_get hc, if_neg hne]; exact h2, h3, h4⟩
theorem MapL.new (K : KeyK) (enc : κ → AV) (H : AH) : MapL K enc (fun _ => none) (H.push (.map [] 0)) H.obs.length 0 := ⟨by rw [push_len]; omega, [], 0, push_get _ _, .empty K enc, rfl⟩
theorem g_lenM {H : AH} {b n : Nat} {k : AV → Prop} (h : MapL K enc f H b n) (hk : k (.int .i64 n)) : gP (aLen .map (.map b) H) k := by
  obtain ⟨_, es, clk, h2, _, rfl⟩ := h
  exact g_mlen h2 hk
theorem s_updL [DecidableEq κ] {H : AH} {b n : Nat} {x : κ} {v : AV} {k : AV → AH → Prop} (hm : MapL K enc f H b n) (hK : Keyed K enc) (hv : v.def? = true)
    (h : ∀ o, MapL K enc (setK f x v) (H.put b o) b (if (f x).isSome = true then n else n + 1) → k .undef (H.put b o)) : sP (aop [] (.mapUpd K (.cst (.map b)) (.cst (enc x)) (.cst v)) H) k := by
  obtain ⟨h1, es, clk, h2, h3, h4⟩ := hm
  rcases h3.upd hK x v with ⟨i, y, a1, a2, a3, _⟩ | ⟨a1, a2, a3⟩
  · refine sP_i ?_ (h (.map (es.modify i fun e => (enc x, v, e.2.2)) clk) ⟨by rw [put_len]; exact h1, _, _, by rw [put_get h1, if_pos rfl], a3, by rw [a2]; simp [h4]⟩)
    simp only [aop, Opd.ev, h2, hK.key, hv, Bool.and_self, if_true, a1, Option.map_some, AH.put]
  · refine sP_i ?_ (h (.map (es ++ [(enc x, v, clk)]) (clk + 1)) ⟨by rw [put_len]; exact h1, _, _, by rw [put_get h1, if_pos rfl], a3, by rw [a2]; simp [h4]⟩)
    simp only [aop, Opd.ev, h2, hK.key, hv, Bool.and_self, if_true, a1, Option.map_some, AH.put]
end

abbrev Nm := List UInt8
def onesT (l : List Nm) : Nm → Option AV := fun k => if k ∈ l then some (.int .i64 1) else none
def cntA (l : List Nm) : Nm → Option AV := fun k => if k ∈ l then some (.int .i64 (l.count k : Nat)) else none

theorem onesT_snoc (l : List Nm) (k : Nm) : setK (onesT l) k (.int .i64 1) = onesT (l ++ [k]) := by
  funext x
  simp only [setK, onesT, List.mem_append, List.mem_singleton]
  by_cases h : x = k
  · simp [h]
  · simp [h]
theorem cntA_snoc (l : List Nm) (k : Nm) : setK (cntA l) k (.int .i64 ((l.count k : Nat) + 1)) = cntA (l ++ [k]) := by
  funext x
  simp only [setK, cntA, List.mem_append, List.mem_singleton]
  by_cases h : x = k
  · subst h; simp
  · simp only [if_neg h, or_false, h]
    have : (l ++ [k]).count x = l.count x := by rw [List.count_append, List.count_cons, if_neg (by simpa using fun e => h e.symm)]; simp
    rw [this, if_neg (by simp)]


/-- How far the look at anchors went. -/
structure Ai (H0 : AH) (b1 b2 : Nat) (l : List Ev) (i : Nat) (H : AH) (Tl Al Kl : List Nm) : Prop where
  g : Grow H0 H
  told : MapL (.scal .str) AV.str (onesT Tl) H b1 Tl.length
  ask : MapL (.scal .str) AV.str (cntA Al) H b2 Kl.length
  nd : Kl.Nodup
  mem : ∀ x, x ∈ Kl ↔ x ∈ Al
  anc : anc l [] [] = anc (l.drop i) Tl Al
  lt : Tl.length ≤ i
  la : Al.length ≤ i

theorem onesT_in {l : List Nm} {k : Nm} {z : AV} (h : k ∈ l) : (onesT l k).getD z = .int .i64 1 := by simp [onesT, h]
theorem onesT_out {l : List Nm} {k : Nm} {z : AV} (h : k ∉ l) : (onesT l k).getD z = z := by simp [onesT, h]
theorem cntA_get {l : List Nm} {k : Nm} : (cntA l k).getD (.int .i64 0) = .int .i64 (l.count k : Nat) := by
  unfold cntA
  by_cases h : k ∈ l
  · rw [if_pos h]; rfl
  · rw [if_neg h, List.count_eq_zero.2 h]; rfl

theorem events_one' {g : List Nd} : (eventsG [g] = ([], 5)) ∨ (eventsG [g] = ([], 13)) ∨ (rightG g = true ∧ eventsG [g] = (docE g, 0)) := by
  unfold eventsG
  by_cases h1 : [g].all rightG = true
  · rw [if_pos h1]
    by_cases h2 : [g].any (fun g => decide (40 < (tellG g).most)) = true
    · rw [if_pos h2]; exact .inr (.inl rfl)
    · rw [if_neg h2]
      refine .inr (.inr ⟨by simpa using h1, by simp⟩)
  · rw [if_neg h1]; exact .inl rfl

theorem tell_out' {g : List Nd} (hr : rightG g = true) (hg : OkG g) : (docE g).length < 2 ^ 32 := by
  obtain ⟨hgl, _⟩ := rightG_kids hr
  have hol := order_len g
  have hop := order_pos hr
  have hnl : (normal g).length ≤ 2000 := by rw [normal_len]; omega
  have hnp : 0 < (normal g).length := by rw [normal_len]; exact hop
  have tl := told_of (names := namesG (normal g)) (normal_kids hr) (fun n hn => ((normal_ok2 hg).2 n hn).1) ((normal g).length + 1) ⟨[], 0, 0, 0⟩ 0 (by simp only [hasG, decide_eq_true_eq]; omega) (Nat.zero_le _) (Nat.le_refl _) (Nat.zero_le _)
  have := tl.out
  simp only [List.length_nil] at this
  simp only [docE, tellG, List.length_cons, List.length_append, List.length_nil]
  omega

/-- The law: anchors are told once each, numbered as they come, and asked for. -/
theorem lawAnchors (hT : Has T) (hK : Knows T) {v : AV} {g : List Nd} (hv : IsG v g) (hl : g.length < 2 ^ 63) (H : AH) (hp : 0 < H.toks.length) :
    ∃ H', Den.of T 3 [v] H = some (.bool true, H') ∧ Grow H H' := by
  refine gr_of (w3_ok hT ?_)
  unfold w3
  refine c_gr (alive_ok hT hK H hp) fun H1 g1 => ?_
  refine gP_i rfl ?_
  refine i_F rfl ?_
  refine c_gb g1 (heavy_ok hT hv hl H1) fun H2 g2 => ?_
  refine i_i (fun hh => ?_) (fun hh => ?_)
  · exact ⟨rfl, g2⟩
  obtain ⟨hg, hgl, hsm⟩ := light hh
  refine c_i (theirs_ok hT hv hg.mem H2 (g2.pos hp)) ?_
  rintro v2 H3 ⟨hv2, g3'⟩
  have g3 := g2.trans g3'
  refine s_lit (by have := hv2.def; have := hv2.cells; have := hv2.cell; simp [elemsOk, *]) ?_
  refine c_i (events_ok hT hK (rowG11 0 hv2) (by simp) (fun g' hg' => by simp only [List.mem_singleton] at hg'; rw [hg']; exact hg) H3 (g3.pos hp)) ?_
  rintro _ H5 ⟨⟨ov, rfl, hov⟩, g5'⟩
  have g5 := g3.trans g5'
  refine Stp.go ?_
  refine Stp.go ?_
  refine Stp.go ?_
  refine Stp.go ?_
  refine i_c (fun h => ?_) (fun h => ?_)
  rotate_left
  · have he : (eventsG [g]).1 = [] := by
      rcases events_one' (g := g) with e | e | ⟨_, e⟩
      · rw [e]
      · rw [e]
      · rw [e] at h; exact absurd rfl h
    rw [he] at hov
    refine g_lenW hov ?_
    refine Stp.go ?_
    exact ⟨rfl, g5⟩
  obtain ⟨hr, he⟩ : rightG g = true ∧ eventsG [g] = (docE g, 0) := by
    rcases events_one' (g := g) with e | e | e
    · rw [e] at h; exact absurd h (by decide)
    · rw [e] at h; exact absurd h (by decide)
    · exact e
  replace hov : RowOf 5 IsEv ov (docE g) := by rw [he] at hov; exact hov
  have hdl := tell_out' hr hg
  obtain ⟨T0, A0, hanc, hend⟩ := doc_anc hr
  generalize docE g = l at *
  refine s_map ?_
  have m1 := MapL.new (.scal .str) AV.str H5
  have g6 := g5.trans (.push H5 (.map [] 0))
  have lb1 := g5.len
  generalize hb1 : H5.obs.length = b1 at *
  generalize H5.push (.map [] 0) = H6 at *
  refine s_map ?_
  have m2 := MapL.new (.scal .str) AV.str H6
  have lt1 := m1.1
  replace m1 := m1.grow (.push H6 (.map [] 0))
  have g7 := g6.trans (.push H6 (.map [] 0))
  have lb2 := g6.len
  generalize hb2 : H6.obs.length = b2 at *
  generalize H6.push (.map [] 0) = H7 at *
  refine g_lenW hov ?_
  refine l1 (fun m x H' => ∃ (i : Nat) (Tl Al Kl : List Nm), x = .int .i64 i ∧ i ≤ l.length ∧ Ai H b1 b2 l i H' Tl Al Kl ∧ m = l.length - i) l.length
    ⟨0, [], [], [], rfl, Nat.zero_le _, ⟨g7, m1, m2, by simp, by simp, rfl, Nat.le_refl _, Nat.le_refl _⟩, rfl⟩ ?_
  rintro m _ H8 ⟨i, Tl, Al, Kl, rfl, hi, ai, hm⟩
  refine Stp.go ?_
  refine i_c (fun hlt => ?_) (fun hlt => ?_)
  rotate_left
  · have hn := ai.anc
    rw [List.drop_eq_nil_of_le (by omega), hanc, anc] at hn
    obtain ⟨rfl, rfl⟩ : T0 = Tl ∧ A0 = Al := by simpa using hn
    have hk := hend Kl ai.nd ai.mem
    refine g_lenM ai.ask ?_
    refine g_lenM ai.told ?_
    refine Stp.go ?_
    exact ⟨by rw [hk]; simp, ai.g⟩
  have hlt : i < l.length := by omega
  have hn := ai.anc
  have hgt := List.getElem?_eq_getElem hlt
  rw [List.drop_eq_getElem_cons hlt, hanc] at hn
  generalize l[i] = e at *
  refine j0 (fun H' => ∃ Tl Al Kl, Ai H b1 b2 l (i + 1) H' Tl Al Kl) ?_ ?_
  · rintro H9 ⟨Tl', Al', Kl', ai'⟩
    refine g_add64 (by omega) ?_
    exact ⟨l.length - (i + 1), by omega, i + 1, Tl', Al', Kl', by congr 1, by omega, ai', rfl⟩
  intro j hj
  refine g_atn hov hgt fun x hx => ?_
  cases hx
  refine g_ldv5 ?_
  refine a_i ?_
  refine h_top (c' := (encE e).cells) rfl rfl rfl (by simp) rfl ?_
  have c8 := Holds.push H8 (encE e).cells
  have e8 := Grow.push H8 (.cells (encE e).cells)
  have q1 := ai.told.1
  have q2 := ai.ask.1
  have t8 := ai.told.grow e8
  have a8 := ai.ask.grow e8
  have g8 := ai.g.trans e8
  generalize hb8 : H8.obs.length = b8 at *
  generalize H8.push (.cells (encE e).cells) = H10 at *
  refine Stp.go ?_
  refine g_h1 c8 rfl ?_
  refine Stp.go ?_
  refine i_c (fun h1 => ?_) (fun h1 => ?_)
  · rw [anc, if_pos h1] at hn
    exact hj _ ⟨Tl, Al, Kl, g8, t8, a8, ai.nd, ai.mem, hanc.trans hn, by have := ai.lt; omega, by have := ai.la; omega⟩
  rw [anc, if_neg h1] at hn
  refine Stp.go ?_
  refine g_h1 c8 rfl ?_
  refine Stp.go ?_
  refine i_c (fun h2 => ?_) (fun h2 => ?_)
  · rw [if_pos h2] at hn
    by_cases h3 : e.anchor ∈ Tl
    rotate_left
    · rw [if_neg h3] at hn; simp at hn
    rw [if_pos h3] at hn
    refine Stp.go ?_
    refine g_h1 c8 rfl ?_
    refine g_look t8.at keyS ?_
    rw [onesT_in h3]
    refine Stp.go ?_
    refine i_F rfl ?_
    refine Stp.go ?_
    refine g_h1 c8 rfl ?_
    refine g_look a8.at keyS ?_
    rw [cntA_get]
    have hcl := List.count_le_length (a := e.anchor) (l := Al)
    have hla := ai.la
    refine g_add64 (by omega) ?_
    refine s_updL a8 keyS rfl fun o mo => ?_
    rw [cntA_snoc] at mo
    have hs : (cntA Al e.anchor).isSome = decide (e.anchor ∈ Al) := by
      unfold cntA
      by_cases h : e.anchor ∈ Al
      · simp [h]
      · simp [h]
    rw [hs] at mo
    refine hj _ ⟨Tl, Al ++ [e.anchor], if e.anchor ∈ Al then Kl else Kl ++ [e.anchor], g8.put lb2, t8.put a8.1 (by omega), ?_, ?_, ?_, hanc.trans hn, by have := ai.lt; omega, by simp; omega⟩
    · by_cases h : e.anchor ∈ Al
      · simpa [h] using mo
      · simpa [h] using mo
    · by_cases h : e.anchor ∈ Al
      · rw [if_pos h]; exact ai.nd
      · rw [if_neg h, List.nodup_append]
        refine ⟨ai.nd, by simp, fun a ha b hb => ?_⟩
        simp only [List.mem_singleton] at hb
        subst hb
        exact fun e' => h ((ai.mem _).1 (e' ▸ ha))
    · intro x
      by_cases h : e.anchor ∈ Al
      · rw [if_pos h, ai.mem x, List.mem_append, List.mem_singleton]
        exact ⟨.inl, fun h' => h'.elim id fun e' => e' ▸ h⟩
      · rw [if_neg h, List.mem_append, List.mem_append, ai.mem x]
  · rw [if_neg h2] at hn
    by_cases h3 : e.anchor ∈ Tl
    · rw [if_pos h3] at hn; simp at hn
    rw [if_neg h3] at hn
    by_cases h4 : e.anchor = anchorN (Tl.length + 1)
    rotate_left
    · rw [if_neg h4] at hn; simp at hn
    rw [if_pos h4] at hn
    refine Stp.go ?_
    refine g_h1 c8 rfl ?_
    refine g_look t8.at keyS ?_
    rw [onesT_out h3]
    refine g_add64 (by omega) ?_
    refine s_updL t8 keyS rfl fun o mo => ?_
    have hs : (onesT Tl e.anchor).isSome = false := by simp [onesT, h3]
    have e1 : (AV.int .i64 (0 + 1) : AV) = .int .i64 1 := rfl
    rw [e1, onesT_snoc, hs] at mo
    replace a8 := a8.put (o := o) t8.1 (by omega)
    have c9 := put_holds (o := o) c8 t8.1 (by omega)
    have g9 := g8.put (o := o) lb1
    have hml : (if false = true then Tl.length else Tl.length + 1) = (Tl ++ [e.anchor]).length := by simp
    rw [hml] at mo
    generalize H10.put b1 o = H13 at *
    refine j1 (fun x H' => x = .bool false ∧ H13 = H') ?_ ?_
    · rintro _ _ ⟨rfl, rfl⟩
      refine i_F rfl ?_
      exact hj _ ⟨Tl ++ [e.anchor], Al, Kl, g9, mo, a8, ai.nd, ai.mem, hanc.trans hn, by have := ai.lt; simp; omega, by have := ai.la; omega⟩
    · intro j3 hj3
      refine Stp.go ?_
      refine g_h1 c9 rfl ?_
      refine g_look mo.at keyS ?_
      rw [onesT_in (by simp)]
      refine Stp.go ?_
      refine d_f ?_
      refine i_cF (by decide) ?_
      refine Stp.go ?_
      refine g_h1 c9 rfl ?_
      refine g_lenM mo ?_
      have hlt := ai.lt
      refine c_eq (name_ok hT (by simp) (by simp; omega) H13) ?_
      refine Stp.go ?_
      refine ⟨same_rfl, hj3 _ _ ⟨?_, rfl⟩⟩
      rw [h4]
      simp

end Go.SV
