/- Contracts: the document's words for quotes, small ones. Own text of the prover; nothing is assumed. -/
import Derived.Test.YtaimiohndbajjaaGreatDoorRd
import Derived.Test.YtaimiohndbajjaaGreatDoorPw
set_option maxRecDepth 100000
namespace Go.SV

variable {T : Nat → Option Entry}

theorem may_iff (r : Int) : may r = true ↔ (r = 9 ∨ r = 10 ∨ r = 13 ∨ r = 133) ∨ (¬ (r = 65279 ∨ r = 65534 ∨ r = 65535) ∧ ((32 ≤ r ∧ r < 127) ∨ (160 ≤ r ∧ vRune r = true))) := by
  unfold may
  by_cases h1 : r = 9 ∨ r = 10 ∨ r = 13 ∨ r = 133
  · rw [if_pos h1]; exact ⟨fun _ => .inl h1, fun _ => rfl⟩
  rw [if_neg h1]
  by_cases h2 : r = 65279 ∨ r = 65534 ∨ r = 65535
  · rw [if_pos h2]
    constructor
    · intro e; cases e
    · rintro (e | e)
      · exact absurd e h1
      · exact absurd h2 e.1
  rw [if_neg h2, Bool.or_eq_true, decide_eq_true_iff, Bool.and_eq_true, decide_eq_true_iff]
  constructor
  · intro e; exact .inr ⟨h2, e⟩
  · rintro (e | e)
    · exact absurd e h1
    · exact e.2

theorem rmay_ok (hT : Has T) (r : Int) (H : AH) : Den.of T 24 [.int .i64 r] H = some (.bool (may r), H) := by
  refine eq_of (w24_ok hT ?_)
  unfold w24
  have fin : ∀ b : Bool, (b = true ↔ may r = true) → AV.bool b = .bool (may r) := by
    intro b hb
    congr 1
    rw [Bool.eq_iff_iff, hb]
  refine j1 (fun x H' => x = .bool (decide (r = 9 ∨ r = 10 ∨ r = 13 ∨ (32 ≤ r ∧ r ≤ 126) ∨ r = 133)) ∧ H = H') ?_ ?_
  rotate_left
  · intro j hj
    refine Stp.go ?_
    refine d_f ?_
    refine i_c (fun h => hj _ _ ⟨by rw [decide_eq_true (.inl h)], rfl⟩) (fun h1 => ?_)
    refine Stp.go ?_
    refine d_f ?_
    refine i_c (fun h => hj _ _ ⟨by rw [decide_eq_true (.inr (.inl h))], rfl⟩) (fun h2 => ?_)
    refine Stp.go ?_
    refine d_f ?_
    refine i_c (fun h => hj _ _ ⟨by rw [decide_eq_true (.inr (.inr (.inl h)))], rfl⟩) (fun h3 => ?_)
    refine Stp.go ?_
    refine d_t ?_
    refine i_c (fun h4 => ?_) (fun h4 => ?_)
    · refine Stp.go ?_
      refine d_f ?_
      refine i_c (fun h => hj _ _ ⟨by rw [decide_eq_true (.inr (.inr (.inr (.inl ⟨h4, h⟩))))], rfl⟩) (fun h5 => ?_)
      refine Stp.go ?_
      refine hj _ _ ⟨?_, rfl⟩
      congr 1
      rw [Bool.eq_iff_iff, beq_iff_eq, decide_eq_true_iff]
      omega
    · refine d_f ?_
      refine i_F rfl ?_
      refine Stp.go ?_
      refine hj _ _ ⟨?_, rfl⟩
      congr 1
      rw [Bool.eq_iff_iff, beq_iff_eq, decide_eq_true_iff]
      omega
  rintro _ _ ⟨rfl, rfl⟩
  refine i_c (fun h => ?_) (fun h => ?_)
  · refine ⟨fin _ ⟨fun _ => ?_, fun _ => rfl⟩, rfl⟩
    rw [may_iff]
    omega
  refine c_eq (rchar_ok hT r H) ?_
  refine d_t ?_
  refine i_i (fun hv => ?_) (fun hv => ?_)
  rotate_left
  · refine ⟨fin _ ⟨fun e => (by cases e), fun e => ?_⟩, rfl⟩
    rw [may_iff, hv] at e
    simp only [Bool.false_eq_true, and_false, or_false] at e
    omega
  have hm : may r = true ↔ 160 ≤ r ∧ r ≠ 65279 ∧ r ≠ 65534 ∧ r ≠ 65535 := by
    rw [may_iff, hv]
    simp only [and_true]
    omega
  refine Stp.go ?_
  refine d_t ?_
  refine i_c (fun h1 => ?_) (fun h1 => ?_)
  rotate_left
  · exact ⟨fin _ ⟨fun e => (by cases e), fun e => by rw [hm] at e; omega⟩, rfl⟩
  refine Stp.go ?_
  refine d_t ?_
  refine i_not ?_
  refine i_c (fun h2 => ⟨fin _ ⟨fun e => (by cases e), fun e => by rw [hm] at e; omega⟩, rfl⟩) (fun h2 => ?_)
  refine Stp.go ?_
  refine d_t ?_
  refine i_not ?_
  refine i_c (fun h3 => ⟨fin _ ⟨fun e => (by cases e), fun e => by rw [hm] at e; omega⟩, rfl⟩) (fun h3 => ?_)
  refine Stp.go ?_
  refine ⟨fin _ ?_, rfl⟩
  rw [hm]
  simp only [Bool.not_eq_true', beq_eq_false_iff_ne]
  omega

/-! ### Rows -/
theorem g_quoN {a b : Nat} {k : AV → Prop} (hb : 0 < b) (ha : a < 2 ^ 62) (h : k (.int .i64 ((a / b : Nat) : Int))) : gP (aBin .quo (.int .i64 (a : Int)) (.int .i64 (b : Int))) k := by
  refine g_quo (by omega) ?_
  have e : ((a : Int).tdiv (b : Int)) = ((a / b : Nat) : Int) := by
    rw [Int.tdiv_eq_ediv_of_nonneg (by omega)]; norm_cast
  have hl : a / b ≤ a := Nat.div_le_self a b
  rw [e]
  generalize a / b = q at *
  rw [wrap_small (by omega)]
  exact h
theorem g_remN {a b : Nat} {k : AV → Prop} (hb : 0 < b) (h : k (.int .i64 ((a % b : Nat) : Int))) : gP (aBin .rem (.int .i64 (a : Int)) (.int .i64 (b : Int))) k := by
  refine g_rem (by omega) ?_
  have e : ((a : Int).tmod (b : Int)) = ((a % b : Nat) : Int) := by
    rw [Int.tmod_eq_emod_of_nonneg (by omega)]; norm_cast
  rw [e]
  exact h
theorem g_addN {a b : Nat} {k : AV → Prop} (hb : a + b < 2 ^ 63) (h : k (.int .i64 ((a + b : Nat) : Int))) : gP (aBin .add (.int .i64 (a : Int)) (.int .i64 (b : Int))) k := by
  refine g_add64 (by omega) ?_
  have e : (a : Int) + (b : Int) = ((a + b : Nat) : Int) := by norm_cast
  rw [e]; exact h
theorem g_cv8N {κ : IntKind} {n : Nat} {k : AV → Prop} (hn : n < 256) (h : k (.int .u8 (n : Int))) : gP (aCv .u8 (.int κ (n : Int))) k := by
  refine g_cv ?_
  rw [IntKind.wrap_u8, show ((n : Int) % 256) = n by omega]
  exact h

/-! ### Bytes of a character -/
theorem rbytes2_ok (hT : Has T) {r : Int} (hr : vRune r = true) (H : AH) : ∃ v H', Den.of T 47 [.int .i64 r] H = some (v, H') ∧ (v = .sl 0 1 ((Lib.encodeRune r).map u8v)) ∧ H = H' := by
  simp only [vRune, decide_eq_true_eq] at hr
  obtain ⟨u, rfl⟩ : ∃ u : Nat, r = u := ⟨r.toNat, by omega⟩
  refine w47_ok hT ?_
  unfold w47
  rw [← encZ]
  refine Stp.go ?_
  refine i_c (fun h => ?_) (fun h => ?_)
  · refine g_cv8N (by omega) ?_
    refine s_lit rfl ?_
    refine ⟨?_, rfl⟩
    rw [Lib.encodeRuneZ_one (by omega) (by omega)]; rfl
  refine Stp.go ?_
  refine i_c (fun h2 => ?_) (fun h2 => ?_)
  · refine g_quoN (b := 64) (by decide) (by omega) ?_
    refine g_addN (a := 192) (by omega) ?_
    refine g_cv8N (by omega) ?_
    refine g_remN (b := 64) (by decide) ?_
    refine g_addN (a := 128) (by omega) ?_
    refine g_cv8N (by omega) ?_
    refine s_lit rfl ?_
    refine ⟨?_, rfl⟩
    rw [Lib.encodeRuneZ_two (by omega) (by omega)]
    simp only [List.map_cons, List.map_nil]
    congr 3
    all_goals (first | (congr 1; omega) | (congr 2; omega))
  refine Stp.go ?_
  refine i_c (fun h3 => ?_) (fun h3 => ?_)
  · refine g_quoN (b := 4096) (by decide) (by omega) ?_
    refine g_addN (a := 224) (by omega) ?_
    refine g_cv8N (by omega) ?_
    refine g_quoN (b := 64) (by decide) (by omega) ?_
    refine g_remN (b := 64) (by decide) ?_
    refine g_addN (a := 128) (by omega) ?_
    refine g_cv8N (by omega) ?_
    refine g_remN (b := 64) (by decide) ?_
    refine g_addN (a := 128) (by omega) ?_
    refine g_cv8N (by omega) ?_
    refine s_lit rfl ?_
    refine ⟨?_, rfl⟩
    rw [Lib.encodeRuneZ_three (by omega)]
    have e1 : ((224 + u / 4096 : Nat) : Int) = 224 + (u : Int) / 4096 := by omega
    have e2 : ((128 + u / 64 % 64 : Nat) : Int) = 128 + (u : Int) / 64 % 64 := by omega
    have e3 : ((128 + u % 64 : Nat) : Int) = 128 + (u : Int) % 64 := by omega
    rw [e1, e2, e3]; rfl
  · refine g_quoN (b := 262144) (by decide) (by omega) ?_
    refine g_addN (a := 240) (by omega) ?_
    refine g_cv8N (by omega) ?_
    refine g_quoN (b := 4096) (by decide) (by omega) ?_
    refine g_remN (b := 64) (by decide) ?_
    refine g_addN (a := 128) (by omega) ?_
    refine g_cv8N (by omega) ?_
    refine g_quoN (b := 64) (by decide) (by omega) ?_
    refine g_remN (b := 64) (by decide) ?_
    refine g_addN (a := 128) (by omega) ?_
    refine g_cv8N (by omega) ?_
    refine g_remN (b := 64) (by decide) ?_
    refine g_addN (a := 128) (by omega) ?_
    refine g_cv8N (by omega) ?_
    refine s_lit rfl ?_
    refine ⟨?_, rfl⟩
    rw [Lib.encodeRuneZ_four (by omega) (by omega)]
    have e0 : ((240 + u / 262144 : Nat) : Int) = 240 + (u : Int) / 262144 := by omega
    have e1 : ((128 + u / 4096 % 64 : Nat) : Int) = 128 + (u : Int) / 4096 % 64 := by omega
    have e2 : ((128 + u / 64 % 64 : Nat) : Int) = 128 + (u : Int) / 64 % 64 := by omega
    have e3 : ((128 + u % 64 : Nat) : Int) = 128 + (u : Int) % 64 := by omega
    rw [e0, e1, e2, e3]; rfl

theorem s_cvU {H0 H : AH} {v : AV} {l : List UInt8} {k : AV → AH → Prop} (h : TokU H0 H v l) (hk : k (.str l) H) : sP (aop [] (.cvStr (.cst v)) H) k := by
  rcases h with ⟨rfl, rfl⟩ | ⟨t, rfl, _, _, _⟩
  · exact sP_i (by simp [aop, Opd.ev, elems]) hk
  · refine sP_i (v := .str l) (H := H) ?_ hk
    have he : elems 1 (.sl t 1 (l.map u8v)) H = some (l.map u8v) := by simp [elems]
    have hb := u8v_all l
    simp only [aop, Opd.ev, he]
    refine (if_pos hb).trans ?_
    congr 3
    rw [List.map_map]
    refine (List.map_congr_left fun b _ => ?_).trans (List.map_id l)
    simp [u8v]

/-- The text of characters. -/
theorem rtext_ok (hT : Has T) {v : AV} {l : List Int} (hv : RowOf 1 IsI v l) (hall : AllR l) (hl : l.length < 2 ^ 40) (H : AH) (hp : 0 < H.toks.length) :
    ∃ H', Den.of T 25 [v] H = some (.str (txt l), H') ∧ Grow H H' := by
  refine gr_of (w25_ok hT ?_)
  unfold w25
  refine l2 (fun m x y H' => ∃ (i : Nat) (acc : List UInt8), y = .int .i64 i ∧ i ≤ l.length ∧ TokU H H' x acc ∧ Grow H H' ∧ m = l.length - i ∧ acc.length ≤ 4 * i ∧ txt l = acc ++ txt (l.drop i)) l.length
    ⟨0, [], rfl, Nat.zero_le _, .inl ⟨rfl, rfl⟩, .refl _, rfl, Nat.le_refl _, rfl⟩ ?_
  rintro m x _ H1 ⟨i, acc, rfl, hi, ht, hg, hm, ha, he⟩
  refine g_lenW hv ?_
  refine Stp.go ?_
  refine i_c (fun h => ?_) (fun h => ?_)
  · have hlt : i < l.length := by omega
    have hc := hall _ (List.getElem_mem hlt)
    have hgi := List.getElem?_eq_getElem hlt
    rw [List.drop_eq_getElem_cons hlt] at he
    generalize l[i] = c at *
    refine g_atIn hv hgi ?_
    refine g_ldv ?_
    refine c_i (rbytes2_ok hT hc H1) ?_
    rintro _ _ ⟨rfl, rfl⟩
    have h4 := enc_len c
    refine s_appU ht hg hp rfl (enc_ne c) (by omega) fun v' H' t' g' _ => ?_
    refine g_add64 (by omega) ?_
    exact ⟨l.length - (i + 1), by omega, i + 1, _, by congr 1, by omega, t', g', rfl, by rw [List.length_append]; omega, by rw [he, txt_cons, List.append_assoc]⟩
  · refine s_cvU ht ?_
    rw [List.drop_eq_nil_of_le (by omega)] at he
    exact ⟨by rw [he]; simp [txt], hg⟩

/-! ### The table -/
def pairAV (p : Int × UInt8) : AV := .agg [.int .i64 p.1, .int .i64 p.2.toNat]
def tableL : List (Int × UInt8) := meant.zip lettersS
def IsP (x : AV) (p : Int × UInt8) : Prop := x = pairAV p
theorem rtable_ok (hT : Has T) (H : AH) : ∃ v H', Den.of T 57 [] H = some (v, H') ∧ RowOf 2 IsP v tableL ∧ H = H' := by
  refine w57_ok hT ?_
  unfold w57
  iterate 15 refine gP_i rfl ?_
  refine s_lit rfl ?_
  exact ⟨.inr ⟨0, _, rfl, F2.map pairAV (fun _ => rfl) tableL⟩, rfl⟩
theorem tableL_at {i : Nat} (h : i < 15) : ∃ m c, tableL[i]? = some (m, c) ∧ meant.drop i = m :: meant.drop (i + 1) ∧ lettersS.drop i = c :: lettersS.drop (i + 1) := by
  have h1 : i < meant.length := h
  have h2 : i < lettersS.length := h
  refine ⟨meant[i], lettersS[i], ?_, List.drop_eq_getElem_cons h1, List.drop_eq_getElem_cons h2⟩
  rw [tableL, List.getElem?_zip_eq_some]
  exact ⟨List.getElem?_eq_getElem h1, List.getElem?_eq_getElem h2⟩
theorem tableL_len : tableL.length = 15 := by decide
theorem g_tab {v : AV} {i : Nat} {p : Int × UInt8} {κ : IntKind} {k : AV → Prop} (hv : RowOf 2 IsP v tableL) (hp : tableL[i]? = some p) (hk : k (.vp [.int .i64 p.1, .int .i64 p.2.toNat])) : gP (aIdxAddr 2 v (.int κ (i : Int))) k :=
  g_at hv (by omega) (by rw [Int.toNat_natCast]; exact hp) fun x hx => by rw [hx]; exact hk
theorem g_fst {a b : AV} {k : AV → Prop} (hk : k (.vp [a, b])) : gP (aIdxAddrArr 2 1 (.vp [a, b]) (.int .i64 0)) k := gP_i rfl hk
theorem g_snd {a b : AV} {k : AV → Prop} (hk : k (.vp [b])) : gP (aIdxAddrArr 2 1 (.vp [a, b]) (.int .i64 1)) k := gP_i rfl hk

theorem rletter_ok (hT : Has T) (r : Int) (H : AH) : Den.of T 50 [.int .i64 r] H = some (.int .i64 (letterS r).toNat, H) := by
  refine eq_of (w50_ok hT ?_)
  unfold w50
  refine c_i (rtable_ok hT H) ?_
  rintro v _ ⟨hv, rfl⟩
  refine l1 (fun n x H' => ∃ i : Nat, x = .int .i64 i ∧ i ≤ 15 ∧ n = 15 - i ∧ H = H' ∧ letterS r = letterF r (meant.drop i) (lettersS.drop i)) 15 ⟨0, rfl, by decide, rfl, rfl, rfl⟩ ?_
  rintro n _ _ ⟨i, rfl, hi, hn, rfl, he⟩
  refine g_lenW hv ?_
  rw [tableL_len]
  refine Stp.go ?_
  refine i_c (fun h => ?_) (fun h => ?_)
  · obtain ⟨m, c, h1, h2, h3⟩ := tableL_at (i := i) (by omega)
    rw [h2, h3, letterF] at he
    refine g_tab hv h1 ?_
    refine g_fst ?_
    refine g_ldv ?_
    refine Stp.go ?_
    refine i_c (fun h4 => ?_) (fun h4 => ?_)
    · refine g_tab hv h1 ?_
      refine g_snd ?_
      refine g_ldv ?_
      exact ⟨by rw [he, if_pos h4], rfl⟩
    · rw [if_neg h4] at he
      refine g_add64 (by omega) ?_
      exact ⟨15 - (i + 1), by omega, i + 1, by congr 1, by omega, rfl, rfl, he⟩
  · have : i = 15 := by omega
    subst this
    exact ⟨by rw [he]; rfl, rfl⟩

theorem hex_cut : (List.range 16).all (fun m => (hexL.take (m + 1)).drop m == [hexD m]) = true := by decide
theorem rhex_ok (hT : Has T) (u many : Nat) (hu : u < 2 ^ 31) (hm : many ≤ 8) (H : AH) : Den.of T 51 [.int .i64 u, .int .i64 many] H = some (.str (hexS u many), H) := by
  refine eq_of (w51_ok hT ?_)
  unfold w51
  refine l3 (fun n a b c H' => ∃ i : Nat, a = .str (hexS u i) ∧ b = .int .i64 ((u / 16 ^ i : Nat) : Int) ∧ c = .int .i64 i ∧ i ≤ many ∧ n = many - i ∧ H = H') many ⟨0, rfl, by simp, rfl, Nat.zero_le _, rfl, rfl⟩ ?_
  rintro n _ _ _ _ ⟨i, rfl, rfl, rfl, hi, hn, rfl⟩
  refine Stp.go ?_
  refine i_c (fun h => ?_) (fun h => ?_)
  · have hlt : u / 16 ^ i < 2 ^ 31 := Nat.lt_of_le_of_lt (Nat.div_le_self _ _) hu
    have h16 : u / 16 ^ i % 16 < 16 := Nat.mod_lt _ (by decide)
    refine g_remN (b := 16) (by decide) ?_
    refine g_remN (b := 16) (by decide) ?_
    refine g_addN (b := 1) (by omega) ?_
    refine g_part (l := hexL) (by show _ ∧ _ ≤ ((16 : Nat) : Int) ∧ _; omega) ?_
    rw [Int.toNat_natCast, Int.toNat_natCast]
    have hc := List.all_eq_true.1 hex_cut _ (List.mem_range.2 h16)
    rw [beq_iff_eq] at hc
    rw [hc]
    have hl := hexS_len u i
    refine g_cat (by rw [hl]; simp; omega) ?_
    refine g_quoN (b := 16) (by decide) (by omega) ?_
    refine g_add64 (by omega) ?_
    refine ⟨many - (i + 1), by omega, i + 1, rfl, ?_, by congr 1, by omega, rfl, rfl⟩
    rw [Nat.div_div_eq_div_mul, ← Nat.pow_succ]
  · have : i = many := by omega
    subst this
    exact ⟨rfl, rfl⟩

theorem rescaped_ok (hT : Has T) {r : Int} (hr : vRune r = true) (H : AH) (hp : 0 < H.toks.length) : ∃ H', Den.of T 31 [.int .i64 r] H = some (.str (qc r), H') ∧ Grow H H' := by
  refine gr_of (w31_ok hT ?_)
  unfold w31
  obtain ⟨u, rfl⟩ := vr_nat hr
  refine c_eq (rletter_ok hT _ H) ?_
  refine g_neq ?_
  rw [u8ne]
  refine i_c (fun h => ?_) (fun h => ?_)
  · refine c_eq (rletter_ok hT _ H) ?_
    refine s_lit rfl ?_
    have hs := (letter_is h).2.2.2.1
    have hv : vRune ((letterS (u : Int)).toNat : Int) = true := by simp only [vRune, decide_eq_true_eq]; omega
    refine c_gr (rtext_ok hT (l := [((letterS (u : Int)).toNat : Int)]) (.inr ⟨0, _, rfl, F2.map (AV.int .i64) (fun _ => rfl) _⟩) (fun x hx => by simp at hx; rw [hx]; exact hv) (by simp) H hp) fun H1 g1 => ?_
    have e : txt [((letterS (u : Int)).toNat : Int)] = [letterS u] := by
      simp [txt, enc_asc _ hs]
    rw [e]
    refine g_cat (by simp) ?_
    exact ⟨by rw [qc, if_pos h]; rfl, g1⟩
  refine c_eq (rmay_ok hT _ H) ?_
  refine i_i (fun hm => ?_) (fun hm => ?_)
  · refine s_lit rfl ?_
    refine c_gr (rtext_ok hT (l := [(u : Int)]) (.inr ⟨0, _, rfl, F2.map (AV.int .i64) (fun _ => rfl) _⟩) (fun x hx => by simp at hx; rw [hx]; exact hr) (by simp) H hp) fun H1 g1 => ?_
    exact ⟨by rw [qc, if_neg h, if_pos hm]; simp [txt], g1⟩
  have hm' : ¬ may (u : Int) = true := by rw [hm]; decide
  have hu : u < 2 ^ 31 := by simp only [vRune, decide_eq_true_eq] at hr; omega
  refine Stp.go ?_
  refine i_c (fun h3 => ?_) (fun h3 => ?_)
  · refine c_eq (rhex_ok hT u 2 hu (by decide) H) ?_
    refine g_cat (by rw [hexS_len]; simp) ?_
    exact ⟨by rw [qc, if_neg h, if_neg hm', if_pos h3, Int.toNat_natCast]; rfl, .refl _⟩
  refine Stp.go ?_
  refine i_c (fun h4 => ?_) (fun h4 => ?_)
  · refine c_eq (rhex_ok hT u 4 hu (by decide) H) ?_
    refine g_cat (by rw [hexS_len]; simp) ?_
    exact ⟨by rw [qc, if_neg h, if_neg hm', if_neg h3, if_pos h4, Int.toNat_natCast]; rfl, .refl _⟩
  · refine c_eq (rhex_ok hT u 8 hu (by decide) H) ?_
    refine g_cat (by rw [hexS_len]; simp) ?_
    exact ⟨by rw [qc, if_neg h, if_neg hm', if_neg h3, if_neg h4, Int.toNat_natCast]; rfl, .refl _⟩

theorem rquote_ok (hT : Has T) (s : List UInt8) (hs : s.length < 2 ^ 39) (H : AH) (hp : 0 < H.toks.length) : ∃ H', Den.of T 9 [.str s] H = some (.str (quoteS s), H') ∧ Grow H H' := by
  refine gr_of (w9_ok hT ?_)
  unfold w9
  refine c_i (chars_all hT s hs H hp) ?_
  rintro _ H1 ⟨⟨row, rfl, hrow⟩, g1⟩
  refine g_ext0 ?_
  refine g_ext1 ?_
  refine Stp.go ?_
  refine i_not ?_
  refine i_i (fun hv => ?_) (fun hv => ?_)
  rotate_left
  · exact ⟨by rw [quoteS, hv]; rfl, g1⟩
  rw [if_pos hv] at hrow
  have hR := rl_all hv
  have hrl : (rl s).length ≤ s.length := by
    have := (txt_len (rl s)).1
    rw [txt_rl hv] at this
    exact this
  refine l2 (fun m x y H' => ∃ (i : Nat) (acc : List UInt8), x = .str acc ∧ y = .int .i64 i ∧ i ≤ (rl s).length ∧ Grow H H' ∧ m = (rl s).length - i ∧ acc.length ≤ 1 + 10 * i ∧ 34 :: (rl s).flatMap qc = acc ++ ((rl s).drop i).flatMap qc) (rl s).length ⟨0, [34], rfl, rfl, Nat.zero_le _, g1, rfl, by simp, rfl⟩ ?_
  rintro m _ _ H2 ⟨i, acc, rfl, rfl, hi, hg, hm, hal, he⟩
  refine g_lenW hrow ?_
  refine Stp.go ?_
  refine i_c (fun h => ?_) (fun h => ?_)
  · have hlt : i < (rl s).length := by omega
    have hc := hR _ (List.getElem_mem hlt)
    have hgi := List.getElem?_eq_getElem hlt
    rw [List.drop_eq_getElem_cons hlt, List.flatMap_cons] at he
    generalize (rl s)[i] = c at *
    refine g_atIn hrow hgi ?_
    refine g_ldv ?_
    refine c_gb hg (rescaped_ok hT hc H2 (hg.pos hp)) fun H3 g3 => ?_
    have hql := qc_len c
    refine g_cat (by omega) ?_
    refine g_add64 (by omega) ?_
    exact ⟨(rl s).length - (i + 1), by omega, i + 1, _, rfl, by congr 1, by omega, g3, rfl, by rw [List.length_append]; omega, by rw [he, List.append_assoc]⟩
  · rw [List.drop_eq_nil_of_le (by omega), List.flatMap_nil, List.append_nil] at he
    refine g_cat (by simp; omega) ?_
    refine ⟨?_, hg⟩
    rw [quoteS, if_pos hv, ← he]; rfl

end Go.SV
