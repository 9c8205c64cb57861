/- Contracts: the document's words for quotes, small ones. Own text of the prover; nothing is assumed. -/
import Derived.Test.YtaimiohndbajjaaGreatDoorRd
import Derived.Test.YtaimiohndbajjaaGreatDoorPw
set_option maxRecDepth 100000
namespace Go.SV

variable {T : Nat → Option Entry}

theorem may_iff (r : Int) : may r = true ↔ (r = 9 ∨ r = 10 ∨ r = 13 ∨ r = 133) ∨ (¬ (r = 65279 ∨ r = 65534 ∨ r = 65535) ∧ ((32 ≤ r ∧ r < 127) ∨ (160 ≤ r ∧ vRune r = true))) := by
  unfold may
  by_cases h1 : r = 9 ∨ r = 10 ∨ r = 13 ∨ r = 133
  · rw [if_pos h1]; exact ⟨fun _ => .inl h1, fun _ => rfl⟩
  rw [if_neg h1]
  by_cases h2 : r = 65279 ∨ r = 65534 ∨ r = 65535
  · rw [if_pos h2]
    constructor
    · intro e; cases e
    · rintro (e | e)
      · exact absurd e h1
      · exact absurd h2 e.1
  rw [if_neg h2, Bool.or_eq_true, decide_eq_true_iff, Bool.and_eq_true, decide_eq_true_iff]
  constructor
  · intro e; exact .inr ⟨h2, e⟩
  · rintro (e | e)
    · exact absurd e h1
    · exact e.2

theorem rmay_ok (hT : Has T) (r : Int) (H : AH) : Den.of T 24 [.int .i64 r] H = some (.bool (may r), H) := by
  refine eq_of (w24_ok hT ?_)
  unfold w24
  have fin : ∀ b : Bool, (b = true ↔ may r = true) → AV.bool b = .bool (may r) := by
    intro b hb
    congr 1
    rw [Bool.eq_iff_iff, hb]
  refine j1 (fun x H' => x = .bool (decide (r = 9 ∨ r = 10 ∨ r = 13 ∨ (32 ≤ r ∧ r ≤ 126) ∨ r = 133)) ∧ H = H') ?_ ?_
  rotate_left
  · intro j hj
    refine Stp.go ?_
    refine d_f ?_
    refine i_c (fun h => hj _ _ ⟨by rw [decide_eq_true (.inl h)], rfl⟩) (fun h1 => ?_)
    refine Stp.go ?_
    refine d_f ?_
    refine i_c (fun h => hj _ _ ⟨by rw [decide_eq_true (.inr (.inl h))], rfl⟩) (fun h2 => ?_)
    refine Stp.go ?_
    refine d_f ?_
    refine i_c (fun h => hj _ _ ⟨by rw [decide_eq_true (.inr (.inr (.inl h)))], rfl⟩) (fun h3 => ?_)
    refine Stp.go ?_
    refine d_t ?_
    refine i_c (fun h4 => ?_) (fun h4 => ?_)
    · refine Stp.go ?_
      refine d_f ?_
      refine i_c (fun h => hj _ _ ⟨by rw [decide_eq_true (.inr (.inr (.inr (.inl ⟨h4, h⟩))))], rfl⟩) (fun h5 => ?_)
      refine Stp.go ?_
      refine hj _ _ ⟨?_, rfl⟩
      congr 1
      rw [Bool.eq_iff_iff, beq_iff_eq, decide_eq_true_iff]
      omega
    · refine d_f ?_
      refine i_F rfl ?_
      refine Stp.go ?_
      refine hj _ _ ⟨?_, rfl⟩
      congr 1
      rw [Bool.eq_iff_iff, beq_iff_eq, decide_eq_true_iff]
      omega
  rintro _ _ ⟨rfl, rfl⟩
  refine i_c (fun h => ?_) (fun h => ?_)
  · refine ⟨fin _ ⟨fun _ => ?_, fun _ => rfl⟩, rfl⟩
    rw [may_iff]
    omega
  refine c_eq (rchar_ok hT r H) ?_
  refine d_t ?_
  refine i_i (fun hv => ?_) (fun hv => ?_)
  rotate_left
  · refine ⟨fin _ ⟨fun e => (by cases e), fun e => ?_⟩, rfl⟩
    rw [may_iff, hv] at e
    simp only [Bool.false_eq_true, and_false, or_false] at e
    omega
  have hm : may r = true ↔ 160 ≤ r ∧ r ≠ 65279 ∧ r ≠ 65534 ∧ r ≠ 65535 := by
    rw [may_iff, hv]
    simp only [and_true]
    omega
  refine Stp.go ?_
  refine d_t ?_
  refine i_c (fun h1 => ?_) (fun h1 => ?_)
  rotate_left
  · exact ⟨fin _ ⟨fun e => (by cases e), fun e => by rw [hm] at e; omega⟩, rfl⟩
  refine Stp.go ?_
  refine d_t ?_
  refine i_not ?_
  refine i_c (fun h2 => ⟨fin _ ⟨fun e => (by cases e), fun e => by rw [hm] at e; omega⟩, rfl⟩) (fun h2 => ?_)
  refine Stp.go ?_
  refine d_t ?_
  refine i_not ?_
  refine i_c (fun h3 => ⟨fin _ ⟨fun e => (by cases e), fun e => by rw [hm] at e; omega⟩, rfl⟩) (fun h3 => ?_)
  refine Stp.go ?_
  refine ⟨fin _ ?_, rfl⟩
  rw [hm]
  simp only [Bool.not_eq_true', beq_eq_false_iff_ne]
  omega

/-! ### Rows -/
theorem F2.takeN {α : Type} {R : AV → α → Prop} {xs : List AV} {l : List α} (h : F2 R xs l) (n : Nat) : F2 R (xs.take n) (l.take n) := by
  refine ⟨by rw [List.length_take, List.length_take, h.1], fun i x y hx hy => ?_⟩
  rw [List.getElem?_take] at hx hy
  split at hx
  · rename_i hi
    rw [if_pos hi] at hy
    exact h.2 i x y hx hy
  · cases hx
theorem g_slcN {α : Type} {R : AV → α → Prop} {v : AV} {l : List α} {κ : IntKind} {n : Nat} {k : AV → Prop} (h : RowOf 1 R v l) (hn : n ≤ l.length) (hk : ∀ w, RowOf 1 R w (l.drop n) → k w) : gP (aSlc 1 v (some (.int κ (n : Int))) none) k := by
  rcases h with ⟨rfl, rfl⟩ | ⟨t, xs, rfl, hf⟩
  · have h0 : n = 0 := by simpa using hn
    subst h0
    exact gP_i (v := .nils) (by simp [aSlc, aSlice]) (hk _ (.inl ⟨rfl, rfl⟩))
  · have hl := hf.1
    refine gP_i (v := .sl t 1 (xs.drop n)) ?_ (hk _ (.inr ⟨t, _, rfl, hf.dropN n⟩))
    have : (0 : Int) ≤ n ∧ (n : Int) ≤ xs.length := by omega
    simp only [aSlc, aSlice, if_true, if_pos this, Option.map_some, List.take_length, Int.toNat_natCast]
theorem g_slcM {α : Type} {R : AV → α → Prop} {v : AV} {l : List α} {κ κ' : IntKind} {i j : Nat} {k : AV → Prop} (h : RowOf 1 R v l) (hi : i ≤ j) (hj : j ≤ l.length) (hk : ∀ w, RowOf 1 R w ((l.take j).drop i) → k w) : gP (aSlc 1 v (some (.int κ (i : Int))) (some (.int κ' (j : Int)))) k := by
  rcases h with ⟨rfl, rfl⟩ | ⟨t, xs, rfl, hf⟩
  · have h0 : j = 0 := by simpa using hj
    subst h0
    have h1 : i = 0 := by omega
    subst h1
    exact gP_i (v := .nils) (by simp [aSlc, aSlice]) (hk _ (.inl ⟨rfl, rfl⟩))
  · have hl := hf.1
    refine gP_i (v := .sl t 1 ((xs.take j).drop i)) ?_ (hk _ (.inr ⟨t, _, rfl, (hf.takeN j).dropN i⟩))
    have : (0 : Int) ≤ j ∧ (j : Int) ≤ xs.length ∧ (0 : Int) ≤ i ∧ (i : Int) ≤ j := by omega
    simp only [aSlc, aSlice, if_true, if_pos this, Option.map_some, Int.toNat_natCast]
theorem g_quoN {a b : Nat} {k : AV → Prop} (hb : 0 < b) (ha : a < 2 ^ 62) (h : k (.int .i64 ((a / b : Nat) : Int))) : gP (aBin .quo (.int .i64 (a : Int)) (.int .i64 (b : Int))) k := by
  refine g_quo (by omega) ?_
  have e : ((a : Int).tdiv (b : Int)) = ((a / b : Nat) : Int) := by
    rw [Int.tdiv_eq_ediv_of_nonneg (by omega)]; norm_cast
  have hl : a / b ≤ a := Nat.div_le_self a b
  rw [e]
  generalize a / b = q at *
  rw [wrap_small (by omega)]
  exact h
theorem g_remN {a b : Nat} {k : AV → Prop} (hb : 0 < b) (h : k (.int .i64 ((a % b : Nat) : Int))) : gP (aBin .rem (.int .i64 (a : Int)) (.int .i64 (b : Int))) k := by
  refine g_rem (by omega) ?_
  have e : ((a : Int).tmod (b : Int)) = ((a % b : Nat) : Int) := by
    rw [Int.tmod_eq_emod_of_nonneg (by omega)]; norm_cast
  rw [e]
  exact h
theorem g_addN {a b : Nat} {k : AV → Prop} (hb : a + b < 2 ^ 63) (h : k (.int .i64 ((a + b : Nat) : Int))) : gP (aBin .add (.int .i64 (a : Int)) (.int .i64 (b : Int))) k := by
  refine g_add64 (by omega) ?_
  have e : (a : Int) + (b : Int) = ((a + b : Nat) : Int) := by norm_cast
  rw [e]; exact h
theorem g_cv8N {κ : IntKind} {n : Nat} {k : AV → Prop} (hn : n < 256) (h : k (.int .u8 (n : Int))) : gP (aCv .u8 (.int κ (n : Int))) k := by
  refine g_cv ?_
  rw [IntKind.wrap_u8, show ((n : Int) % 256) = n by omega]
  exact h

/-! ### Bytes of a character -/
theorem rbytes2_ok (hT : Has T) {r : Int} (hr : vRune r = true) (H : AH) : ∃ v H', Den.of T 47 [.int .i64 r] H = some (v, H') ∧ (v = .sl 0 1 ((Lib.encodeRune r).map u8v)) ∧ H = H' := by
  simp only [vRune, decide_eq_true_eq] at hr
  obtain ⟨u, rfl⟩ : ∃ u : Nat, r = u := ⟨r.toNat, by omega⟩
  refine w47_ok hT ?_
  unfold w47
  rw [← encZ]
  refine Stp.go ?_
  refine i_c (fun h => ?_) (fun h => ?_)
  · refine g_cv8N (by omega) ?_
    refine s_lit rfl ?_
    refine ⟨?_, rfl⟩
    rw [Lib.encodeRuneZ_one (by omega) (by omega)]; rfl
  refine Stp.go ?_
  refine i_c (fun h2 => ?_) (fun h2 => ?_)
  · refine g_quoN (b := 64) (by decide) (by omega) ?_
    refine g_addN (a := 192) (by omega) ?_
    refine g_cv8N (by omega) ?_
    refine g_remN (b := 64) (by decide) ?_
    refine g_addN (a := 128) (by omega) ?_
    refine g_cv8N (by omega) ?_
    refine s_lit rfl ?_
    refine ⟨?_, rfl⟩
    rw [Lib.encodeRuneZ_two (by omega) (by omega)]
    simp only [List.map_cons, List.map_nil]
    congr 3
    all_goals (first | (congr 1; omega) | (congr 2; omega))
  refine Stp.go ?_
  refine i_c (fun h3 => ?_) (fun h3 => ?_)
  · refine g_quoN (b := 4096) (by decide) (by omega) ?_
    refine g_addN (a := 224) (by omega) ?_
    refine g_cv8N (by omega) ?_
    refine g_quoN (b := 64) (by decide) (by omega) ?_
    refine g_remN (b := 64) (by decide) ?_
    refine g_addN (a := 128) (by omega) ?_
    refine g_cv8N (by omega) ?_
    refine g_remN (b := 64) (by decide) ?_
    refine g_addN (a := 128) (by omega) ?_
    refine g_cv8N (by omega) ?_
    refine s_lit rfl ?_
    refine ⟨?_, rfl⟩
    rw [Lib.encodeRuneZ_three (by omega)]
    have e1 : ((224 + u / 4096 : Nat) : Int) = 224 + (u : Int) / 4096 := by omega
    have e2 : ((128 + u / 64 % 64 : Nat) : Int) = 128 + (u : Int) / 64 % 64 := by omega
    have e3 : ((128 + u % 64 : Nat) : Int) = 128 + (u : Int) % 64 := by omega
    rw [e1, e2, e3]; rfl
  · refine g_quoN (b := 262144) (by decide) (by omega) ?_
    refine g_addN (a := 240) (by omega) ?_
    refine g_cv8N (by omega) ?_
    refine g_quoN (b := 4096) (by decide) (by omega) ?_
    refine g_remN (b := 64) (by decide) ?_
    refine g_addN (a := 128) (by omega) ?_
    refine g_cv8N (by omega) ?_
    refine g_quoN (b := 64) (by decide) (by omega) ?_
    refine g_remN (b := 64) (by decide) ?_
    refine g_addN (a := 128) (by omega) ?_
    refine g_cv8N (by omega) ?_
    refine g_remN (b := 64) (by decide) ?_
    refine g_addN (a := 128) (by omega) ?_
    refine g_cv8N (by omega) ?_
    refine s_lit rfl ?_
    refine ⟨?_, rfl⟩
    rw [Lib.encodeRuneZ_four (by omega) (by omega)]
    have e0 : ((240 + u / 262144 : Nat) : Int) = 240 + (u : Int) / 262144 := by omega
    have e1 : ((128 + u / 4096 % 64 : Nat) : Int) = 128 + (u : Int) / 4096 % 64 := by omega
    have e2 : ((128 + u / 64 % 64 : Nat) : Int) = 128 + (u : Int) / 64 % 64 := by omega
    have e3 : ((128 + u % 64 : Nat) : Int) = 128 + (u : Int) % 64 := by omega
    rw [e0, e1, e2, e3]; rfl

theorem s_cvU {H0 H : AH} {v : AV} {l : List UInt8} {k : AV → AH → Prop} (h : TokU H0 H v l) (hk : k (.str l) H) : sP (aop [] (.cvStr (.cst v)) H) k := by
  rcases h with ⟨rfl, rfl⟩ | ⟨t, rfl, _, _, _⟩
  · exact sP_i (by simp [aop, Opd.ev, elems]) hk
  · refine sP_i (v := .str l) (H := H) ?_ hk
    have he : elems 1 (.sl t 1 (l.map u8v)) H = some (l.map u8v) := by simp [elems]
    have hb := u8v_all l
    simp only [aop, Opd.ev, he]
    refine (if_pos hb).trans ?_
    congr 3
    rw [List.map_map]
    refine (List.map_congr_left fun b _ => ?_).trans (List.map_id l)
    simp [u8v]

/-- The text of characters. -/
theorem rtext_ok (hT : Has T) {v : AV} {l : List Int} (hv : RowOf 1 IsI v l) (hall : AllR l) (hl : l.length < 2 ^ 40) (H : AH) (hp : 0 < H.toks.length) :
    ∃ H', Den.of T 25 [v] H = some (.str (txt l), H') ∧ Grow H H' := by
  refine gr_of (w25_ok hT ?_)
  unfold w25
  refine l2 (fun m x y H' => ∃ (i : Nat) (acc : List UInt8), y = .int .i64 i ∧ i ≤ l.length ∧ TokU H H' x acc ∧ Grow H H' ∧ m = l.length - i ∧ acc.length ≤ 4 * i ∧ txt l = acc ++ txt (l.drop i)) l.length
    ⟨0, [], rfl, Nat.zero_le _, .inl ⟨rfl, rfl⟩, .refl _, rfl, Nat.le_refl _, rfl⟩ ?_
  rintro m x _ H1 ⟨i, acc, rfl, hi, ht, hg, hm, ha, he⟩
  refine g_lenW hv ?_
  refine Stp.go ?_
  refine i_c (fun h => ?_) (fun h => ?_)
  · have hlt : i < l.length := by omega
    have hc := hall _ (List.getElem_mem hlt)
    have hgi := List.getElem?_eq_getElem hlt
    rw [List.drop_eq_getElem_cons hlt] at he
    generalize l[i] = c at *
    refine g_atIn hv hgi ?_
    refine g_ldv ?_
    refine c_i (rbytes2_ok hT hc H1) ?_
    rintro _ _ ⟨rfl, rfl⟩
    have h4 := enc_len c
    refine s_appU ht hg hp rfl (enc_ne c) (by omega) fun v' H' t' g' _ => ?_
    refine g_add64 (by omega) ?_
    exact ⟨l.length - (i + 1), by omega, i + 1, _, by congr 1, by omega, t', g', rfl, by rw [List.length_append]; omega, by rw [he, txt_cons, List.append_assoc]⟩
  · refine s_cvU ht ?_
    rw [List.drop_eq_nil_of_le (by omega)] at he
    exact ⟨by rw [he]; simp [txt], hg⟩

/-! ### The table -/
def pairAV (p : Int × UInt8) : AV := .agg [.int .i64 p.1, .int .i64 p.2.toNat]
def tableL : List (Int × UInt8) := meant.zip lettersS
def IsP (x : AV) (p : Int × UInt8) : Prop := x = pairAV p
theorem rtable_ok (hT : Has T) (H : AH) : ∃ v H', Den.of T 57 [] H = some (v, H') ∧ RowOf 2 IsP v tableL ∧ H = H' := by
  refine w57_ok hT ?_
  unfold w57
  iterate 15 refine gP_i rfl ?_
  refine s_lit rfl ?_
  exact ⟨.inr ⟨0, _, rfl, F2.map pairAV (fun _ => rfl) tableL⟩, rfl⟩
theorem tableL_at {i : Nat} (h : i < 15) : ∃ m c, tableL[i]? = some (m, c) ∧ meant.drop i = m :: meant.drop (i + 1) ∧ lettersS.drop i = c :: lettersS.drop (i + 1) := by
  have h1 : i < meant.length := h
  have h2 : i < lettersS.length := h
  refine ⟨meant[i], lettersS[i], ?_, List.drop_eq_getElem_cons h1, List.drop_eq_getElem_cons h2⟩
  rw [tableL, List.getElem?_zip_eq_some]
  exact ⟨List.getElem?_eq_getElem h1, List.getElem?_eq_getElem h2⟩
theorem tableL_len : tableL.length = 15 := by decide
theorem g_tab {v : AV} {i : Nat} {p : Int × UInt8} {κ : IntKind} {k : AV → Prop} (hv : RowOf 2 IsP v tableL) (hp : tableL[i]? = some p) (hk : k (.vp [.int .i64 p.1, .int .i64 p.2.toNat])) : gP (aIdxAddr 2 v (.int κ (i : Int))) k :=
  g_at hv (by omega) (by rw [Int.toNat_natCast]; exact hp) fun x hx => by rw [hx]; exact hk
theorem g_fst {a b : AV} {k : AV → Prop} (hk : k (.vp [a, b])) : gP (aIdxAddrArr 2 1 (.vp [a, b]) (.int .i64 0)) k := gP_i rfl hk
theorem g_snd {a b : AV} {k : AV → Prop} (hk : k (.vp [b])) : gP (aIdxAddrArr 2 1 (.vp [a, b]) (.int .i64 1)) k := gP_i rfl hk

end Go.SV
