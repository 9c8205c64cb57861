/- Contracts: texts between double quotes are written. Own text of the prover; nothing is assumed. -/
import Derived.Test.YtaimiohndbajjaaDoorQb
import Derived.Test.YtaimiohndbajjaaDoorLe
import Derived.Lib.QuoteLoop
set_option maxRecDepth 100000
namespace Go.SV

variable {T : Nat → Option Entry}

/-! ### A range over a text, by its characters -/
theorem s_nextR {l : List UInt8} {b pos : Nat} {H : AH} {k : AV → AH → Prop} (hg : H.get b = .iter l pos)
    (h1 : ∀ r pos', l.drop pos ≠ [] → r = ((Lib.decodeL (l.drop pos)).1 : Int) → pos' = pos + (Lib.decodeL (l.drop pos)).2 → pos < l.length → pos < pos' → rl (l.drop pos) = r :: rl (l.drop pos') → k (.tup [.bool true, .int .i64 pos, .int .i32 r]) (H.put b (.iter l pos')))
    (h2 : l.length ≤ pos → rl (l.drop pos) = [] → k (.tup [.bool false]) H) : sP (aop [] (.nextS (.cst (.ptr b 0))) H) k := by
  refine s_next hg (fun h => ?_) (fun h => h2 h (by rw [List.drop_eq_nil_of_le h]; rfl))
  have hne : l.drop pos ≠ [] := by
    intro e
    have := congrArg List.length e
    rw [List.length_drop, List.length_nil] at this
    omega
  have hw := Lib.decodeL_width (l.drop pos)
  rw [decode_dropL]
  refine h1 _ _ hne rfl rfl h (by omega) ?_
  rw [rl_step hne, List.drop_drop]

/-! ### Letters -/
def meant : List Int := [0, 7, 8, 9, 10, 11, 12, 13, 27, 34, 92, 133, 160, 8232, 8233]
def lettersS : List UInt8 := [48, 97, 98, 116, 110, 118, 102, 114, 101, 34, 92, 78, 95, 76, 80]
def meantB : List UInt8 := [0, 7, 8, 9, 10, 11, 12, 13, 27, 34, 92, 194, 133, 194, 160, 226, 128, 168, 226, 128, 169]
theorem meant_rl : rl meantB = meant := by kernel_rfl

def letterF (r : Int) : List Int → List UInt8 → UInt8
  | m :: ms, c :: cs => if m = r then c else letterF r ms cs
  | _, _ => 0
def letterS (r : Int) : UInt8 := letterF r meant lettersS

theorem letter_ok (hT : Has T) (r : Int) (H : AH) : ∃ H', Den.of T 23 [.int .i32 r] H = some (.int .u8 (letterS r).toNat, H') ∧ Grow H H' := by
  refine gr_of (w23_ok hT ?_)
  unfold w23
  refine s_range ?_
  refine l1 (fun n x H' => ∃ pos i, x = .int .i64 (i : Nat) ∧ i ≤ 15 ∧ Grow H H' ∧ H.obs.length < H'.obs.length ∧ H'.get H.obs.length = .iter meantB pos ∧ n = meantB.length - pos ∧ rl (meantB.drop pos) = meant.drop i ∧ letterS r = letterF r (meant.drop i) (lettersS.drop i)) meantB.length
    ⟨0, 0, rfl, by decide, .push _ _, by rw [push_len]; omega, push_get _ _, rfl, meant_rl, rfl⟩ ?_
  rintro n _ H1 ⟨pos, i, rfl, hi15, hg, hl, hi, hn, hr, he⟩
  refine s_nextR hi (fun r' pos' _ _ _ hlt hp hs => ?_) (fun hge hs => ?_)
  · rw [hr] at hs
    have hi : i < 15 := by
      rcases Nat.lt_or_ge i 15 with h | h
      · exact h
      · rw [List.drop_eq_nil_of_le (by simpa [meant] using h)] at hs; cases hs
    rw [List.drop_eq_getElem_cons (show i < meant.length from hi)] at hs he
    rw [List.drop_eq_getElem_cons (show i < lettersS.length from hi)] at he
    simp only [List.cons.injEq] at hs
    obtain ⟨h1, h2⟩ := hs
    refine Stp.go ?_
    refine i_T rfl ?_
    refine Stp.go ?_
    refine Stp.go ?_
    refine i_c (fun h => ?_) (fun h => ?_)
    · refine g_byte (b := lettersS[i]) (by omega) (by rw [Int.toNat_natCast]; exact List.getElem?_eq_getElem _) ?_
      refine ⟨?_, hg.put (Nat.le_refl _)⟩
      rw [he, letterF, if_pos (by rw [h1]; exact h)]
      rfl
    · refine g_add64 (by omega) ?_
      refine ⟨meantB.length - pos', by omega, pos', i + 1, by congr 1, by omega, hg.put (Nat.le_refl _), by rw [put_len]; exact hl, by rw [put_get hl, if_pos rfl], rfl, h2.symm, ?_⟩
      rw [he, letterF, if_neg (by rw [h1]; exact h)]
  · refine Stp.go ?_
    refine i_F rfl ?_
    refine ⟨?_, hg⟩
    rw [hr] at hs
    rw [he, hs]
    rfl

/-! ### Digits -/
def hexL : List UInt8 := [48, 49, 50, 51, 52, 53, 54, 55, 56, 57, 97, 98, 99, 100, 101, 102]
def hexD (n : Nat) : UInt8 := hexL.getD n 0
def hexS (r : Nat) : Nat → List UInt8
  | 0 => []
  | n + 1 => hexD (r / 16 ^ n % 16) :: hexS r n
theorem hexS_len (r n : Nat) : (hexS r n).length = n := by induction n with
  | zero => rfl
  | succ n ih => rw [hexS, List.length_cons, ih]

theorem scDigits_ok (hT : Has T) (hB : KnowsB T) {H0 H : AH} {b : Nat} {l : List UInt8} (h : Bl H0 H b l) (hp : 0 < H0.toks.length) (hl : l.length < 2 ^ 45) (mark : UInt8) (r : Nat) (hr : r < 2 ^ 31) (many : Nat) (hm : many ≤ 8) :
    Wrote T 25 [.ptr b 0, .int .u8 mark.toNat, .int .i32 r, .int .i64 many] (.tup []) H0 H b (l ++ (92 :: mark :: hexS r many)) := by
  refine wrote_of (w25_ok hT ?_)
  unfold w25
  refine c_bl (wByte_ok hT hB h hp (by omega) 92) fun H1 b1 k1 => ?_
  refine c_bl (wByte_ok hT hB b1 hp (by simp; omega) mark) fun H2 b2 k2 => ?_
  refine g_sub64 (by omega) ?_
  refine l1 (fun n x H' => ∃ i : Nat, x = .int .i64 ((i : Int) - 1) ∧ i ≤ 8 ∧ n = i ∧ Keep b H H' ∧ ∃ acc, Bl H0 H' b acc ∧ acc.length + i = l.length + 2 + many ∧ acc ++ hexS r i = l ++ (92 :: mark :: hexS r many)) many ⟨many, rfl, hm, rfl, k1.trans k2, _, b2, by simp <;> omega, by simp⟩ ?_
  rintro n _ H3 ⟨i, rfl, hi, rfl, hk, acc, hb, hal, he⟩
  refine Stp.go ?_
  refine i_c (fun h => ?_) (fun h => ?_)
  · obtain ⟨m, rfl⟩ : ∃ m, n = m + 1 := ⟨n - 1, by omega⟩
    have e1 : (((m + 1 : Nat) : Int) - 1) = (m : Int) := by omega
    rw [e1]
    refine g_mul64 (by omega) ?_
    have e2 : (4 * (m : Int)) = ((4 * m : Nat) : Int) := by omega
    rw [e2]
    refine g_shr (n := 4 * m) (by show 4 * m ≤ 32; omega) ?_
    have e3 : ((r : Int) / ((2 ^ (4 * m) : Nat) : Int)) = ((r / 16 ^ m : Nat) : Int) := by
      rw [Nat.pow_mul]; exact_mod_cast rfl
    rw [e3]
    have hlt : r / 16 ^ m < 2 ^ 31 := Nat.lt_of_le_of_lt (Nat.div_le_self _ _) hr
    have e4 : bits .and .i32 ((r / 16 ^ m : Nat) : Int) 15 = ((r / 16 ^ m % 16 : Nat) : Int) := by
      have := bits_mask .i32 31 (by decide) wraps_i32 4 (by decide) ((r / 16 ^ m : Nat) : Int) (Int.natCast_nonneg _) (by exact_mod_cast hlt)
      rw [show ((2 : Int) ^ 4 - 1) = 15 from rfl, show ((2 : Int) ^ 4) = 16 from rfl] at this
      rw [this]
      exact_mod_cast rfl
    refine g_and e4 ?_
    have h16 : r / 16 ^ m % 16 < 16 := Nat.mod_lt _ (by decide)
    refine g_byte (b := hexD (r / 16 ^ m % 16)) (by omega) ?_ ?_
    · rw [Int.toNat_natCast]
      show hexL[r / 16 ^ m % 16]? = _
      rw [hexD, List.getD_eq_getElem?_getD, List.getElem?_eq_getElem (show r / 16 ^ m % 16 < hexL.length from h16)]
      rfl
    refine c_bl (wByte_ok hT hB hb hp (by omega) _) fun H4 b4 k4 => ?_
    refine g_sub64 (by omega) ?_
    exact ⟨m, by omega, m, rfl, by omega, rfl, hk.trans k4, _, b4, by simp; omega, by rw [← he, hexS]; simp⟩
  · have : n = 0 := by omega
    subst this
    exact ⟨rfl, by rw [← he, hexS, List.append_nil]; exact hb, hk⟩

/-! ### The whole -/
def qc (r : Int) : List UInt8 :=
  if letterS r ≠ 0 then [92, letterS r] else if may r then Lib.encodeRune r
  else if r < 256 then 92 :: 120 :: hexS r.toNat 2 else if r < 65536 then 92 :: 117 :: hexS r.toNat 4 else 92 :: 85 :: hexS r.toNat 8
theorem qc_len (r : Int) : (qc r).length ≤ 10 := by
  unfold qc
  have := enc_len r
  split
  · simp
  split
  · omega
  split
  · simp [hexS_len]
  split <;> simp [hexS_len]
def quoteS (s : List UInt8) : List UInt8 := if Lib.validD s then 34 :: ((rl s).flatMap qc ++ [34]) else []

theorem decode_valid {l : List UInt8} (hv : Lib.validD l = true) (hne : l ≠ []) : vRune ((Lib.decodeL l).1 : Int) = true ∧ Lib.validD (l.drop (Lib.decodeL l).2) = true ∧ l = Lib.encodeRune ((Lib.decodeL l).1 : Int) ++ l.drop (Lib.decodeL l).2 := by
  rw [Lib.validD_step l hne] at hv
  split at hv
  · cases hv
  · rename_i h
    refine ⟨?_, hv, ?_⟩
    · have := Lib.decodeN_valid l.length (l.getD 0 0).toNat (l.getD 1 0).toNat (l.getD 2 0).toNat (l.getD 3 0).toNat (l.getD 0 0).toNat_lt
      rw [← Lib.decodeL_N] at this
      simp only [vRune, decide_eq_true_eq]
      omega
    · rw [Lib.encode_decode l hne h, List.take_append_drop]

theorem u8ne (a : UInt8) : (!((a.toNat : Int) == 0)) = decide (a ≠ 0) := by
  by_cases h : a = 0
  · subst h; rfl
  · have : ¬ ((a.toNat : Int) = 0) := fun e => h (UInt8.toNat_inj.1 (by rw [show a.toNat = 0 by omega]; rfl))
    rw [decide_eq_true h, beq_eq_false_iff_ne.2 this]
    rfl

theorem quote_ok (hT : Has T) (hK : Knows T) (hB : KnowsB T) (s : List UInt8) (hs : s.length < 2 ^ 40) (H : AH) (hp : 0 < H.toks.length) :
    ∃ H', Den.of T 10 [.str s] H = some (.str (quoteS s), H') ∧ Grow H H' := by
  refine gr_of (w10_ok hT ?_)
  unfold w10
  refine c_eq (hK.valid s H (by omega)) ?_
  refine Stp.go ?_
  refine i_not ?_
  refine i_i (fun hv => ?_) (fun hv => ?_)
  rotate_left
  · exact ⟨by rw [quoteS, hv]; rfl, .refl _⟩
  refine a_i ?_
  refine c_bl (wByte_ok hT hB (Bl.push H) hp (by simp) 34) fun H1 b1 k1 => ?_
  refine s_range ?_
  have hbc : H.obs.length ≠ H1.obs.length := by have := b1.hi; omega
  have b2 : Bl H (H1.push (.iter s 0)) H.obs.length [34] := b1.grow (.push _ _)
  refine l0 (fun n H' => ∃ pos acc, Bl H H' H.obs.length acc ∧ H1.obs.length < H'.obs.length ∧ H'.get H1.obs.length = .iter s pos ∧ n = s.length - pos ∧ Lib.validD (s.drop pos) = true ∧ acc.length + 10 * (s.length - pos) ≤ 10 * s.length + 1 ∧ acc ++ (rl (s.drop pos)).flatMap qc = 34 :: (rl s).flatMap qc) s.length
    ⟨0, [34], b2, by rw [push_len]; omega, push_get _ _, rfl, hv, by simp; omega, rfl⟩ ?_
  rintro n H2 ⟨pos, acc, hb, hl, hi, hn, hvd, hal, he⟩
  refine s_nextR hi (fun r pos' hne hrr hpp hlt hlp hst => ?_) (fun hge hst => ?_)
  · obtain ⟨hvr, hvd', _⟩ := decode_valid hvd hne
    rw [← hrr] at hvr
    rw [List.drop_drop, ← hpp] at hvd'
    have hr0 : 0 ≤ r ∧ r ≤ 1114111 := by
      simp only [vRune, decide_eq_true_eq] at hvr; omega
    rw [hst, List.flatMap_cons] at he
    have hql := qc_len r
    have hb3 := hb.other (o := .iter s pos') hl (Ne.symm hbc) (by have := b1.hi; omega)
    have hl3 : H1.obs.length < (H2.put H1.obs.length (.iter s pos')).obs.length := by rw [put_len]; exact hl
    have hi3 : (H2.put H1.obs.length (.iter s pos')).get H1.obs.length = .iter s pos' := by rw [put_get hl, if_pos rfl]
    generalize H2.put H1.obs.length (.iter s pos') = H3 at hb3 hl3 hi3
    have fin : ∀ H', Bl H H' H.obs.length (acc ++ qc r) → Keep H.obs.length H3 H' → ∃ m, m < n ∧ ∃ pos acc, Bl H H' H.obs.length acc ∧ H1.obs.length < H'.obs.length ∧ H'.get H1.obs.length = .iter s pos ∧ m = s.length - pos ∧ Lib.validD (s.drop pos) = true ∧ acc.length + 10 * (s.length - pos) ≤ 10 * s.length + 1 ∧ acc ++ (rl (s.drop pos)).flatMap qc = 34 :: (rl s).flatMap qc := by
      intro H' hb' hk
      refine ⟨s.length - pos', by omega, pos', _, hb', Nat.lt_of_lt_of_le hl3 hk.len, by rw [hk.get _ hl3 (Ne.symm hbc)]; exact hi3, rfl, hvd', by rw [List.length_append]; omega, by rw [List.append_assoc]; exact he⟩
    refine Stp.go ?_
    refine i_T rfl ?_
    refine Stp.go ?_
    refine c_gr (letter_ok hT r _) fun H4 g4 => ?_
    have hb4 := hb3.grow g4
    have k34 : Keep H.obs.length H3 H4 := ⟨g4.len, fun c hc _ => g4.get hc⟩
    have hac : acc.length < 2 ^ 45 := by omega
    refine g_neq ?_
    rw [u8ne]
    refine i_c (fun h => ?_) (fun h => ?_)
    · refine c_bl (wByte_ok hT hB hb4 hp (by omega) 92) fun H5 b5 k5 => ?_
      refine c_bl (wByte_ok hT hB b5 hp (by simp; omega) (letterS r)) fun H6 b6 k6 => ?_
      refine fin H6 ?_ (k34.trans (k5.trans k6))
      rw [qc, if_pos h]
      simpa using b6
    · refine c_eq (may_ok hT r _) ?_
      refine i_i (fun hm => ?_) (fun hm => ?_)
      · obtain ⟨v, hw⟩ := wRune_ok hT hB hb4 hp (by omega) hvr
        refine c_bl hw fun H5 b5 k5 => ?_
        refine fin H5 ?_ (k34.trans k5)
        rw [qc, if_neg h, if_pos hm]
        exact b5
      · have hm' : ¬ may r = true := by rw [hm]; decide
        obtain ⟨u, rfl⟩ := Int.eq_ofNat_of_zero_le hr0.1
        refine Stp.go ?_
        refine i_c (fun h3 => ?_) (fun h3 => ?_)
        · refine c_bl (scDigits_ok hT hB hb4 hp hac 120 u (by omega) 2 (by decide)) fun H5 b5 k5 => ?_
          refine fin H5 ?_ (k34.trans k5)
          rw [qc, if_neg h, if_neg hm', if_pos h3]
          exact b5
        · refine Stp.go ?_
          refine i_c (fun h4 => ?_) (fun h4 => ?_)
          · refine c_bl (scDigits_ok hT hB hb4 hp hac 117 u (by omega) 4 (by decide)) fun H5 b5 k5 => ?_
            refine fin H5 ?_ (k34.trans k5)
            rw [qc, if_neg h, if_neg hm', if_neg h3, if_pos h4]
            exact b5
          · refine c_bl (scDigits_ok hT hB hb4 hp hac 85 u (by omega) 8 (by decide)) fun H5 b5 k5 => ?_
            refine fin H5 ?_ (k34.trans k5)
            rw [qc, if_neg h, if_neg hm', if_neg h3, if_neg h4]
            exact b5
  · refine Stp.go ?_
    refine i_F rfl ?_
    rw [hst, List.flatMap_nil, List.append_nil] at he
    refine c_bl (wByte_ok hT hB hb hp (by omega) 34) fun H5 b5 k5 => ?_
    refine c_eq (hB.text b5 hp (by simp; omega)) ?_
    refine ⟨?_, b5.g⟩
    rw [he, quoteS, if_pos hv]
    rfl

end Go.SV
