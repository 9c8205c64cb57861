/- Contracts: a Builder is written: bytes, characters. Own text of the prover; nothing is assumed. -/
import Derived.Test.YtaimiohndbajjaaDoorQa
import Derived.Test.YtaimiohndbajjaaDoorJa
import Derived.Lib.RuneBytes
set_option maxRecDepth 100000
namespace Go.SV

variable {T : Nat → Option Entry}

theorem u8v_byte (b : UInt8) : byteOf (u8v b) = b := by simp [byteOf, u8v]
theorem u8v_bytes (l : List UInt8) : (l.map u8v).map byteOf = l := by
  rw [List.map_map]
  exact (List.map_congr_left fun b _ => u8v_byte b).trans (List.map_id l)
theorem u8v_ok (l : List UInt8) : elemsOk 1 (l.map u8v) = true := by
  rw [elemsOk, List.all_eq_true]
  intro x hx
  obtain ⟨b, _, rfl⟩ := List.mem_map.1 hx
  rfl
theorem u8v_all (l : List UInt8) : (l.map u8v).all (fun x => match x with | .int .u8 n => decide (0 ≤ n ∧ n < 256) | _ => false) = true := by
  rw [List.all_eq_true]
  intro x hx
  obtain ⟨b, _, rfl⟩ := List.mem_map.1 hx
  have := b.toNat_lt
  simp only [u8v, decide_eq_true_eq]
  omega

abbrev U8 : Nat := 5

/-- A row of bytes that grows, and whose type is known. -/
def TokU (H0 H : AH) (v : AV) (l : List UInt8) : Prop := (v = .nils ∧ l = []) ∨ ∃ t, v = .sl t 1 (l.map u8v) ∧ H0.toks.length ≤ t ∧ H.toks[t]? = some (l.length, 1, U8) ∧ l ≠ []

theorem TokU.cell {H0 H : AH} {v : AV} {l : List UInt8} (h : TokU H0 H v l) : v.isCell = true ∧ v.def? = true ∧ v.cells = [v] := by
  rcases h with ⟨rfl, _⟩ | ⟨t, rfl, _⟩ <;> exact ⟨rfl, rfl, rfl⟩
theorem TokU.len {H0 H : AH} {v : AV} {l : List UInt8} (h : TokU H0 H v l) {k : AV → Prop} (hk : k (.int .i64 l.length)) : gP (aLen .row v H) k := by
  rcases h with ⟨rfl, rfl⟩ | ⟨t, rfl, _⟩
  · exact gP_i rfl hk
  · exact gP_i (by simp [aLen]) hk

theorem s_appU {H0 H : AH} {v : AV} {l ys : List UInt8} {zs : List AV} {t0 : Nat} {k : AV → AH → Prop} (ht : TokU H0 H v l) (hg : Grow H0 H) (hp : 0 < H0.toks.length) (hz : zs = ys.map u8v) (hne : ys ≠ []) (hb : l.length + ys.length ≤ 2 ^ 47)
    (h : ∀ v' H', TokU H0 H' v' (l ++ ys) → Grow H0 H' → H'.obs = H.obs → k v' H') : sP (aAppend .tok 1 (1, U8) v (.sl t0 1 zs) H) k := by
  subst hz
  have he : elems 1 (.sl t0 1 (ys.map u8v)) H = some (ys.map u8v) := by simp [elems]
  have hemp : (ys.map u8v).isEmpty = false := by cases ys with
    | nil => exact absurd rfl hne
    | cons => rfl
  have hok := u8v_ok ys
  obtain ⟨ho, ⟨q, hl⟩⟩ := hg
  rcases ht with ⟨rfl, rfl⟩ | ⟨t, rfl, h2, h3, h4⟩
  · refine sP_i (v := .sl H.toks.length 1 (ys.map u8v)) (H := ⟨H.obs, H.toks ++ [((ys.map u8v).length, 1, U8)]⟩) ?_ (h _ _ (.inr ⟨H.toks.length, rfl, by rw [hl, List.length_append]; omega, by simp, hne⟩) ⟨ho, ⟨q ++ [((ys.map u8v).length, 1, U8)], by simp [hl]⟩⟩ rfl)
    simp only [aAppend, he, hemp, hok, Bool.not_true, Bool.false_eq_true, if_false]
    rw [if_pos (by simp only [List.length_map, List.length_nil] at *; omega)]
  · have htl : t < H.toks.length := by
      rcases Nat.lt_or_ge t H.toks.length with h | h
      · exact h
      · rw [List.getElem?_eq_none h] at h3; simp at h3
    have hty : tokTy H t U8 = U8 := by simp [tokTy, h3]
    refine sP_i (v := .sl t 1 (l.map u8v ++ ys.map u8v)) (H := ⟨H.obs, H.toks.set t ((l.map u8v).length + (ys.map u8v).length, 1, tokTy H t U8)⟩) ?_ (h _ _ (.inr ⟨t, by rw [List.map_append], h2, ?_, by simp [hne]⟩) ⟨ho, ?_⟩ rfl)
    · simp only [aAppend, he, hemp, hok, Bool.not_true, Bool.false_eq_true, if_false]
      rw [if_pos ⟨trivial, by omega, by rw [h3]; simp, by simp only [List.length_map]; omega⟩]
    · show (H.toks.set t _)[t]? = _
      rw [List.getElem?_set_self htl, hty]; simp
    · show ∃ l', H.toks.set t _ = _
      rw [hl, List.set_append_right _ _ h2]
      exact ⟨_, rfl⟩

/-- A Builder, new since a heap, with its bytes. -/
structure Bl (H0 H : AH) (b : Nat) (l : List UInt8) : Prop where
  v : ∃ v, H.get b = .cells [.bnil, v] ∧ TokU H0 H v l
  g : Grow H0 H
  lo : H0.obs.length ≤ b
  hi : b < H.obs.length

theorem Bl.push (H : AH) : Bl H (H.push (.cells [.bnil, .nils])) H.obs.length [] := ⟨⟨_, push_get _ _, .inl ⟨rfl, rfl⟩⟩, .push _ _, Nat.le_refl _, by rw [push_len]; omega⟩
theorem Bl.grow {H0 H H' : AH} {b : Nat} {l : List UInt8} (h : Bl H0 H b l) (g : Grow H H') : Bl H0 H' b l := by
  obtain ⟨⟨v, h1, h2⟩, h3, h4, h5⟩ := h
  refine ⟨⟨v, by rw [g.get h5]; exact h1, ?_⟩, h3.trans g, h4, Nat.lt_of_lt_of_le h5 g.len⟩
  rcases h2 with h | ⟨t, a, b, c, d⟩
  · exact .inl h
  · refine .inr ⟨t, a, b, ?_, d⟩
    rw [g.tok (by rcases Nat.lt_or_ge t H.toks.length with h | h; exact h; rw [List.getElem?_eq_none h] at c; simp at c)]
    exact c
theorem Bl.other {H0 H : AH} {b c : Nat} {l : List UInt8} {o : AObj} (h : Bl H0 H b l) (hc : c < H.obs.length) (hne : c ≠ b) (hlo : H0.obs.length ≤ c) : Bl H0 (H.put c o) b l := by
  obtain ⟨⟨v, h1, h2⟩, h3, h4, h5⟩ := h
  exact ⟨⟨v, by rw [put_get hc, if_neg (Ne.symm hne)]; exact h1, h2⟩, h3.put hlo, h4, by rw [put_len]; exact h5⟩

/-- The library's part. -/
structure KnowsB (T : Nat → Option Entry) : Prop where
  copy : ∀ (b : Nat) (l : List AV) (H : AH), H.get b = .cells (.bnil :: l) → Den.of T 47 [.ptr b 0] H = some (.tup [], H)
  text : ∀ {H0 H : AH} {b : Nat} {l : List UInt8}, Bl H0 H b l → 0 < H0.toks.length → l.length < 2 ^ 60 → Den.of T 26 [.ptr b 0] H = some (.str l, H)

theorem gText_bl {H0 H : AH} {b : Nat} {l : List UInt8} (h : Bl H0 H b l) (hp : 0 < H0.toks.length) (hl : l.length < 2 ^ 60) : gText U8 [.ptr b 0] H = some (.str l, H) := by
  obtain ⟨⟨v, h1, h2⟩, _⟩ := h
  rcases h2 with ⟨rfl, rfl⟩ | ⟨t, rfl, h3, h4, h5⟩
  · simp only [gText, h1]
  · simp only [gText, h1]
    rw [if_pos ⟨by omega, by simpa using h4, by simpa using h5, by simpa using hl, u8v_all l⟩, u8v_bytes]
theorem gCopy_bl {H : AH} {b : Nat} {l : List AV} (h : H.get b = .cells (.bnil :: l)) : gCopy [.ptr b 0] H = some (.tup [], H) := by simp only [gCopy, h]

/-- What a call that writes a Builder leaves. -/
def Wrote (T : Nat → Option Entry) (f : Nat) (az : List AV) (v : AV) (H0 H : AH) (b : Nat) (l : List UInt8) : Prop :=
  ∃ H', Den.of T f az H = some (v, H') ∧ Bl H0 H' b l ∧ Keep b H H'

theorem c_bl {f : Nat} {az : List AV} {v : AV} {H0 H : AH} {b : Nat} {l : List UInt8} {k : AV → AH → Prop} (hc : Wrote T f az v H0 H b l) (h : ∀ H', Bl H0 H' b l → Keep b H H' → k v H') : cP (Den.of T) f az H k := by
  obtain ⟨H', h1, h2, h3⟩ := hc
  exact c_eq h1 (h H' h2 h3)
theorem wrote_of {f : Nat} {az : List AV} {v : AV} {H0 H : AH} {b : Nat} {l : List UInt8} (h : ∃ x H', Den.of T f az H = some (x, H') ∧ x = v ∧ Bl H0 H' b l ∧ Keep b H H') : Wrote T f az v H0 H b l := by
  obtain ⟨x, H', h1, rfl, h2, h3⟩ := h
  exact ⟨H', h1, h2, h3⟩

theorem keep_put {b : Nat} {H H' : AH} {o : AObj} (hb : b < H.obs.length) (e : H'.obs = H.obs) : Keep b H (H'.put b o) := by
  refine ⟨by rw [put_len, e]; exact Nat.le_refl _, fun c hc hne => ?_⟩
  rw [put_get (by rw [e]; exact hb), if_neg hne, AH.get, AH.get, e]

theorem wByte_ok (hT : Has T) (hB : KnowsB T) {H0 H : AH} {b : Nat} {l : List UInt8} (h : Bl H0 H b l) (hp : 0 < H0.toks.length) (hl : l.length < 2 ^ 46) (c : UInt8) :
    Wrote T 22 [.ptr b 0, .int .u8 c.toNat] .niliface H0 H b (l ++ [c]) := by
  refine wrote_of (w22_ok hT ?_)
  unfold w22
  obtain ⟨⟨v, h1, h2⟩, h3, h4, h5⟩ := h
  refine c_eq (hB.copy _ _ _ h1) ?_
  refine g_nilP ?_
  refine g_faP0 ?_
  refine g_ld1 h1 rfl ?_
  refine s_lit rfl ?_
  refine s_appU (ys := [c]) h2 h3 hp rfl (by simp) (by simp; omega) fun v' H' ht hg ho => ?_
  refine g_nilP ?_
  refine g_faP0 ?_
  have h1' : H'.get b = .cells [.bnil, v] := by simp only [AH.get, ho]; exact h1
  have hb' : b < H'.obs.length := by rw [ho]; exact h5
  obtain ⟨q1, q2, q3⟩ := ht.cell
  refine h_st h1' q2 (by rw [q3]; rfl) (by rw [q3]; simp [q1]) (by simp) ?_
  refine ⟨rfl, ⟨⟨v', by rw [put_get hb', if_pos rfl, q3]; rfl, ht⟩, hg.put h4, h4, by rw [put_len]; exact hb'⟩, keep_put h5 ho⟩

/-! ### Characters -/
theorem g_shr {κ : IntKind} {a : Int} {κ' : IntKind} {n : Nat} {k : AV → Prop} (hn : n ≤ κ.bits) (h : k (.int κ (a / (2 ^ n : Nat)))) : gP (aBin .shr (.int κ a) (.int κ' (n : Int))) k := by
  refine gP_i (v := .int κ (a / (2 ^ n : Nat))) ?_ h
  have e : a.fdiv ((2 : Int) ^ n) = a / (2 ^ n : Nat) := by
    rw [Int.fdiv_eq_ediv_of_nonneg _ (by exact_mod_cast Nat.zero_le _)]
    congr 1
  have h1 : min n κ.bits = n := Nat.min_eq_left hn
  simp only [aBin, isShift, aShift, if_true]
  rw [if_neg (by omega), Int.toNat_natCast, h1, e]
theorem g_and {κ : IntKind} {a b r : Int} {k : AV → Prop} (e : bits .and κ a b = r) (h : k (.int κ r)) : gP (aBin .and (.int κ a) (.int κ b)) k := by
  refine gP_i (v := .int κ r) ?_ h
  rw [← e]
  simp [aBin, isShift, aInt, aBits, bits]
theorem g_or {κ : IntKind} {a b r : Int} {k : AV → Prop} (e : bits .or κ a b = r) (h : k (.int κ r)) : gP (aBin .or (.int κ a) (.int κ b)) k := by
  refine gP_i (v := .int κ r) ?_ h
  rw [← e]
  simp [aBin, isShift, aInt, aBits, bits]

theorem and63 {x : Int} (h0 : 0 ≤ x) (h1 : x < 256) : bits .and .u8 x 63 = x % 64 := bits_mask .u8 8 (by decide) wraps_u8 6 (by decide) x h0 h1
theorem or128 {y : Int} (h0 : 0 ≤ y) (h1 : y < 64) : bits .or .u8 128 y = 128 + y := bits_join .u8 8 (by decide) wraps_u8 6 128 y (by decide) (by decide) (by decide) h0 h1 (by omega)
theorem or192 {y : Int} (h0 : 0 ≤ y) (h1 : y < 32) : bits .or .u8 192 y = 192 + y := bits_join .u8 8 (by decide) wraps_u8 5 192 y (by decide) (by decide) (by decide) h0 h1 (by omega)
theorem or224 {y : Int} (h0 : 0 ≤ y) (h1 : y < 16) : bits .or .u8 224 y = 224 + y := bits_join .u8 8 (by decide) wraps_u8 4 224 y (by decide) (by decide) (by decide) h0 h1 (by omega)
theorem or240 {y : Int} (h0 : 0 ≤ y) (h1 : y < 8) : bits .or .u8 240 y = 240 + y := bits_join .u8 8 (by decide) wraps_u8 3 240 y (by decide) (by decide) (by decide) h0 h1 (by omega)

theorem encZ (r : Int) : (Lib.encodeRuneZ r).map (AV.int .u8) = (Lib.encodeRune r).map u8v := by
  rw [Lib.encodeRune, List.map_map]
  refine List.map_congr_left fun x hx => ?_
  obtain ⟨h0, h1⟩ := Lib.encodeRuneZ_byte r x hx
  have : ((x.toNat.toUInt8).toNat : Int) = x := by
    have : x.toNat.toUInt8.toNat = x.toNat := by simp; omega
    rw [this]; omega
  simp only [Function.comp, u8v, this]
theorem enc_ne (r : Int) : Lib.encodeRune r ≠ [] := by
  intro h
  have := (Lib.encodeRuneZ_length r).1
  have h2 := congrArg List.length h
  rw [Lib.encodeRune, List.length_map, List.length_nil] at h2
  omega
theorem enc_len (r : Int) : (Lib.encodeRune r).length ≤ 4 := by rw [Lib.encodeRune, List.length_map]; exact (Lib.encodeRuneZ_length r).2

/-- What a call that puts to a row leaves. -/
theorem apRune_ok (hT : Has T) {H0 H : AH} {v : AV} {l : List UInt8} (ht : TokU H0 H v l) (hg : Grow H0 H) (hp : 0 < H0.toks.length) (hl : l.length < 2 ^ 46) {r : Int} (hr : vRune r = true) :
    ∃ v' H', Den.of T 48 [v, .int .i32 r] H = some (v', H') ∧ TokU H0 H' v' (l ++ Lib.encodeRune r) ∧ Grow H0 H' ∧ H'.obs = H.obs := by
  have hr : 0 ≤ r ∧ r < 55296 ∨ 57343 < r ∧ r ≤ 1114111 := by simpa [vRune] using hr
  have hw : IntKind.u32.wrap r = r := by rw [IntKind.wrap_u32]; omega
  have hel := enc_len r
  have app : ∀ {zs : List AV}, zs = (Lib.encodeRune r).map u8v → sP (aAppend .tok 1 (1, U8) v (.sl 0 1 zs) H) fun v' H' => TokU H0 H' v' (l ++ Lib.encodeRune r) ∧ Grow H0 H' ∧ H'.obs = H.obs := fun hz =>
    s_appU ht hg hp hz (enc_ne r) (by omega) fun v' H' a b c => ⟨a, b, c⟩
  have key : 128 ≤ r → ∃ v' H', Den.of T 65 [v, .int .i32 r] H = some (v', H') ∧ TokU H0 H' v' (l ++ Lib.encodeRune r) ∧ Grow H0 H' ∧ H'.obs = H.obs := by
    intro h128
    refine w65_ok hT ?_
    unfold w65
    refine g_cv ?_
    rw [hw]
    refine Stp.go ?_
    refine i_c (fun h => ?_) (fun h => ?_)
    · refine g_shr (n := 6) (by decide) ?_
      refine g_cv ?_
      refine g_or (or192 (y := _) (by rw [IntKind.wrap_u8]; omega) (by rw [IntKind.wrap_u8]; omega)) ?_
      refine g_cv ?_
      refine g_and (and63 (by rw [IntKind.wrap_u8]; omega) (by rw [IntKind.wrap_u8]; omega)) ?_
      refine g_or (or128 (by rw [IntKind.wrap_u8]; omega) (by rw [IntKind.wrap_u8]; omega)) ?_
      refine s_lit rfl ?_
      refine app ?_
      rw [← encZ, Lib.encodeRuneZ_two h128 h]
      simp only [List.map_cons, List.map_nil, IntKind.wrap_u8, List.cons.injEq, AV.int.injEq, true_and, and_true]
      omega
    refine j1 (fun x H' => x = .bool (decide (2048 ≤ r ∧ r < 55296 ∨ 57343 < r ∧ r ≤ 65535)) ∧ H = H') ?_ ?_
    · rintro _ _ ⟨rfl, rfl⟩
      refine i_c (fun h3 => ?_) (fun h3 => ?_)
      · refine g_shr (n := 12) (by decide) ?_
        refine g_cv ?_
        refine g_or (or224 (by rw [IntKind.wrap_u8]; omega) (by rw [IntKind.wrap_u8]; omega)) ?_
        refine g_shr (n := 6) (by decide) ?_
        refine g_cv ?_
        refine g_and (and63 (by rw [IntKind.wrap_u8]; omega) (by rw [IntKind.wrap_u8]; omega)) ?_
        refine g_or (or128 (by rw [IntKind.wrap_u8]; omega) (by rw [IntKind.wrap_u8]; omega)) ?_
        refine g_cv ?_
        refine g_and (and63 (by rw [IntKind.wrap_u8]; omega) (by rw [IntKind.wrap_u8]; omega)) ?_
        refine g_or (or128 (by rw [IntKind.wrap_u8]; omega) (by rw [IntKind.wrap_u8]; omega)) ?_
        refine s_lit rfl ?_
        refine app ?_
        rw [← encZ, Lib.encodeRuneZ_three h3]
        simp only [List.map_cons, List.map_nil, IntKind.wrap_u8, List.cons.injEq, AV.int.injEq, true_and, and_true]
        omega
      refine j1 (fun x H1 => x = .bool true ∧ H = H1) ?_ ?_
      · rintro _ _ ⟨rfl, rfl⟩
        refine i_T rfl ?_
        refine g_shr (n := 18) (by decide) ?_
        refine g_cv ?_
        refine g_or (or240 (by rw [IntKind.wrap_u8]; omega) (by rw [IntKind.wrap_u8]; omega)) ?_
        refine g_shr (n := 12) (by decide) ?_
        refine g_cv ?_
        refine g_and (and63 (by rw [IntKind.wrap_u8]; omega) (by rw [IntKind.wrap_u8]; omega)) ?_
        refine g_or (or128 (by rw [IntKind.wrap_u8]; omega) (by rw [IntKind.wrap_u8]; omega)) ?_
        refine g_shr (n := 6) (by decide) ?_
        refine g_cv ?_
        refine g_and (and63 (by rw [IntKind.wrap_u8]; omega) (by rw [IntKind.wrap_u8]; omega)) ?_
        refine g_or (or128 (by rw [IntKind.wrap_u8]; omega) (by rw [IntKind.wrap_u8]; omega)) ?_
        refine g_cv ?_
        refine g_and (and63 (by rw [IntKind.wrap_u8]; omega) (by rw [IntKind.wrap_u8]; omega)) ?_
        refine g_or (or128 (by rw [IntKind.wrap_u8]; omega) (by rw [IntKind.wrap_u8]; omega)) ?_
        refine s_lit rfl ?_
        refine app ?_
        rw [← encZ, Lib.encodeRuneZ_four (by omega) (by omega)]
        simp only [List.map_cons, List.map_nil, IntKind.wrap_u8, List.cons.injEq, AV.int.injEq, true_and, and_true]
        omega
      · intro j hj
        refine Stp.go ?_
        refine d_t ?_
        refine i_cT (by omega) ?_
        refine Stp.go ?_
        exact hj _ _ ⟨by rw [decide_eq_true (by omega)], rfl⟩
    · intro j hj
      refine Stp.go ?_
      refine i_c (fun h3 => ?_) (fun h3 => ?_)
      · refine hj _ _ ⟨?_, rfl⟩
        rw [decide_eq_true h3, decide_eq_true (by omega)]
      · refine Stp.go ?_
        refine Stp.go ?_
        refine i_c (fun h4 => ?_) (fun h4 => ?_)
        · refine Stp.go ?_
          refine hj _ _ ⟨?_, rfl⟩
          congr 1
          rw [Bool.eq_iff_iff, decide_eq_true_iff, decide_eq_true_iff]
          omega
        · refine hj _ _ ⟨?_, rfl⟩
          congr 1
          symm
          rw [decide_eq_false_iff_not]
          omega
  refine w48_ok hT ?_
  unfold w48
  refine g_cv ?_
  rw [hw]
  refine Stp.go ?_
  refine i_c (fun h => ?_) (fun h => ?_)
  · refine g_cv ?_
    refine s_lit rfl ?_
    refine app ?_
    rw [← encZ, Lib.encodeRuneZ_one (by omega) h]
    simp only [List.map_cons, List.map_nil, IntKind.wrap_u8]
    congr 2
    omega
  · exact c_i (key (by omega)) fun v' H' h => h

theorem wRune_ok (hT : Has T) (hB : KnowsB T) {H0 H : AH} {b : Nat} {l : List UInt8} (h : Bl H0 H b l) (hp : 0 < H0.toks.length) (hl : l.length < 2 ^ 46) {r : Int} (hr : vRune r = true) :
    ∃ v, Wrote T 24 [.ptr b 0, .int .i32 r] v H0 H b (l ++ Lib.encodeRune r) := by
  have : ∃ v H', Den.of T 24 [.ptr b 0, .int .i32 r] H = some (v, H') ∧ Bl H0 H' b (l ++ Lib.encodeRune r) ∧ Keep b H H' := by
    refine w24_ok hT ?_
    unfold w24
    obtain ⟨⟨v, h1, h2⟩, h3, h4, h5⟩ := h
    refine c_eq (hB.copy _ _ _ h1) ?_
    refine g_nilP ?_
    refine g_faP0 ?_
    refine g_ld1 h1 rfl ?_
    refine h2.len ?_
    refine g_nilP ?_
    refine g_faP0 ?_
    refine g_ld1 h1 rfl ?_
    refine c_i (apRune_ok hT h2 h3 hp hl hr) ?_
    rintro v' H' ⟨ht, hg, ho⟩
    have h1' : H'.get b = .cells [.bnil, v] := by simp only [AH.get, ho]; exact h1
    have hb' : b < H'.obs.length := by rw [ho]; exact h5
    obtain ⟨q1, q2, q3⟩ := ht.cell
    refine g_nilP ?_
    refine g_faP0 ?_
    refine h_st h1' q2 (by rw [q3]; rfl) (by rw [q3]; simp [q1]) (by simp) ?_
    have hB' : Bl H0 (H'.put b (.cells (splice [.bnil, v] 1 v'.cells))) b (l ++ Lib.encodeRune r) := ⟨⟨v', by rw [put_get hb', if_pos rfl, q3]; rfl, ht⟩, hg.put h4, h4, by rw [put_len]; exact hb'⟩
    obtain ⟨⟨v2, h6, h7⟩, _⟩ := id hB'
    refine g_nilP ?_
    refine g_faP0 ?_
    refine g_ld1 h6 rfl ?_
    refine h7.len ?_
    refine g_sub (by exact ⟨hB', keep_put h5 ho⟩)
  obtain ⟨v, H', h1, h2, h3⟩ := this
  exact ⟨v, H', h1, h2, h3⟩

end Go.SV
