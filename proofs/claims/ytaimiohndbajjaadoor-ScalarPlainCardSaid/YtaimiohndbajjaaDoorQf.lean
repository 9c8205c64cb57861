/- Contracts: texts between double quotes are read. Own text of the prover; nothing is assumed. -/
import Derived.Test.YtaimiohndbajjaaDoorQc
import Derived.Test.YtaimiohndbajjaaDoorQe
set_option maxRecDepth 100000
namespace Go.SV

variable {T : Nat → Option Entry}

/-! ### Letters -/
def meansS (c : UInt8) : Option Int := if 0 ≤ Lib.indexByte lettersS c then meant[(Lib.indexByte lettersS c).toNat]? else none

theorem index_lt (l : List UInt8) (c : UInt8) : Lib.indexByte l c < l.length := by
  have h := Lib.indexByte_ge l c
  by_cases hn : Lib.indexByte l c = -1
  · omega
  · obtain ⟨k, hk⟩ : ∃ k : Nat, Lib.indexByte l c = k := ⟨(Lib.indexByte l c).toNat, by omega⟩
    obtain ⟨h1, _⟩ := Lib.indexByte_some hk
    have := (List.getElem?_eq_some_iff.1 h1).1
    omega

def meansR (c : UInt8) : AV := match meansS c with
  | some r => .tup [.int .i32 r, .bool true]
  | none => .tup [.int .i32 0, .bool false]

theorem means_ok (hT : Has T) (hK : Knows T) (c : UInt8) (H : AH) : ∃ H', Den.of T 49 [.int .u8 c.toNat] H = some (meansR c, H') ∧ Grow H H' := by
  refine gr_of (w49_ok hT ?_)
  unfold w49
  refine c_eq (hK.byte lettersS c H) ?_
  have hge := Lib.indexByte_ge lettersS c
  have hlt : Lib.indexByte lettersS c < 15 := index_lt lettersS c
  have hms : meansS c = if 0 ≤ Lib.indexByte lettersS c then meant[(Lib.indexByte lettersS c).toNat]? else none := rfl
  generalize Lib.indexByte lettersS c = x0 at hge hlt hms
  refine s_range ?_
  refine l1 (fun n x H' => ∃ pos i : Nat, x = .int .i64 (x0 - i) ∧ i ≤ 15 ∧ (x0 < 0 ∨ (i : Int) ≤ x0) ∧ Grow H H' ∧ H.obs.length < H'.obs.length ∧ H'.get H.obs.length = .iter meantB pos ∧ n = meantB.length - pos ∧ rl (meantB.drop pos) = meant.drop i) meantB.length
    ⟨0, 0, by simp, by decide, by omega, .push _ _, by rw [push_len]; omega, push_get _ _, rfl, meant_rl⟩ ?_
  rintro n _ H1 ⟨pos, i, rfl, hi15, hix, hg, hl, hi, hn, hr⟩
  refine s_nextR hi (fun r' pos' _ _ _ hlt' hp hs => ?_) (fun hge' hs => ?_)
  · rw [hr] at hs
    have hi : i < 15 := by
      rcases Nat.lt_or_ge i 15 with h | h
      · exact h
      · rw [List.drop_eq_nil_of_le (by simpa [meant] using h)] at hs; cases hs
    rw [List.drop_eq_getElem_cons (show i < meant.length from hi)] at hs
    simp only [List.cons.injEq] at hs
    obtain ⟨h1, h2⟩ := hs
    refine Stp.go ?_
    refine i_T rfl ?_
    refine Stp.go ?_
    refine Stp.go ?_
    refine i_c (fun h => ?_) (fun h => ?_)
    · refine ⟨?_, hg.put (Nat.le_refl _)⟩
      have hx : x0 = i := by omega
      rw [meansR, hms, hx, if_pos (by omega), Int.toNat_natCast, List.getElem?_eq_getElem (show i < meant.length from hi), h1]
    · refine g_sub64 (by omega) ?_
      exact ⟨meantB.length - pos', by omega, pos', i + 1, by congr 1; omega, by omega, by omega, hg.put (Nat.le_refl _), by rw [put_len]; exact hl, by rw [put_get hl, if_pos rfl], rfl, h2.symm⟩
  · refine Stp.go ?_
    refine i_F rfl ?_
    refine ⟨?_, hg⟩
    rw [hr] at hs
    have hi : i = 15 := by
      rcases Nat.lt_or_ge i 15 with h | h
      · rw [List.drop_eq_getElem_cons (show i < meant.length from h)] at hs; cases hs
      · omega
    rw [meansR, hms, if_neg (by omega)]

/-! ### Numbers -/
/-- What so many digits mean: the number, if it is one; a text that is too short means none. -/
def numS (s : List UInt8) (many : Nat) : Option Int := if s.length < many then none else if (s.take many).all isHex = true then (if vRune (hexN 0 (s.take many)) then some (hexN 0 (s.take many)) else none) else none
def numR (s : List UInt8) (many : Nat) : AV := match numS s many with
  | some r => .tup [.int .i32 r, .bool true]
  | none => .tup [.int .i32 0, .bool false]
theorem hex_all : (List.range 256).all (fun n => decide (hexV n < 16 → n < 128 ∧ n ≠ 43 ∧ n ≠ 45 ∧ n ≠ 95)) = true := by kernel_rfl
theorem hex_is {b : UInt8} (h : isHex b = true) : b.toNat < 128 ∧ b ≠ 43 ∧ b ≠ 45 ∧ b ≠ 95 := by
  have := List.all_eq_true.1 hex_all b.toNat (List.mem_range.2 b.toNat_lt)
  simp only [decide_eq_true_eq] at this
  obtain ⟨h1, h2, h3, h4⟩ := this (by simpa [isHex] using h)
  exact ⟨h1, fun e => h2 (by rw [e]; rfl), fun e => h3 (by rw [e]; rfl), fun e => h4 (by rw [e]; rfl)⟩

theorem any_hex : ∀ l : List UInt8, (∀ b ∈ l, isHex b = true) → Lib.indexAny l [43, 45, 95] = -1 := by
  intro l
  induction l with
  | nil => intro _; rfl
  | cons a l ih =>
    intro h
    obtain ⟨_, h1, h2, h3⟩ := hex_is (h a (by simp))
    have hc : [43, 45, 95].contains a = false := by simp [h1, h2, h3]
    rw [Lib.indexAny, hc, ih fun b hb => h b (by simp [hb])]
    rfl

theorem number_ok (hT : Has T) (hQ : KnowsT T) (hE : KnowsE T) (s : List UInt8) (many : Nat) (hm : 1 ≤ many ∧ many ≤ 8) (hs : s.length < 2 ^ 40) (H : AH) :
    Den.of T 50 [.str s, .int .i64 many] H = some (numR s many, H) := by
  refine eq_of (w50_ok hT ?_)
  unfold w50
  refine Stp.go ?_
  refine Stp.go ?_
  refine i_c (fun h => ?_) (fun h => ?_)
  · exact ⟨by rw [numR, numS, if_pos (by omega)], rfl⟩
  have hlm : ¬ s.length < many := by omega
  have htl : (s.take many).length = many := by rw [List.length_take]; omega
  refine g_upto (by omega) ?_
  rw [Int.toNat_natCast]
  obtain ⟨pv, hpo, hpv⟩ := parse_ok hT hE (s.take many) (by omega) H
  refine c_eq hpo ?_
  by_cases hall : (s.take many).all isHex = true
  rotate_left
  · rw [if_neg hall] at hpv
    obtain ⟨tt, xx, rfl⟩ := hpv
    refine g_ext0 ?_
    refine g_ext1 ?_
    refine j1 (fun x H' => x = .bool true ∧ H = H') ?_ ?_
    · rintro _ _ ⟨rfl, rfl⟩
      refine i_T rfl ?_
      exact ⟨by rw [numR, numS, if_neg hlm, if_neg hall], rfl⟩
    · intro j hj
      refine gP_i (v := .bool true) rfl ?_
      refine d_f ?_
      refine i_T rfl ?_
      exact hj _ _ ⟨rfl, rfl⟩
  rw [if_pos hall] at hpv
  subst hpv
  have hx : ∀ b ∈ s.take many, isHex b = true := List.all_eq_true.1 hall
  have hv : hexN 0 (s.take many) < 16 ^ 8 := by
    have := hexN_lt (s.take many) 0 0 hx (by decide)
    rw [htl, Nat.zero_add] at this
    exact Nat.lt_of_lt_of_le this (Nat.pow_le_pow_right (by decide) hm.2)
  have h88 : (16 : Nat) ^ 8 = 4294967296 := by decide
  have hR : numR s many = match (if vRune (hexN 0 (s.take many)) then some ((hexN 0 (s.take many) : Nat) : Int) else none) with
    | some r => .tup [.int .i32 r, .bool true]
    | none => .tup [.int .i32 0, .bool false] := by rw [numR, numS, if_neg hlm, if_pos hall]
  rw [hR]
  have hasc : ascii (s.take many) = true := by
    rw [ascii, List.all_eq_true]
    intro b hb
    exact decide_eq_true (hex_is (hx b hb)).1
  have hany := any_hex _ hx
  have hq := hQ.any (s.take many) [43, 45, 95] H (by omega) (by decide) hasc (by decide)
  generalize hexN 0 (s.take many) = v at *
  refine g_ext0 ?_
  refine g_ext1 ?_
  refine j1 (fun x H' => x = .bool (!(decide (v ≤ 1114111) && vRune v)) ∧ H = H') ?_ ?_
  · rintro _ _ ⟨rfl, rfl⟩
    refine i_not ?_
    refine i_i (fun h2 => ?_) (fun h2 => ?_)
    · simp only [Bool.and_eq_true, decide_eq_true_eq] at h2
      refine g_cv ?_
      refine ⟨?_, rfl⟩
      rw [if_pos h2.2]
      congr 3
      rw [IntKind.wrap_i32]; omega
    · refine ⟨?_, rfl⟩
      have hnv : ¬ vRune v = true := by
        intro hv2
        rw [hv2, Bool.and_true] at h2
        have h3 := of_decide_eq_false h2
        simp only [vRune, decide_eq_true_eq] at hv2
        omega
      rw [if_neg hnv]
  · intro j hj
    refine gP_i (v := .bool false) rfl ?_
    refine d_f ?_
    refine i_F rfl ?_
    refine g_upto (by omega) ?_
    rw [Int.toNat_natCast]
    refine c_eq hq ?_
    refine d_f ?_
    refine i_F (by rw [Lib.containsAny, hany]; rfl) ?_
    refine Stp.go ?_
    refine d_f ?_
    refine i_c (fun h2 => ?_) (fun h2 => ?_)
    · refine hj _ _ ⟨?_, rfl⟩
      rw [decide_eq_false (by omega)]; rfl
    · refine g_cv ?_
      have hw : IntKind.i32.wrap (v : Int) = v := by rw [IntKind.wrap_i32]; omega
      rw [hw]
      refine c_eq (validRune_ok hT _ _) ?_
      refine Stp.go ?_
      refine hj _ _ ⟨?_, rfl⟩
      rw [decide_eq_true (by omega), Bool.true_and]

/-! ### What stands behind a backslash -/
def manyS (a : UInt8) : Nat := if a = 85 then 8 else if a = 117 then 4 else if a = 120 then 2 else 0
def escS (s : List UInt8) : Option (Int × Nat) := match s with
  | [] => none
  | a :: l => if manyS a ≠ 0 then (numS l (manyS a)).map fun r => (r, 1 + manyS a) else if a = 47 then some (47, 1) else (meansS a).map fun r => (r, 1)
theorem escape_ok (hT : Has T) (hK : Knows T) (hQ : KnowsT T) (hE : KnowsE T) (s : List UInt8) (hs : s.length < 2 ^ 40) (H : AH) :
    ∃ v H', Den.of T 27 [.str s] H = some (v, H') ∧ (match escS s with
      | some (r, k) => v = .tup [.int .i32 r, .int .i64 (k : Nat), .bool true]
      | none => ∃ a b, v = .tup [a, b, .bool false]) ∧ Grow H H' := by
  refine w27_ok hT ?_
  unfold w27
  cases s with
  | nil =>
    refine Stp.go ?_
    refine i_T rfl ?_
    exact ⟨⟨_, _, rfl⟩, .refl _⟩
  | cons a l =>
    have ea : ∀ b : UInt8, ((a.toNat : Int) = (b.toNat : Int)) ↔ a = b := fun b => ⟨fun e => UInt8.toNat_inj.1 (by omega), fun e => by rw [e]⟩
    have e85 : ((a.toNat : Int) = 85) ↔ a = 85 := ea 85
    have e117 : ((a.toNat : Int) = 117) ↔ a = 117 := ea 117
    have e120 : ((a.toNat : Int) = 120) ↔ a = 120 := ea 120
    have e47 : ((a.toNat : Int) = 47) ↔ a = 47 := ea 47
    refine Stp.go ?_
    refine i_F rfl ?_
    refine j1 (fun x H' => ∃ m : Nat, x = .int .i64 m ∧ manyS a = m ∧ m ≠ 0 ∧ m ≤ 8 ∧ H = H') ?_ ?_
    · rintro _ _ ⟨m, rfl, hma, hm0, hm8, rfl⟩
      refine g_from (by simp; omega) ?_
      have hd : (a :: l).drop (1 : Int).toNat = l := rfl
      rw [hd]
      refine c_eq (number_ok hT hQ hE l m (by omega) (by simp at hs; omega) H) ?_
      have hE : escS (a :: l) = (numS l m).map fun r => (r, 1 + m) := by rw [escS, if_pos (by rw [hma]; exact hm0), hma]
      rw [hE]
      cases hn : numS l m with
      | none =>
        rw [numR, hn]
        refine g_ext0 ?_
        refine g_ext1 ?_
        refine g_add64 (by omega) ?_
        exact ⟨⟨_, _, rfl⟩, .refl _⟩
      | some r =>
        rw [numR, hn]
        refine g_ext0 ?_
        refine g_ext1 ?_
        refine g_add64 (by omega) ?_
        refine ⟨?_, .refl _⟩
        simp only [Option.map_some]
        congr 4
    intro j hj
    refine g_byte (b := a) (by decide) rfl ?_
    refine j1 (fun x H' => ((x = .int .i64 0 ∧ a = 120) ∨ (x = .int .i64 2 ∧ a = 117) ∨ (x = .int .i64 6 ∧ a = 85)) ∧ H = H') ?_ ?_
    · rintro x _ ⟨hx, rfl⟩
      rcases hx with ⟨rfl, rfl⟩ | ⟨rfl, rfl⟩ | ⟨rfl, rfl⟩ <;> refine g_add64 (by decide) ?_
      · exact hj _ _ ⟨2, rfl, rfl, by decide, by decide, rfl⟩
      · exact hj _ _ ⟨4, rfl, rfl, by decide, by decide, rfl⟩
      · exact hj _ _ ⟨8, rfl, rfl, by decide, by decide, rfl⟩
    intro j2 hj2
    refine j1 (fun x H' => ((x = .int .i64 0 ∧ a = 117) ∨ (x = .int .i64 4 ∧ a = 85)) ∧ H = H') ?_ ?_
    · rintro x _ ⟨hx, rfl⟩
      rcases hx with ⟨rfl, rfl⟩ | ⟨rfl, rfl⟩ <;> refine g_add64 (by decide) ?_
      · exact hj2 _ _ ⟨.inr (.inl ⟨rfl, rfl⟩), rfl⟩
      · exact hj2 _ _ ⟨.inr (.inr ⟨rfl, rfl⟩), rfl⟩
    intro j3 hj3
    refine Stp.go ?_
    refine i_c (fun h => ?_) (fun h => ?_)
    · refine g_add64 (by decide) ?_
      exact hj3 _ _ ⟨.inr ⟨rfl, e85.1 h⟩, rfl⟩
    refine Stp.go ?_
    refine i_c (fun h2 => ?_) (fun h2 => ?_)
    · exact hj3 _ _ ⟨.inl ⟨rfl, e117.1 h2⟩, rfl⟩
    refine Stp.go ?_
    refine i_c (fun h3 => ?_) (fun h3 => ?_)
    · exact hj2 _ _ ⟨.inl ⟨rfl, e120.1 h3⟩, rfl⟩
    have hm : ¬ manyS a ≠ 0 := by
      rw [manyS, if_neg fun e => h (e85.2 e), if_neg fun e => h2 (e117.2 e), if_neg fun e => h3 (e120.2 e)]
      simp
    refine Stp.go ?_
    refine i_c (fun h4 => ?_) (fun h4 => ?_)
    · refine ⟨?_, .refl _⟩
      rw [escS, if_neg hm, if_pos (e47.1 h4)]
      rfl
    · refine g_byte (b := a) (by decide) rfl ?_
      refine c_gr (means_ok hT hK a H) fun H' gH => ?_
      rw [escS, if_neg hm, if_neg fun e => h4 (e47.2 e)]
      cases hn : meansS a with
      | none =>
        rw [meansR, hn]
        refine g_ext0 ?_
        refine g_ext1 ?_
        exact ⟨⟨_, _, rfl⟩, gH⟩
      | some r =>
        rw [meansR, hn]
        refine g_ext0 ?_
        refine g_ext1 ?_
        exact ⟨rfl, gH⟩

/-! ### The whole -/
/-- The text that stands between the quotes. -/
def unqF : Nat → List UInt8 → Option (List UInt8)
  | _, [] => some []
  | 0, _ => none
  | n + 1, a :: l => if a = 34 ∨ a = 10 then none
    else if a = 92 then (escS l).bind fun p => (unqF n (l.drop p.2)).map (Lib.encodeRune p.1 ++ ·)
    else (unqF n l).map (a :: ·)
def unqOk (s : List UInt8) : Bool := Lib.validD s && (decide (2 ≤ s.length) && (decide (s[0]? = some 34) && decide (s[s.length - 1]? = some 34)))
def inner (s : List UInt8) : List UInt8 := (s.take (s.length - 1)).drop 1
def unqS (s : List UInt8) : Option (List UInt8) := if unqOk s then unqF s.length (inner s) else none
def unqR (s : List UInt8) : AV := match unqS s with
  | some t => .tup [.str t, .int .i64 0]
  | none => .tup [.str [], .int .i64 10]

theorem numS_valid {s : List UInt8} {m : Nat} {r : Int} (h : numS s m = some r) : vRune r = true ∧ m ≤ s.length := by
  unfold numS at h
  split at h
  · cases h
  split at h
  · split at h
    · rename_i h1 _ h2
      simp only [Option.some.injEq] at h
      subst h
      exact ⟨h2, by omega⟩
    · cases h
  · cases h
theorem meant_valid : meant.all vRune = true := by decide
theorem escS_valid {s : List UInt8} {r : Int} {k : Nat} (h : escS s = some (r, k)) : vRune r = true ∧ 1 ≤ k ∧ k ≤ s.length := by
  cases s with
  | nil => cases h
  | cons a l =>
    rw [escS] at h
    split at h
    · cases hn : numS l (manyS a) with
      | none => rw [hn] at h; cases h
      | some r' =>
        rw [hn] at h
        simp only [Option.map_some, Option.some.injEq, Prod.mk.injEq] at h
        obtain ⟨rfl, rfl⟩ := h
        obtain ⟨h1, h2⟩ := numS_valid hn
        exact ⟨h1, by omega, by simp; omega⟩
    · split at h
      · simp only [Option.some.injEq, Prod.mk.injEq] at h
        obtain ⟨rfl, rfl⟩ := h
        exact ⟨by decide, by decide, by simp⟩
      · cases hn : meansS a with
        | none => rw [hn] at h; cases h
        | some r' =>
          rw [hn] at h
          simp only [Option.map_some, Option.some.injEq, Prod.mk.injEq] at h
          obtain ⟨rfl, rfl⟩ := h
          unfold meansS at hn
          split at hn
          · exact ⟨List.all_eq_true.1 meant_valid _ (List.mem_of_getElem? hn), by decide, by simp⟩
          · cases hn

end Go.SV
