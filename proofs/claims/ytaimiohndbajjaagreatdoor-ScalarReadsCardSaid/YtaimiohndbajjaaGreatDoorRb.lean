/- Contracts: the document's characters of bytes. Own text of the prover; nothing is assumed. -/
import Derived.Test.YtaimiohndbajjaaGreatDoorQa
import Derived.Test.YtaimiohndbajjaaGreatDoorLe
import Derived.Lib.QuoteLoop
set_option maxRecDepth 100000
namespace Go.SV

variable {T : Nat → Option Entry}

def IsU (x : AV) (b : UInt8) : Prop := x = u8v b
theorem rowU (t : Nat) (l : List UInt8) : RowOf 1 IsU (.sl t 1 (l.map u8v)) l := .inr ⟨t, _, rfl, F2.map u8v (fun _ => rfl) l⟩
theorem rowI (t : Nat) (l : List Int) : RowOf 1 IsI (.sl t 1 (l.map (AV.int .i64))) l := .inr ⟨t, _, rfl, F2.map (AV.int .i64) (fun _ => rfl) l⟩
theorem g_atU {v : AV} {l : List UInt8} {κ : IntKind} {n : Int} {y : UInt8} {k : AV → Prop} (h : RowOf 1 IsU v l) (h0 : 0 ≤ n) (hy : l[n.toNat]? = some y) (hk : k (.vp [.int .u8 y.toNat])) : gP (aIdxAddr 1 v (.int κ n)) k :=
  g_at h h0 hy fun x hx => by rw [hx]; exact hk

/-! ### The code of bytes -/
def fitsB : List UInt8 → List Int → Bool
  | _, [] => true
  | [], _ :: _ => false
  | a :: l, r :: rs => !(((r == 256) && ((a.toNat : Int) == 0)) || (decide (r < 256) && !((a.toNat : Int) == r))) && fitsB l rs

theorem fitsB_len : ∀ (row : List Int) (b : List UInt8), b.length < row.length → fitsB b row = false := by
  intro row
  induction row with
  | nil => intro b h; simp at h
  | cons r rs ih =>
    intro b h
    cases b with
    | nil => rfl
    | cons a l => rw [fitsB, ih l (by simpa using h), Bool.and_false]

theorem rfits_ok (hT : Has T) {v w : AV} {b : List UInt8} {row : List Int} (hv : RowOf 1 IsU v b) (hw : RowOf 1 IsI w row) (hb : b.length < 2 ^ 60) (hr : row.length < 2 ^ 60) (H : AH) :
    Den.of T 81 [v, w] H = some (.bool (fitsB b row), H) := by
  refine eq_of (w81_ok hT ?_)
  unfold w81
  refine g_lenW hv ?_
  refine g_lenW hw ?_
  refine Stp.go ?_
  refine i_c (fun h => ?_) (fun h => ?_)
  · exact ⟨by rw [fitsB_len row b (by omega)], rfl⟩
  refine l1 (fun m x H' => ∃ i : Nat, x = .int .i64 i ∧ i ≤ row.length ∧ H = H' ∧ fitsB b row = fitsB (b.drop i) (row.drop i) ∧ m = row.length - i) row.length ⟨0, rfl, Nat.zero_le _, rfl, rfl, rfl⟩ ?_
  rintro m _ _ ⟨i, rfl, hi, rfl, he, hm⟩
  refine g_lenW hw ?_
  refine Stp.go ?_
  refine i_c (fun h2 => ?_) (fun h2 => ?_)
  rotate_left
  · rw [List.drop_eq_nil_of_le (show row.length ≤ i by omega)] at he
    exact ⟨by rw [he, fitsB], rfl⟩
  have hi1 : i < row.length := by omega
  have hi2 : i < b.length := by omega
  have hg1 := List.getElem?_eq_getElem hi1
  have hg2 := List.getElem?_eq_getElem hi2
  rw [List.drop_eq_getElem_cons hi1, List.drop_eq_getElem_cons hi2, fitsB] at he
  generalize row[i] = r at *
  generalize b[i] = a at *
  refine j1 (fun x H' => x = .bool (((r == 256) && ((a.toNat : Int) == 0)) || (decide (r < 256) && !((a.toNat : Int) == r))) ∧ H = H') ?_ ?_
  · rintro _ _ ⟨rfl, rfl⟩
    refine i_i (fun h3 => ?_) (fun h3 => ?_)
    · exact ⟨by rw [he, h3]; rfl, rfl⟩
    · rw [h3, Bool.not_false, Bool.true_and] at he
      refine g_add64 (by omega) ?_
      exact ⟨row.length - (i + 1), by omega, i + 1, by congr 1, by omega, rfl, he, rfl⟩
  · intro j hj
    have low : (if r = 256 then ((a.toNat : Int) == 0) = false else True) → gP (aIdxAddr 1 w (.int .i64 (i : Int))) fun x32 => gP (aLoad none x32 H) fun x33 => gP (aBin .lss x33 (.int .i64 256)) fun x34 =>
        dP x34 true (gP (aIdxAddr 1 v (.int .i64 (i : Int))) fun x38 => gP (aLoad none x38 H) fun x39 => gP (aCv .i64 x39) fun x40 => gP (aIdxAddr 1 w (.int .i64 (i : Int))) fun x43 => gP (aLoad none x43 H) fun x44 => gP (aBin .neq x40 x44) fun x45 => j x45 H) (j (.bool false) H) := by
      intro h0
      have hf : ((r == 256) && ((a.toNat : Int) == 0)) = false := by
        by_cases h1 : r = 256
        · rw [if_pos h1] at h0; rw [h0, Bool.and_false]
        · rw [beq_eq_false_iff_ne.2 h1, Bool.false_and]
      refine g_atIn hw hg1 ?_
      refine g_ldv ?_
      refine Stp.go ?_
      refine d_t ?_
      refine i_c (fun h3 => ?_) (fun h3 => ?_)
      · refine g_atU hv (by omega) (by rw [Int.toNat_natCast]; exact hg2) ?_
        refine g_ldv ?_
        refine g_cv64 (by have := a.toNat_lt; omega) ?_
        refine g_atIn hw hg1 ?_
        refine g_ldv ?_
        refine Stp.go ?_
        refine hj _ _ ⟨?_, rfl⟩
        rw [hf, decide_eq_true h3, Bool.false_or, Bool.true_and]
      · refine hj _ _ ⟨?_, rfl⟩
        rw [hf, decide_eq_false h3]; rfl
    refine g_atIn hw hg1 ?_
    refine g_ldv ?_
    refine Stp.go ?_
    refine d_t ?_
    refine i_c (fun h3 => ?_) (fun h3 => ?_)
    · refine g_atU hv (by omega) (by rw [Int.toNat_natCast]; exact hg2) ?_
      refine g_ldv ?_
      refine Stp.go ?_
      refine d_f ?_
      refine i_i (fun h4 => ?_) (fun h4 => ?_)
      · refine hj _ _ ⟨?_, rfl⟩
        rw [h4, h3]; rfl
      · exact low (by rw [if_pos h3]; exact h4)
    · exact low (by rw [if_neg h3]; trivial)

theorem rdetect_ok (hT : Has T) {v : AV} {s : List UInt8} (hv : RowOf 1 IsU v (239 :: 187 :: 191 :: s)) (hs : s.length < 2 ^ 59) (H : AH) :
    Den.of T 66 [v] H = some (.tup [.int .i64 0, .int .i64 3], H) := by
  refine eq_of (w66_ok hT ?_)
  unfold w66
  have hl : (239 :: 187 :: 191 :: s : List UInt8).length < 2 ^ 60 := by simp only [List.length_cons]; omega
  have no : ∀ {row : List Int} {A B : Prop}, fitsB (239 :: 187 :: 191 :: s) row = false → B → iP (.bool (fitsB (239 :: 187 :: 191 :: s) row)) A B := fun h hb => i_F h hb
  refine s_lit rfl ?_
  refine c_eq (rfits_ok hT hv (rowI 0 [0, 0, 254, 255]) hl (by decide) H) ?_
  refine no (by rfl) ?_
  refine s_lit rfl ?_
  refine c_eq (rfits_ok hT hv (rowI 0 [0, 0, 0, 256]) hl (by decide) H) ?_
  refine no (by rfl) ?_
  refine s_lit rfl ?_
  refine c_eq (rfits_ok hT hv (rowI 0 [255, 254, 0, 0]) hl (by decide) H) ?_
  refine no (by rfl) ?_
  refine s_lit rfl ?_
  refine c_eq (rfits_ok hT hv (rowI 0 [256, 0, 0, 0]) hl (by decide) H) ?_
  refine no (by rfl) ?_
  refine s_lit rfl ?_
  refine c_eq (rfits_ok hT hv (rowI 0 [254, 255]) hl (by decide) H) ?_
  refine no (by rfl) ?_
  refine s_lit rfl ?_
  refine c_eq (rfits_ok hT hv (rowI 0 [0, 256]) hl (by decide) H) ?_
  refine no (by rfl) ?_
  refine s_lit rfl ?_
  refine c_eq (rfits_ok hT hv (rowI 0 [255, 254]) hl (by decide) H) ?_
  refine no (by rfl) ?_
  refine s_lit rfl ?_
  refine c_eq (rfits_ok hT hv (rowI 0 [256, 0]) hl (by decide) H) ?_
  refine no (by rfl) ?_
  refine s_lit rfl ?_
  refine c_eq (rfits_ok hT hv (rowI 0 [239, 187, 191]) hl (by decide) H) ?_
  refine i_T (by cases s <;> rfl) ?_
  exact ⟨rfl, rfl⟩

/-! ### One character -/
theorem rchar_ok (hT : Has T) (r : Int) (H : AH) : Den.of T 46 [.int .i64 r] H = some (.bool (vRune r), H) := by
  refine eq_of (w46_ok hT ?_)
  unfold w46
  have fin : ∀ b : Bool, (b = true ↔ (0 ≤ r ∧ r < 55296 ∨ 57343 < r ∧ r ≤ 1114111)) → AV.bool b = .bool (vRune r) := by
    intro b hb
    congr 1
    rw [Bool.eq_iff_iff, hb, vRune, decide_eq_true_iff]
  refine Stp.go ?_
  refine d_t ?_
  refine i_c (fun h1 => ?_) (fun h1 => ?_)
  rotate_left
  · exact ⟨fin _ ⟨fun e => (by cases e), fun e => by omega⟩, rfl⟩
  refine Stp.go ?_
  refine d_t ?_
  refine i_c (fun h2 => ?_) (fun h2 => ?_)
  rotate_left
  · exact ⟨fin _ ⟨fun e => (by cases e), fun e => by omega⟩, rfl⟩
  refine Stp.go ?_
  refine d_f ?_
  refine i_c (fun h3 => ?_) (fun h3 => ?_)
  · exact ⟨fin _ ⟨fun e => by omega, fun e => rfl⟩, rfl⟩
  · refine Stp.go ?_
    exact ⟨fin _ (by rw [decide_eq_true_iff]; omega), rfl⟩

def leadS (c : Nat) : Nat × Nat := if c < 128 then (1, c) else if 192 ≤ c ∧ c < 224 then (2, c - 192) else if 224 ≤ c ∧ c < 240 then (3, c - 224) else if 240 ≤ c ∧ c < 248 then (4, c - 240) else (0, 0)
theorem rlead_ok (hT : Has T) (c : Nat) (hc : c < 256) (H : AH) : Den.of T 82 [.int .i64 c] H = some (.tup [.int .i64 (leadS c).1, .int .i64 (leadS c).2], H) := by
  refine eq_of (w82_ok hT ?_)
  unfold w82
  have two : ∀ {lo hi : Nat} {x : AV → AH → Prop}, (∀ t : Bool, t = decide (lo ≤ c ∧ c < hi) → x (.bool t) H) → gP (aBin .geq (.int .i64 (c : Int)) (.int .i64 (lo : Int))) fun y => dP y true (gP (aBin .lss (.int .i64 (c : Int)) (.int .i64 (hi : Int))) fun z => x z H) (x (.bool false) H) := by
    intro lo hi x h
    refine Stp.go ?_
    refine d_t ?_
    refine i_c (fun h1 => ?_) (fun h1 => ?_)
    · refine Stp.go ?_
      refine h _ ?_
      rw [Bool.eq_iff_iff, decide_eq_true_iff, decide_eq_true_iff]
      omega
    · refine h _ ?_
      symm
      rw [decide_eq_false_iff_not]
      omega
  refine Stp.go ?_
  refine i_c (fun h => ?_) (fun h => ?_)
  · refine ⟨?_, rfl⟩
    rw [leadS, if_pos (by omega)]; rfl
  refine j1 (fun x H' => x = .bool (decide (192 ≤ c ∧ c < 224)) ∧ H = H') ?_ (fun j hj => two (lo := 192) (hi := 224) fun t ht => hj _ _ ⟨by rw [ht], rfl⟩)
  rintro _ _ ⟨rfl, rfl⟩
  refine i_c (fun h2 => ?_) (fun h2 => ?_)
  · refine g_sub64 (by omega) ?_
    refine ⟨?_, rfl⟩
    rw [leadS, if_neg (by omega), if_pos h2]
    congr 3
    simp only
    congr 1
    omega
  refine j1 (fun x H' => x = .bool (decide (224 ≤ c ∧ c < 240)) ∧ H = H') ?_ (fun j hj => two (lo := 224) (hi := 240) fun t ht => hj _ _ ⟨by rw [ht], rfl⟩)
  rintro _ _ ⟨rfl, rfl⟩
  refine i_c (fun h3 => ?_) (fun h3 => ?_)
  · refine g_sub64 (by omega) ?_
    refine ⟨?_, rfl⟩
    rw [leadS, if_neg (by omega), if_neg h2, if_pos h3]
    congr 3
    simp only
    congr 1
    omega
  refine j1 (fun x H' => x = .bool (decide (240 ≤ c ∧ c < 248)) ∧ H = H') ?_ (fun j hj => two (lo := 240) (hi := 248) fun t ht => hj _ _ ⟨by rw [ht], rfl⟩)
  rintro _ _ ⟨rfl, rfl⟩
  refine i_c (fun h4 => ?_) (fun h4 => ?_)
  · refine g_sub64 (by omega) ?_
    refine ⟨?_, rfl⟩
    rw [leadS, if_neg (by omega), if_neg h2, if_neg h3, if_pos h4]
    congr 3
    simp only
    congr 1
    omega
  · refine ⟨?_, rfl⟩
    rw [leadS, if_neg (by omega), if_neg h2, if_neg h3, if_neg h4]; rfl

def encL (r : Int) : Nat := if r < 128 then 1 else if r < 2048 then 2 else if r < 65536 then 3 else 4
theorem rbytes_ok (hT : Has T) (r : Int) (H : AH) : ∃ v H', Den.of T 47 [.int .i64 r] H = some (v, H') ∧ (∃ t xs, v = .sl t 1 xs ∧ xs.length = encL r) ∧ H = H' := by
  refine w47_ok hT ?_
  unfold w47
  refine Stp.go ?_
  refine i_c (fun h => ?_) (fun h => ?_)
  · refine g_cv ?_
    refine s_lit rfl ?_
    exact ⟨⟨0, _, rfl, by rw [encL, if_pos h]; rfl⟩, rfl⟩
  refine Stp.go ?_
  refine i_c (fun h2 => ?_) (fun h2 => ?_)
  · refine g_quo (by decide) ?_
    refine g_add ?_
    refine g_cv ?_
    refine g_rem (by decide) ?_
    refine g_add ?_
    refine g_cv ?_
    refine s_lit rfl ?_
    exact ⟨⟨0, _, rfl, by rw [encL, if_neg h, if_pos h2]; rfl⟩, rfl⟩
  refine Stp.go ?_
  refine i_c (fun h3 => ?_) (fun h3 => ?_)
  · refine g_quo (by decide) ?_
    refine g_add ?_
    refine g_cv ?_
    refine g_quo (by decide) ?_
    refine g_rem (by decide) ?_
    refine g_add ?_
    refine g_cv ?_
    refine g_rem (by decide) ?_
    refine g_add ?_
    refine g_cv ?_
    refine s_lit rfl ?_
    exact ⟨⟨0, _, rfl, by rw [encL, if_neg h, if_neg h2, if_pos h3]; rfl⟩, rfl⟩
  · refine g_quo (by decide) ?_
    refine g_add ?_
    refine g_cv ?_
    refine g_quo (by decide) ?_
    refine g_rem (by decide) ?_
    refine g_add ?_
    refine g_cv ?_
    refine g_quo (by decide) ?_
    refine g_rem (by decide) ?_
    refine g_add ?_
    refine g_cv ?_
    refine g_rem (by decide) ?_
    refine g_add ?_
    refine g_cv ?_
    refine s_lit rfl ?_
    exact ⟨⟨0, _, rfl, by rw [encL, if_neg h, if_neg h2, if_neg h3]; rfl⟩, rfl⟩

/-- The bytes behind the first one. -/
def contS (r : Nat) : List UInt8 → Option Nat
  | [] => some r
  | c :: l => if c.toNat < 128 ∨ 191 < c.toNat then none else contS (r * 64 + c.toNat - 128) l
/-- The first character of a text, and how many bytes it has. -/
def spS (l : List UInt8) : Option (Nat × Nat) := match l with
  | [] => none
  | a :: t => if (leadS a.toNat).1 = 0 ∨ (a :: t).length < (leadS a.toNat).1 then none
    else (contS (leadS a.toNat).2 (t.take ((leadS a.toNat).1 - 1))).bind fun r => if vRune r = true ∧ encL r = (leadS a.toNat).1 then some (r, (leadS a.toNat).1) else none

end Go.SV
