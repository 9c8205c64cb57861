/- Contracts: tags of texts. Own text of the prover; nothing is assumed. -/
import Derived.Test.YtkbkhdgjdikjiaaGreatDoorWp
import Derived.Test.YtkbkhdgjdikjiaaGreatDoorLe
set_option maxRecDepth 100000
namespace Go.SV

variable {T : Nat → Option Entry}

theorem u8i (a : UInt8) (n : Nat) (h : n < 256) : ((a.toNat : Int) = (n : Int)) ↔ a = UInt8.ofNat n := by
  constructor
  · intro h1
    apply UInt8.toNat_inj.1
    have : a.toNat = n := by omega
    rw [this]; simp; omega
  · rintro rfl; simp; omega

theorem unless_ok (hT : Has T) (a b : List UInt8) (H : AH) :
    Den.of T 52 [.str a, .str b] H = some (.str (if a = b then [] else a), H) := by
  refine eq_of (w52_ok hT ?_)
  unfold w52
  (repeat' (first | (first | (with_reducible first | refine Stp.go ?_ | (refine i_cT ?_ ?_; · first | assumption | decide | exact rfl) | (refine i_cF ?_ ?_; · first | assumption | decide | exact rfl) | (refine i_T ?_ ?_; · first | assumption | exact rfl) | (refine i_F ?_ ?_; · first | assumption | exact rfl) | (refine Sts.go ?_ ?_; · first | omega | decide) | refine Stu.go ?_) | refine j_i ?_) | (with_reducible first | refine i_c (fun h => ?_) (fun h => ?_) | refine i_i (fun h => ?_) (fun h => ?_))))
  · rw [if_pos h]; exact ⟨rfl, rfl⟩
  · rw [if_neg h]; exact ⟨rfl, rfl⟩

def sign (s : List UInt8) : List UInt8 := match s with
  | [] => []
  | a :: l => if a = 43 ∨ a = 45 then l else a :: l

theorem sign_ok (hT : Has T) (s : List UInt8) (H : AH) :
    Den.of T 91 [.str s] H = some (.str (sign s), H) := by
  refine eq_of (w91_ok hT ?_)
  unfold w91
  cases s with
  | nil => (repeat' (first | (first | (with_reducible first | refine Stp.go ?_ | (refine i_cT ?_ ?_; · first | assumption | decide | exact rfl) | (refine i_cF ?_ ?_; · first | assumption | decide | exact rfl) | (refine i_T ?_ ?_; · first | assumption | exact rfl) | (refine i_F ?_ ?_; · first | assumption | exact rfl) | (refine Sts.go ?_ ?_; · first | omega | decide) | refine Stu.go ?_) | refine j_i ?_) | (with_reducible first | refine i_c (fun h => ?_) (fun h => ?_) | refine i_i (fun h => ?_) (fun h => ?_)))); exact ⟨rfl, rfl⟩
  | cons a l =>
    have hne : a :: l ≠ [] := nofun
    (repeat' (first | (first | (with_reducible first | refine Stp.go ?_ | (refine i_cT ?_ ?_; · first | assumption | decide | exact rfl) | (refine i_cF ?_ ?_; · first | assumption | decide | exact rfl) | (refine i_T ?_ ?_; · first | assumption | exact rfl) | (refine i_F ?_ ?_; · first | assumption | exact rfl) | (refine Sts.go ?_ ?_; · first | omega | decide) | refine Stu.go ?_) | refine j_i ?_) | (with_reducible first | refine i_c (fun h => ?_) (fun h => ?_) | refine i_i (fun h => ?_) (fun h => ?_))))
    refine g_byte (b := a) (by decide) rfl ?_
    have e1 : (a.toNat : Int) = 43 ↔ a = 43 := u8i a 43 (by decide)
    have e2 : (a.toNat : Int) = 45 ↔ a = 45 := u8i a 45 (by decide)
    (repeat' (first | (first | (with_reducible first | refine Stp.go ?_ | (refine i_cT ?_ ?_; · first | assumption | decide | exact rfl) | (refine i_cF ?_ ?_; · first | assumption | decide | exact rfl) | (refine i_T ?_ ?_; · first | assumption | exact rfl) | (refine i_F ?_ ?_; · first | assumption | exact rfl) | (refine Sts.go ?_ ?_; · first | omega | decide) | refine Stu.go ?_) | refine j_i ?_) | (with_reducible first | refine i_c (fun h => ?_) (fun h => ?_) | refine i_i (fun h => ?_) (fun h => ?_))))
    · refine g_from (by simp; omega) ?_
      exact ⟨by rw [sign, if_pos (.inl (e1.1 h))]; rfl, rfl⟩
    · refine g_byte (b := a) (by decide) rfl ?_
      (repeat' (first | (first | (with_reducible first | refine Stp.go ?_ | (refine i_cT ?_ ?_; · first | assumption | decide | exact rfl) | (refine i_cF ?_ ?_; · first | assumption | decide | exact rfl) | (refine i_T ?_ ?_; · first | assumption | exact rfl) | (refine i_F ?_ ?_; · first | assumption | exact rfl) | (refine Sts.go ?_ ?_; · first | omega | decide) | refine Stu.go ?_) | refine j_i ?_) | (with_reducible first | refine i_c (fun h => ?_) (fun h => ?_) | refine i_i (fun h => ?_) (fun h => ?_))))
      · refine g_from (by simp; omega) ?_
        exact ⟨by rw [sign, if_pos (.inr (e2.1 (by assumption)))]; rfl, rfl⟩
      · rename_i h1
        exact ⟨by rw [sign, if_neg (by rw [← e1, ← e2]; exact fun e => e.elim h1 h)], rfl⟩

def dval (n : Nat) : Nat := if 97 ≤ n ∧ n ≤ 102 then n - 87 else if 65 ≤ n ∧ n ≤ 70 then n - 55 else if 48 ≤ n ∧ n ≤ 57 then n - 48 else 16

theorem value_ok (hT : Has T) (a : UInt8) (H : AH) :
    Den.of T 152 [.int .u8 a.toNat] H = some (.int .i64 (dval a.toNat), H) := by
  refine eq_of (w152_ok hT ?_)
  unfold w152
  have hb : a.toNat < 256 := a.toNat_lt
  generalize a.toNat = n at *
  (repeat' (first | (first | (with_reducible first | refine Stp.go ?_ | (refine i_cT ?_ ?_; · first | assumption | decide | exact rfl) | (refine i_cF ?_ ?_; · first | assumption | decide | exact rfl) | (refine i_T ?_ ?_; · first | assumption | exact rfl) | (refine i_F ?_ ?_; · first | assumption | exact rfl) | (refine Sts.go ?_ ?_; · first | omega | decide) | refine Stu.go ?_) | refine j_i ?_) | (with_reducible first | refine i_c (fun h => ?_) (fun h => ?_) | refine i_i (fun h => ?_) (fun h => ?_))))
  all_goals refine ⟨?_, rfl⟩
  all_goals congr 1
  all_goals unfold dval
  all_goals split <;> (try split) <;> (try split) <;> omega

def dcount (base : Nat) (s : List UInt8) : Nat := (s.takeWhile fun c => decide (dval c.toNat < base)).length

theorem dcount_le (base : Nat) (s : List UInt8) : dcount base s ≤ s.length := by
  unfold dcount
  exact (List.takeWhile_prefix _).length_le

theorem digits_ok (hT : Has T) (s : List UInt8) (base : Nat) (hs : s.length < 2 ^ 60) (H : AH) :
    Den.of T 128 [.str s, .int .i64 base] H = some (.tup [.str (s.drop (dcount base s)), .int .i64 (dcount base s)], H) := by
  refine eq_of (w128_ok hT ?_)
  unfold w128
  refine l1 (fun n x H' => ∃ i : Nat, x = .int .i64 i ∧ H' = H ∧ i ≤ dcount base s ∧ dcount base s = i + dcount base (s.drop i) ∧ n = s.length - i) s.length ⟨0, rfl, rfl, by omega, by simp, rfl⟩ ?_
  rintro n _ _ ⟨i, rfl, rfl, hi, hd, hn⟩
  have hle := dcount_le base s
  (repeat' (first | (first | (with_reducible first | refine Stp.go ?_ | (refine i_cT ?_ ?_; · first | assumption | decide | exact rfl) | (refine i_cF ?_ ?_; · first | assumption | decide | exact rfl) | (refine i_T ?_ ?_; · first | assumption | exact rfl) | (refine i_F ?_ ?_; · first | assumption | exact rfl) | (refine Sts.go ?_ ?_; · first | omega | decide) | refine Stu.go ?_) | refine j_i ?_) | (with_reducible first | refine i_c (fun h => ?_) (fun h => ?_) | refine i_i (fun h => ?_) (fun h => ?_))))
  · have hlt : i < s.length := by omega
    have hdr : s.drop i = s[i] :: s.drop (i + 1) := List.drop_eq_getElem_cons hlt
    rw [hdr] at hd
    refine g_byte (b := s[i]) (by omega) (by simp [hlt]) ?_
    (repeat' (first | (first | (with_reducible first | refine Stp.go ?_ | (refine i_cT ?_ ?_; · first | assumption | decide | exact rfl) | (refine i_cF ?_ ?_; · first | assumption | decide | exact rfl) | (refine i_T ?_ ?_; · first | assumption | exact rfl) | (refine i_F ?_ ?_; · first | assumption | exact rfl) | (refine Sts.go ?_ ?_; · first | omega | decide) | refine Stu.go ?_) | refine j_i ?_) | with_reducible refine c_eq (value_ok hT _ _) ?_ | (with_reducible first | refine i_c (fun h => ?_) (fun h => ?_) | refine i_i (fun h => ?_) (fun h => ?_))))
    · refine ⟨s.length - (i + 1), by omega, i + 1, by simp, rfl, ?_, ?_, rfl⟩
      · unfold dcount at hd ⊢
        rw [List.takeWhile_cons_of_pos (by simp; omega)] at hd
        simp at hd; omega
      · unfold dcount at hd ⊢
        rw [List.takeWhile_cons_of_pos (by simp; omega)] at hd
        simp at hd; omega
    · refine g_from (by omega) ?_
      have : dcount base s = i := by
        rw [hd]; unfold dcount
        rw [List.takeWhile_cons_of_neg (by simp; omega)]; simp
      exact ⟨by rw [this]; simp, rfl⟩
  · refine g_from (by omega) ?_
    have : dcount base s = i := by omega
    exact ⟨by rw [this]; simp, rfl⟩

def allD (base : Nat) (s : List UInt8) : Bool := decide (s.drop (dcount base s) = [] ∧ 0 < dcount base s)

theorem all_ok (hT : Has T) (s : List UInt8) (base : Nat) (hs : s.length < 2 ^ 60) (H : AH) :
    Den.of T 127 [.str s, .int .i64 base] H = some (.bool (allD base s), H) := by
  refine eq_of (w127_ok hT ?_)
  unfold w127
  (repeat' (first | (first | (with_reducible first | refine Stp.go ?_ | (refine i_cT ?_ ?_; · first | assumption | decide | exact rfl) | (refine i_cF ?_ ?_; · first | assumption | decide | exact rfl) | (refine i_T ?_ ?_; · first | assumption | exact rfl) | (refine i_F ?_ ?_; · first | assumption | exact rfl) | (refine Sts.go ?_ ?_; · first | omega | decide) | refine Stu.go ?_) | refine j_i ?_) | with_reducible refine c_eq (digits_ok hT _ _ hs _) ?_ | (with_reducible first | refine i_c (fun h => ?_) (fun h => ?_) | refine i_i (fun h => ?_) (fun h => ?_))))
  · refine ⟨?_, rfl⟩
    unfold allD
    congr 1
    simp [h]
  · refine ⟨?_, rfl⟩
    unfold allD
    congr 1
    simp [h]

def pre (p s : List UInt8) : Bool := s.take p.length == p
theorem hasPrefix_ok (hT : Has T) (s p : List UInt8) (H : AH) :
    Den.of T 167 [.str s, .str p] H = some (.bool (pre p s), H) := by
  refine eq_of (w167_ok hT ?_)
  unfold w167
  (repeat' (first | (first | (with_reducible first | refine Stp.go ?_ | (refine i_cT ?_ ?_; · first | assumption | decide | exact rfl) | (refine i_cF ?_ ?_; · first | assumption | decide | exact rfl) | (refine i_T ?_ ?_; · first | assumption | exact rfl) | (refine i_F ?_ ?_; · first | assumption | exact rfl) | (refine Sts.go ?_ ?_; · first | omega | decide) | refine Stu.go ?_) | refine j_i ?_) | (with_reducible first | refine i_c (fun h => ?_) (fun h => ?_) | refine i_i (fun h => ?_) (fun h => ?_))))
  · refine g_upto (by omega) ?_
    (repeat' (first | (first | (with_reducible first | refine Stp.go ?_ | (refine i_cT ?_ ?_; · first | assumption | decide | exact rfl) | (refine i_cF ?_ ?_; · first | assumption | decide | exact rfl) | (refine i_T ?_ ?_; · first | assumption | exact rfl) | (refine i_F ?_ ?_; · first | assumption | exact rfl) | (refine Sts.go ?_ ?_; · first | omega | decide) | refine Stu.go ?_) | refine j_i ?_) | (with_reducible first | refine i_c (fun h => ?_) (fun h => ?_) | refine i_i (fun h => ?_) (fun h => ?_))))
    exact ⟨by simp [pre], rfl⟩
  · refine ⟨?_, rfl⟩
    congr 1
    symm
    unfold pre
    rw [beq_eq_false_iff_ne]
    intro e
    have := congrArg List.length e
    rw [List.length_take] at this
    omega

def cut (p s : List UInt8) : List UInt8 := if pre p s then s.drop p.length else s
theorem cutPrefix_ok (hT : Has T) (s p : List UInt8) (H : AH) :
    Den.of T 126 [.str s, .str p] H = some (.tup [.str (cut p s), .bool (pre p s)], H) := by
  have h1 : Den.of T 151 [.str s, .str p] H = some (.tup [.str (cut p s), .bool (pre p s)], H) := by
    refine eq_of (w151_ok hT ?_)
    unfold w151
    (repeat' (first | (first | (with_reducible first | refine Stp.go ?_ | (refine i_cT ?_ ?_; · first | assumption | decide | exact rfl) | (refine i_cF ?_ ?_; · first | assumption | decide | exact rfl) | (refine i_T ?_ ?_; · first | assumption | exact rfl) | (refine i_F ?_ ?_; · first | assumption | exact rfl) | (refine Sts.go ?_ ?_; · first | omega | decide) | refine Stu.go ?_) | refine j_i ?_) | with_reducible refine c_eq (hasPrefix_ok hT _ _ _) ?_ | (with_reducible first | refine i_c (fun h => ?_) (fun h => ?_) | refine i_i (fun h => ?_) (fun h => ?_))))
    rotate_left
    · exact ⟨by rw [cut, h]; rfl, rfl⟩
    · have hl : p.length ≤ s.length := by
        have := congrArg List.length (beq_iff_eq.1 h)
        rw [List.length_take] at this
        omega
      refine g_from (by omega) ?_
      exact ⟨by rw [cut, h]; simp, rfl⟩
  refine eq_of (w126_ok hT ?_)
  unfold w126
  (repeat' (first | (first | (with_reducible first | refine Stp.go ?_ | (refine i_cT ?_ ?_; · first | assumption | decide | exact rfl) | (refine i_cF ?_ ?_; · first | assumption | decide | exact rfl) | (refine i_T ?_ ?_; · first | assumption | exact rfl) | (refine i_F ?_ ?_; · first | assumption | exact rfl) | (refine Sts.go ?_ ?_; · first | omega | decide) | refine Stu.go ?_) | refine j_i ?_) | with_reducible refine c_eq (h1) ?_ | (with_reducible first | refine i_c (fun h => ?_) (fun h => ?_) | refine i_i (fun h => ?_) (fun h => ?_))))
  exact ⟨rfl, rfl⟩

theorem cut_len (p s : List UInt8) : (cut p s).length ≤ s.length := by
  unfold cut; split <;> simp
theorem sign_len (s : List UInt8) : (sign s).length ≤ s.length := by
  unfold sign; split <;> (try split) <;> simp

def whole (s : List UInt8) : Bool := if pre [48, 111] s then allD 8 (cut [48, 111] s) else if pre [48, 120] s then allD 16 (cut [48, 120] s) else allD 10 (sign s)

theorem whole_ok (hT : Has T) (s : List UInt8) (hs : s.length < 2 ^ 60) (H : AH) :
    Den.of T 92 [.str s] H = some (.bool (whole s), H) := by
  refine eq_of (w92_ok hT ?_)
  unfold w92
  have l1 := cut_len [48, 111] s
  have l2 := cut_len [48, 120] s
  have l3 := sign_len s
  have a8 := fun H => all_ok hT (cut [48, 111] s) 8 (by omega) H
  have a16 := fun H => all_ok hT (cut [48, 120] s) 16 (by omega) H
  have a10 := fun H => all_ok hT (sign s) 10 (by omega) H
  (repeat' (first | (first | (with_reducible first | refine Stp.go ?_ | (refine i_cT ?_ ?_; · first | assumption | decide | exact rfl) | (refine i_cF ?_ ?_; · first | assumption | decide | exact rfl) | (refine i_T ?_ ?_; · first | assumption | exact rfl) | (refine i_F ?_ ?_; · first | assumption | exact rfl) | (refine Sts.go ?_ ?_; · first | omega | decide) | refine Stu.go ?_) | refine j_i ?_) | with_reducible refine c_eq (cutPrefix_ok hT _ _ _) ?_ | with_reducible refine c_eq (a8 _) ?_ | with_reducible refine c_eq (a16 _) ?_ | with_reducible refine c_eq (a10 _) ?_ | with_reducible refine c_eq (sign_ok hT _ _) ?_ | (with_reducible first | refine i_c (fun h => ?_) (fun h => ?_) | refine i_i (fun h => ?_) (fun h => ?_))))
  all_goals exact ⟨by unfold whole; simp [*], rfl⟩

end Go.SV
