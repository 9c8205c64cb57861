/- Contracts: numbers of digits of 16. Own text of the prover; nothing is assumed. -/
import Derived.Test.YtaimiohndbajjaaDoorQt
set_option maxRecDepth 100000
namespace Go.SV

variable {T : Nat → Option Entry}

/-- A digit's value; 99: it is none. -/
def hexV (n : Nat) : Nat := if 97 ≤ n ∧ n ≤ 102 then n - 87 else if 65 ≤ n ∧ n ≤ 70 then n - 55 else if 48 ≤ n ∧ n ≤ 57 then n - 48 else 99
def isHex (b : UInt8) : Bool := decide (hexV b.toNat < 16)
def hexN : Nat → List UInt8 → Nat
  | n, [] => n
  | n, a :: l => hexN (n * 16 + hexV a.toNat) l

def loS (n : Nat) : Int := bits .or .u8 n 32
theorem lo_all : (List.range 256).all (fun n => decide ((97 ≤ n ∧ n ≤ 102 ∨ 65 ≤ n ∧ n ≤ 70) → 97 ≤ loS n ∧ loS n ≤ 122 ∧ loS n - 97 + 10 = hexV n)) = true := by kernel_rfl
theorem lo_is {n : Nat} (hn : n < 256) (h : 97 ≤ n ∧ n ≤ 102 ∨ 65 ≤ n ∧ n ≤ 70) : 97 ≤ loS n ∧ loS n ≤ 122 ∧ loS n - 97 + 10 = hexV n := by
  have := List.all_eq_true.1 lo_all n (List.mem_range.2 hn)
  simp only [decide_eq_true_eq] at this
  exact this h

theorem lower_ok (hT : Has T) (n : Nat) (H : AH) : Den.of T 80 [.int .u8 n] H = some (.int .u8 (loS n), H) := by
  refine eq_of (w80_ok hT ?_)
  unfold w80
  refine g_or rfl ?_
  exact ⟨rfl, rfl⟩

theorem hexN_lt : ∀ (l : List UInt8) (n k : Nat), (∀ b ∈ l, isHex b = true) → n < 16 ^ k → hexN n l < 16 ^ (k + l.length) := by
  intro l
  induction l with
  | nil => intro n k _ h; exact h
  | cons a l ih =>
    intro n k hl hn
    have ha : hexV a.toNat < 16 := by simpa [isHex] using hl a (by simp)
    rw [hexN, List.length_cons, show k + (l.length + 1) = k + 1 + l.length by omega]
    refine ih _ _ (fun b hb => hl b (by simp [hb])) ?_
    rw [Nat.pow_succ]; omega

theorem s_bytes {l : List UInt8} {H : AH} {k : AV → AH → Prop} (h : k (.sl 0 1 (l.map u8v)) H) : sP (aop [] (.cvBytes (.cst (.str l))) H) k := sP_i rfl h

theorem wrap64 {n : Int} (h : 0 ≤ n ∧ n < 2 ^ 63) : IntKind.u64.wrap n = n := by
  have : IntKind.u64.wrap n = n % 18446744073709551616 := by simp [IntKind.wrap, IntKind.bits, IntKind.signed]
  rw [this]; omega
theorem wrap8 {n : Int} (h : 0 ≤ n ∧ n < 256) : IntKind.u8.wrap n = n := by rw [IntKind.wrap_u8]; omega

theorem parse_in (hT : Has T) (s : List UInt8) (hs : 1 ≤ s.length ∧ s.length ≤ 8) (hx : ∀ b ∈ s, isHex b = true) (H : AH) :
    Den.of T 75 [.str s, .int .i64 16, .int .i64 32] H = some (.tup [.int .u64 (hexN 0 s), .niliface], H) := by
  refine eq_of (w75_ok hT ?_)
  unfold w75
  have hne : s ≠ [] := by rintro rfl; simp at hs
  refine Stp.go ?_
  refine i_cF hne ?_
  refine Stp.go ?_
  refine j2 (fun a b H' => a = .int .i64 16 ∧ b = .str s ∧ H = H') ?_ ?_
  rotate_left
  · intro j hj
    refine j1 (fun x H' => x = .bool true ∧ H = H') ?_ ?_
    · rintro _ _ ⟨rfl, rfl⟩
      refine i_T rfl ?_
      exact hj _ _ _ ⟨rfl, rfl, rfl⟩
    · intro j3 hj3
      refine Stp.go ?_
      refine d_t ?_
      refine i_T rfl ?_
      refine Stp.go ?_
      exact hj3 _ _ ⟨rfl, rfl⟩
  rintro _ _ _ ⟨rfl, rfl, rfl⟩
  refine j1 (fun x H' => x = .int .i64 32 ∧ H = H') ?_ ?_
  rotate_left
  · intro j hj
    refine Stp.go ?_
    refine i_F rfl ?_
    refine j1 (fun x H' => x = .bool false ∧ H = H') ?_ ?_
    · rintro _ _ ⟨rfl, rfl⟩
      refine i_F rfl ?_
      exact hj _ _ ⟨rfl, rfl⟩
    · intro j3 hj3
      refine Stp.go ?_
      refine d_f ?_
      refine i_F rfl ?_
      refine Stp.go ?_
      exact hj3 _ _ ⟨rfl, rfl⟩
  rintro _ _ ⟨rfl, rfl⟩
  refine j1 (fun x H' => x = .int .u64 1152921504606846976 ∧ H = H') ?_ ?_
  rotate_left
  · intro j hj
    refine Stp.go ?_
    refine i_F rfl ?_
    refine Stp.go ?_
    refine i_T rfl ?_
    exact hj _ _ ⟨rfl, rfl⟩
  rintro _ _ ⟨rfl, rfl⟩
  refine g_cv ?_
  rw [wrap64 (by decide)]
  refine gP_i (v := .int .u64 4294967296) (by kernel_rfl) ?_
  refine gP_i (v := .int .u64 4294967295) (by kernel_rfl) ?_
  refine s_bytes ?_
  refine g_lenL ?_
  rw [List.length_map]
  refine l3 (fun m a b x H' => ∃ i n : Nat, a = .bool false ∧ b = .int .u64 n ∧ x = .int .i64 i ∧ i ≤ s.length ∧ H = H' ∧ m = s.length - i ∧ n < 16 ^ i ∧ hexN 0 s = hexN n (s.drop i)) s.length ⟨0, 0, rfl, rfl, rfl, Nat.zero_le _, rfl, rfl, by decide, rfl⟩ ?_
  rintro m _ _ _ _ ⟨i, n, rfl, rfl, rfl, hi, rfl, hm, hn, he⟩
  refine Stp.go ?_
  refine i_c (fun h => ?_) (fun h => ?_)
  rotate_left
  · refine j1 (fun x H' => x = .bool false ∧ H = H') ?_ ?_
    · rintro _ _ ⟨rfl, rfl⟩
      refine i_F rfl ?_
      rw [List.drop_eq_nil_of_le (by omega)] at he
      exact ⟨by rw [he]; rfl, rfl⟩
    · intro j hj
      refine d_t ?_
      refine i_F rfl ?_
      exact hj _ _ ⟨rfl, rfl⟩
  have hlt : i < s.length := by omega
  have hg := List.getElem?_eq_getElem hlt
  have hxc := hx _ (List.getElem_mem hlt)
  rw [List.drop_eq_getElem_cons hlt, hexN] at he
  generalize s[i] = c at *
  have hd : hexV c.toNat < 16 := by simpa [isHex] using hxc
  have hc := c.toNat_lt
  have hp8 : 16 ^ (i + 1) ≤ 16 ^ 8 := Nat.pow_le_pow_right (by decide) (by omega)
  have hps : (16 : Nat) ^ (i + 1) = 16 ^ i * 16 := Nat.pow_succ ..
  have hn1 : n * 16 + hexV c.toNat < 16 ^ (i + 1) := by omega
  have h88 : (16 : Nat) ^ 8 = 4294967296 := by decide
  refine j2 (fun a b H' => a = .bool false ∧ b = .int .u64 (n * 16 + hexV c.toNat : Nat) ∧ H = H') ?_ ?_
  · rintro _ _ _ ⟨rfl, rfl, rfl⟩
    refine g_add64 (by omega) ?_
    exact ⟨s.length - (i + 1), by omega, i + 1, _, rfl, rfl, by congr 1, by omega, rfl, rfl, hn1, he⟩
  intro j hj
  refine gP_i (v := .vp [.int .u8 c.toNat]) (by simp [aIdxAddr, hg, AV.cells, u8v]) ?_
  refine g_ldv ?_
  refine j2 (fun a b H' => a = .bool false ∧ b = .int .u8 (hexV c.toNat) ∧ H = H') ?_ ?_
  · rintro _ _ _ ⟨rfl, rfl, rfl⟩
    refine g_cv ?_
    rw [wrap8 (by decide)]
    refine Stp.go ?_
    refine i_cF (by omega) ?_
    refine Stp.go ?_
    refine i_cF (by omega) ?_
    refine g_cv ?_
    rw [wrap64 (by decide)]
    refine g_mul ?_
    rw [wrap64 (by omega)]
    refine g_cv ?_
    rw [wrap64 (by omega)]
    refine g_add ?_
    rw [wrap64 (by omega)]
    refine j1 (fun x H' => x = .bool false ∧ H = H') ?_ ?_
    · rintro _ _ ⟨rfl, rfl⟩
      refine i_F rfl ?_
      exact hj _ _ _ ⟨rfl, by congr 1, rfl⟩
    · intro j3 hj3
      refine Stp.go ?_
      refine d_f ?_
      refine i_cF (by omega) ?_
      refine Stp.go ?_
      refine hj3 _ _ ⟨?_, rfl⟩
      rw [decide_eq_false (by omega)]
  intro j4 hj4
  refine j1 (fun x H' => x = .bool false ∧ H = H') ?_ ?_
  rotate_left
  · intro j7 hj7
    refine Stp.go ?_
    refine d_t ?_
    refine i_c (fun h2 => ?_) (fun h2 => ?_)
    · exact hj7 _ _ ⟨rfl, rfl⟩
    · exact hj7 _ _ ⟨rfl, rfl⟩
  rintro _ _ ⟨rfl, rfl⟩
  refine i_F rfl ?_
  refine j1 (fun x H' => x = .bool (decide (48 ≤ c.toNat ∧ c.toNat ≤ 57)) ∧ H = H') ?_ ?_
  rotate_left
  · intro j6 hj6
    refine Stp.go ?_
    refine d_t ?_
    refine i_c (fun h2 => ?_) (fun h2 => ?_)
    · refine Stp.go ?_
      refine hj6 _ _ ⟨?_, rfl⟩
      congr 1
      rw [Bool.eq_iff_iff, decide_eq_true_iff, decide_eq_true_iff]
      omega
    · exact hj6 _ _ ⟨by rw [decide_eq_false]; omega, rfl⟩
  rintro _ _ ⟨rfl, rfl⟩
  refine i_c (fun h2 => ?_) (fun h2 => ?_)
  · refine g_sub ?_
    rw [wrap8 (by omega)]
    refine hj4 _ _ _ ⟨rfl, ?_, rfl⟩
    congr 1
    rw [hexV, if_neg (by omega), if_neg (by omega), if_pos h2]
    omega
  have hlet : 97 ≤ c.toNat ∧ c.toNat ≤ 102 ∨ 65 ≤ c.toNat ∧ c.toNat ≤ 70 := by
    by_cases g1 : 97 ≤ c.toNat ∧ c.toNat ≤ 102
    · exact .inl g1
    by_cases g2 : 65 ≤ c.toNat ∧ c.toNat ≤ 70
    · exact .inr g2
    rw [hexV, if_neg g1, if_neg g2, if_neg h2] at hd
    omega
  obtain ⟨l1', l2', l3'⟩ := lo_is (by omega) hlet
  refine j1 (fun x H' => x = .bool true ∧ H = H') ?_ ?_
  · rintro _ _ ⟨rfl, rfl⟩
    refine i_T rfl ?_
    refine c_eq (lower_ok hT _ _) ?_
    refine g_sub ?_
    rw [wrap8 (by omega)]
    refine g_add ?_
    rw [wrap8 (by omega)]
    exact hj4 _ _ _ ⟨rfl, by congr 1, rfl⟩
  · intro j5 hj5
    refine c_eq (lower_ok hT _ _) ?_
    refine Stp.go ?_
    refine d_t ?_
    refine i_cT l1' ?_
    refine c_eq (lower_ok hT _ _) ?_
    refine Stp.go ?_
    exact hj5 _ _ ⟨by rw [decide_eq_true l2'], rfl⟩

theorem parse_ok (hT : Has T) (s : List UInt8) (hs : 1 ≤ s.length ∧ s.length ≤ 8) (hx : ∀ b ∈ s, isHex b = true) (H : AH) :
    Den.of T 66 [.str s, .int .i64 16, .int .i64 32] H = some (.tup [.int .u64 (hexN 0 s), .niliface], H) := by
  refine eq_of (w66_ok hT ?_)
  unfold w66
  refine c_eq (parse_in hT s hs hx H) ?_
  refine g_ext0 ?_
  refine g_ext1 ?_
  refine gP_i (v := .bool false) rfl ?_
  refine i_F rfl ?_
  exact ⟨rfl, rfl⟩

end Go.SV
