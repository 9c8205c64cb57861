/- Contracts: numbers of digits of 16. Own text of the prover; nothing is assumed. -/
import Derived.Test.YtaimiohndbajjaaDoorQu
set_option maxRecDepth 100000
namespace Go.SV

variable {T : Nat → Option Entry}

/-- A digit's value; 99: it is none. -/
def hexV (n : Nat) : Nat := if 97 ≤ n ∧ n ≤ 102 then n - 87 else if 65 ≤ n ∧ n ≤ 70 then n - 55 else if 48 ≤ n ∧ n ≤ 57 then n - 48 else 99
def isHex (b : UInt8) : Bool := decide (hexV b.toNat < 16)
def hexN : Nat → List UInt8 → Nat
  | n, [] => n
  | n, a :: l => hexN (n * 16 + hexV a.toNat) l

def loS (n : Nat) : Int := bits .or .u8 n 32
theorem lo_all : (List.range 256).all (fun n => decide (¬ (48 ≤ n ∧ n ≤ 57) → (97 ≤ loS n ∧ loS n ≤ 122 → 0 ≤ loS n - 97 + 10 ∧ loS n - 97 + 10 < 256 ∧ ((hexV n < 16 ∧ loS n - 97 + 10 = hexV n) ∨ (¬ hexV n < 16 ∧ 16 ≤ loS n - 97 + 10))) ∧ (¬ (97 ≤ loS n ∧ loS n ≤ 122) → ¬ hexV n < 16))) = true := by kernel_rfl
theorem lo_is {n : Nat} (hn : n < 256) (h : ¬ (48 ≤ n ∧ n ≤ 57)) : (97 ≤ loS n ∧ loS n ≤ 122 → 0 ≤ loS n - 97 + 10 ∧ loS n - 97 + 10 < 256 ∧ ((hexV n < 16 ∧ loS n - 97 + 10 = hexV n) ∨ (¬ hexV n < 16 ∧ 16 ≤ loS n - 97 + 10))) ∧ (¬ (97 ≤ loS n ∧ loS n ≤ 122) → ¬ hexV n < 16) := by
  have := List.all_eq_true.1 lo_all n (List.mem_range.2 hn)
  simp only [decide_eq_true_eq] at this
  exact this h

theorem lower_ok (hT : Has T) (n : Nat) (H : AH) : Den.of T 80 [.int .u8 n] H = some (.int .u8 (loS n), H) := by
  refine eq_of (w80_ok hT ?_)
  unfold w80
  refine g_or rfl ?_
  exact ⟨rfl, rfl⟩

theorem hexN_lt : ∀ (l : List UInt8) (n k : Nat), (∀ b ∈ l, isHex b = true) → n < 16 ^ k → hexN n l < 16 ^ (k + l.length) := by
  intro l
  induction l with
  | nil => intro n k _ h; exact h
  | cons a l ih =>
    intro n k hl hn
    have ha : hexV a.toNat < 16 := by simpa [isHex] using hl a (by simp)
    rw [hexN, List.length_cons, show k + (l.length + 1) = k + 1 + l.length by omega]
    refine ih _ _ (fun b hb => hl b (by simp [hb])) ?_
    rw [Nat.pow_succ]; omega

theorem s_bytes {l : List UInt8} {H : AH} {k : AV → AH → Prop} (h : k (.sl 0 1 (l.map u8v)) H) : sP (aop [] (.cvBytes (.cst (.str l))) H) k := sP_i rfl h

theorem wrap64 {n : Int} (h : 0 ≤ n ∧ n < 2 ^ 63) : IntKind.u64.wrap n = n := by
  have : IntKind.u64.wrap n = n % 18446744073709551616 := by simp [IntKind.wrap, IntKind.bits, IntKind.signed]
  rw [this]; omega
theorem wrap8 {n : Int} (h : 0 ≤ n ∧ n < 256) : IntKind.u8.wrap n = n := by rw [IntKind.wrap_u8]; omega

abbrev synE : AV := .tup [.int .u64 0, .iface 100 (.int .i64 2)]
theorem parse_in (hT : Has T) (s : List UInt8) (hs : 1 ≤ s.length ∧ s.length ≤ 8) (H : AH) :
    Den.of T 75 [.str s, .int .i64 16, .int .i64 32] H = some (if s.all isHex = true then .tup [.int .u64 (hexN 0 s), .niliface] else synE, H) := by
  refine eq_of (w75_ok hT ?_)
  unfold w75
  have hne : s ≠ [] := by rintro rfl; simp at hs
  refine Stp.go ?_
  refine i_cF hne ?_
  refine Stp.go ?_
  refine j2 (fun a b H' => a = .int .i64 16 ∧ b = .str s ∧ H = H') ?_ ?_
  rotate_left
  · intro j hj
    refine j1 (fun x H' => x = .bool true ∧ H = H') ?_ ?_
    · rintro _ _ ⟨rfl, rfl⟩
      refine i_T rfl ?_
      exact hj _ _ _ ⟨rfl, rfl, rfl⟩
    · intro j3 hj3
      refine Stp.go ?_
      refine d_t ?_
      refine i_T rfl ?_
      refine Stp.go ?_
      exact hj3 _ _ ⟨rfl, rfl⟩
  rintro _ _ _ ⟨rfl, rfl, rfl⟩
  refine j1 (fun x H' => x = .int .i64 32 ∧ H = H') ?_ ?_
  rotate_left
  · intro j hj
    refine Stp.go ?_
    refine i_F rfl ?_
    refine j1 (fun x H' => x = .bool false ∧ H = H') ?_ ?_
    · rintro _ _ ⟨rfl, rfl⟩
      refine i_F rfl ?_
      exact hj _ _ ⟨rfl, rfl⟩
    · intro j3 hj3
      refine Stp.go ?_
      refine d_f ?_
      refine i_F rfl ?_
      refine Stp.go ?_
      exact hj3 _ _ ⟨rfl, rfl⟩
  rintro _ _ ⟨rfl, rfl⟩
  refine j1 (fun x H' => x = .int .u64 1152921504606846976 ∧ H = H') ?_ ?_
  rotate_left
  · intro j hj
    refine Stp.go ?_
    refine i_F rfl ?_
    refine Stp.go ?_
    refine i_T rfl ?_
    exact hj _ _ ⟨rfl, rfl⟩
  rintro _ _ ⟨rfl, rfl⟩
  refine g_cv ?_
  rw [wrap64 (by decide)]
  refine gP_i (v := .int .u64 4294967296) (by kernel_rfl) ?_
  refine gP_i (v := .int .u64 4294967295) (by kernel_rfl) ?_
  refine s_bytes ?_
  refine g_lenL ?_
  rw [List.length_map]
  refine l3 (fun m a b x H' => ∃ i n : Nat, a = .bool false ∧ b = .int .u64 n ∧ x = .int .i64 i ∧ i ≤ s.length ∧ H = H' ∧ m = s.length - i ∧ n < 16 ^ i ∧ hexN 0 s = hexN n (s.drop i) ∧ s.all isHex = (s.drop i).all isHex) s.length ⟨0, 0, rfl, rfl, rfl, Nat.zero_le _, rfl, rfl, by decide, rfl, rfl⟩ ?_
  rintro m _ _ _ _ ⟨i, n, rfl, rfl, rfl, hi, rfl, hm, hn, he, hall⟩
  refine Stp.go ?_
  refine i_c (fun h => ?_) (fun h => ?_)
  rotate_left
  · refine j1 (fun x H' => x = .bool false ∧ H = H') ?_ ?_
    · rintro _ _ ⟨rfl, rfl⟩
      refine i_F rfl ?_
      rw [List.drop_eq_nil_of_le (by omega)] at he hall
      exact ⟨by rw [hall, he]; rfl, rfl⟩
    · intro j hj
      refine d_t ?_
      refine i_F rfl ?_
      exact hj _ _ ⟨rfl, rfl⟩
  have hlt : i < s.length := by omega
  have hg := List.getElem?_eq_getElem hlt
  rw [List.drop_eq_getElem_cons hlt, hexN] at he
  rw [List.drop_eq_getElem_cons hlt, List.all_cons] at hall
  generalize s[i] = c at *
  have hc := c.toNat_lt
  have bad : isHex c = false → ∀ {v : AV} {H' : AH}, v = synE → H = H' → v = (if s.all isHex = true then .tup [.int .u64 (hexN 0 s), .niliface] else synE) ∧ H' = H := by
    rintro hb v H' rfl rfl
    rw [hb, Bool.false_and] at hall
    rw [hall, if_neg (by decide)]
    exact ⟨rfl, rfl⟩
  have hp8 : 16 ^ (i + 1) ≤ 16 ^ 8 := Nat.pow_le_pow_right (by decide) (by omega)
  have hps : (16 : Nat) ^ (i + 1) = 16 ^ i * 16 := Nat.pow_succ ..
  have h88 : (16 : Nat) ^ 8 = 4294967296 := by decide
  refine j2 (fun a b H' => a = .bool false ∧ b = .int .u64 (n * 16 + hexV c.toNat : Nat) ∧ H = H' ∧ isHex c = true) ?_ ?_
  · rintro _ _ _ ⟨rfl, rfl, rfl, hxc⟩
    have hd : hexV c.toNat < 16 := by simpa [isHex] using hxc
    rw [hxc, Bool.true_and] at hall
    refine g_add64 (by omega) ?_
    exact ⟨s.length - (i + 1), by omega, i + 1, _, rfl, rfl, by congr 1, by omega, rfl, rfl, by omega, he, hall⟩
  intro j hj
  refine gP_i (v := .vp [.int .u8 c.toNat]) (by simp [aIdxAddr, hg, AV.cells, u8v]) ?_
  refine g_ldv ?_
  refine j2 (fun a b H' => ∃ d : Int, a = .bool false ∧ b = .int .u8 d ∧ H = H' ∧ ((isHex c = true ∧ d = hexV c.toNat) ∨ (isHex c = false ∧ 16 ≤ d))) ?_ ?_
  · rintro _ _ _ ⟨d, rfl, rfl, rfl, hdd⟩
    refine g_cv ?_
    rw [wrap8 (by decide)]
    refine Stp.go ?_
    refine i_c (fun hge => ?_) (fun hge => ?_)
    · rcases hdd with ⟨hxc, e⟩ | ⟨hxc, _⟩
      · have hd : hexV c.toNat < 16 := by simpa [isHex] using hxc
        omega
      · exact sP_i rfl (bad hxc rfl rfl)
    obtain ⟨hxc, e⟩ : isHex c = true ∧ d = hexV c.toNat := by
      rcases hdd with h | ⟨_, h⟩
      · exact h
      · omega
    subst e
    have hd : hexV c.toNat < 16 := by simpa [isHex] using hxc
    refine Stp.go ?_
    refine i_cF (by omega) ?_
    refine g_cv ?_
    rw [wrap64 (by decide)]
    refine g_mul ?_
    rw [wrap64 (by omega)]
    refine g_cv ?_
    rw [wrap64 (by omega)]
    refine g_add ?_
    rw [wrap64 (by omega)]
    refine j1 (fun x H' => x = .bool false ∧ H = H') ?_ ?_
    · rintro _ _ ⟨rfl, rfl⟩
      refine i_F rfl ?_
      exact hj _ _ _ ⟨rfl, by congr 1, rfl, hxc⟩
    · intro j3 hj3
      refine Stp.go ?_
      refine d_f ?_
      refine i_cF (by omega) ?_
      refine Stp.go ?_
      refine hj3 _ _ ⟨?_, rfl⟩
      rw [decide_eq_false (by omega)]
  intro j4 hj4
  refine j1 (fun x H' => x = .bool false ∧ H = H') ?_ ?_
  rotate_left
  · intro j7 hj7
    refine Stp.go ?_
    refine d_t ?_
    refine i_c (fun h2 => ?_) (fun h2 => ?_)
    · exact hj7 _ _ ⟨rfl, rfl⟩
    · exact hj7 _ _ ⟨rfl, rfl⟩
  rintro _ _ ⟨rfl, rfl⟩
  refine i_F rfl ?_
  refine j1 (fun x H' => x = .bool (decide (48 ≤ c.toNat ∧ c.toNat ≤ 57)) ∧ H = H') ?_ ?_
  rotate_left
  · intro j6 hj6
    refine Stp.go ?_
    refine d_t ?_
    refine i_c (fun h2 => ?_) (fun h2 => ?_)
    · refine Stp.go ?_
      refine hj6 _ _ ⟨?_, rfl⟩
      congr 1
      rw [Bool.eq_iff_iff, decide_eq_true_iff, decide_eq_true_iff]
      omega
    · exact hj6 _ _ ⟨by rw [decide_eq_false]; omega, rfl⟩
  rintro _ _ ⟨rfl, rfl⟩
  refine i_c (fun h2 => ?_) (fun h2 => ?_)
  · refine g_sub ?_
    rw [wrap8 (by omega)]
    have e : hexV c.toNat = c.toNat - 48 := by rw [hexV, if_neg (by omega), if_neg (by omega), if_pos h2]
    exact hj4 _ _ _ ⟨_, rfl, rfl, rfl, .inl ⟨by rw [isHex, e, decide_eq_true (by omega)], by rw [e]; omega⟩⟩
  obtain ⟨l1', l2'⟩ := lo_is (by omega) h2
  refine j1 (fun x H' => x = .bool (decide (97 ≤ loS c.toNat ∧ loS c.toNat ≤ 122)) ∧ H = H') ?_ ?_
  · rintro _ _ ⟨rfl, rfl⟩
    refine i_c (fun h3 => ?_) (fun h3 => ?_)
    · obtain ⟨k1, k2, k3⟩ := l1' h3
      refine c_eq (lower_ok hT _ _) ?_
      refine g_sub ?_
      rw [wrap8 (by omega)]
      refine g_add ?_
      rw [wrap8 (by omega)]
      refine hj4 _ _ _ ⟨_, rfl, rfl, rfl, ?_⟩
      rcases k3 with ⟨q1, q2⟩ | ⟨q1, q2⟩
      · exact .inl ⟨by rw [isHex, decide_eq_true q1], q2⟩
      · exact .inr ⟨by rw [isHex, decide_eq_false q1], q2⟩
    · exact sP_i rfl (bad (by rw [isHex, decide_eq_false (l2' h3)]) rfl rfl)
  · intro j5 hj5
    refine c_eq (lower_ok hT _ _) ?_
    refine Stp.go ?_
    refine d_t ?_
    refine i_c (fun h3 => ?_) (fun h3 => ?_)
    · refine c_eq (lower_ok hT _ _) ?_
      refine Stp.go ?_
      refine hj5 _ _ ⟨?_, rfl⟩
      congr 1
      rw [Bool.eq_iff_iff, decide_eq_true_iff, decide_eq_true_iff]
      omega
    · exact hj5 _ _ ⟨by rw [decide_eq_false fun e => h3 e.1], rfl⟩

theorem parse_ok (hT : Has T) (hE : KnowsE T) (s : List UInt8) (hs : 1 ≤ s.length ∧ s.length ≤ 8) (H : AH) :
    ∃ v, Den.of T 66 [.str s, .int .i64 16, .int .i64 32] H = some (v, H) ∧ (if s.all isHex = true then v = .tup [.int .u64 (hexN 0 s), .niliface] else ∃ t x, v = .tup [.int .u64 0, .iface t x]) := by
  have : ∃ v H', Den.of T 66 [.str s, .int .i64 16, .int .i64 32] H = some (v, H') ∧ (if s.all isHex = true then v = .tup [.int .u64 (hexN 0 s), .niliface] else ∃ t x, v = .tup [.int .u64 0, .iface t x]) ∧ H' = H := by
    refine w66_ok hT ?_
    unfold w66
    refine c_eq (parse_in hT s hs H) ?_
    by_cases h : s.all isHex = true
    · rw [if_pos h]
      refine g_ext0 ?_
      refine g_ext1 ?_
      refine gP_i (v := .bool false) rfl ?_
      refine i_F rfl ?_
      exact ⟨by rw [if_pos h], rfl⟩
    · rw [if_neg h]
      refine g_ext0 ?_
      refine g_ext1 ?_
      refine gP_i (v := .bool true) rfl ?_
      refine i_T rfl ?_
      refine c_eq (hE.err _ s _ _ H (by omega)) ?_
      exact ⟨by rw [if_neg h]; exact ⟨_, _, rfl⟩, rfl⟩
  obtain ⟨v, H', h1, h2, rfl⟩ := this
  exact ⟨v, h1, h2⟩

end Go.SV
