/- Plain laws of quoted texts: they come back. Own text of the prover; nothing is assumed. -/
import Derived.Test.YtaimiohndbajjaaDoorQk
set_option maxRecDepth 100000
namespace Go.SV

/-! ### Characters and their bytes -/
theorem dec_enc {r : Int} (hr : vRune r = true) (Y : List UInt8) : Lib.decodeL (Lib.encodeRune r ++ Y) = (r.toNat, (Lib.encodeRune r).length) := by
  simp only [vRune, decide_eq_true_eq] at hr
  obtain ⟨u, rfl⟩ := Int.eq_ofNat_of_zero_le (show 0 ≤ r by omega)
  rw [Int.toNat_natCast]
  have tb : ∀ z : Nat, z < 256 → ((z : Int).toNat.toUInt8).toNat = z := by
    intro z hz
    rw [Int.toNat_natCast]
    simp
    omega
  by_cases h1 : u ≤ 127
  · have e : Lib.encodeRune (u : Int) = [((u : Nat) : Int).toNat.toUInt8] := by rw [Lib.encodeRune, Lib.encodeRuneZ_one (by omega) (by omega)]; rfl
    rw [e]
    have := tb u (by omega)
    rw [show [((u : Nat) : Int).toNat.toUInt8] ++ Y = ((u : Nat) : Int).toNat.toUInt8 :: Y from rfl, Lib.decodeL_ascii _ _ (by omega), this]
    rfl
  by_cases h2 : u ≤ 2047
  · have e : Lib.encodeRune (u : Int) = [((192 + u / 64 : Nat) : Int).toNat.toUInt8, ((128 + u % 64 : Nat) : Int).toNat.toUInt8] := by
      rw [Lib.encodeRune, Lib.encodeRuneZ_two (by omega) (by omega)]
      simp only [List.map_cons, List.map_nil]
      rfl
    have t0 := tb (192 + u / 64) (by omega)
    have t1 := tb (128 + u % 64) (by omega)
    rw [e]
    generalize ((192 + u / 64 : Nat) : Int).toNat.toUInt8 = b0 at t0
    generalize ((128 + u % 64 : Nat) : Int).toNat.toUInt8 = b1 at t1
    rw [Lib.decodeL_N]
    show Lib.decodeN ([b0, b1] ++ Y).length b0.toNat b1.toNat _ _ = (u, 2)
    rw [decN2 (by omega) (by simp) (by omega) (by omega)]
    congr 1
    omega
  by_cases h3 : u ≤ 65535
  · have e : Lib.encodeRune (u : Int) = [((224 + u / 4096 : Nat) : Int).toNat.toUInt8, ((128 + u / 64 % 64 : Nat) : Int).toNat.toUInt8, ((128 + u % 64 : Nat) : Int).toNat.toUInt8] := by
      rw [Lib.encodeRune, Lib.encodeRuneZ_three (by omega)]
      simp only [List.map_cons, List.map_nil]
      rfl
    have t0 := tb (224 + u / 4096) (by omega)
    have t1 := tb (128 + u / 64 % 64) (by omega)
    have t2 := tb (128 + u % 64) (by omega)
    rw [e]
    generalize ((224 + u / 4096 : Nat) : Int).toNat.toUInt8 = b0 at t0
    generalize ((128 + u / 64 % 64 : Nat) : Int).toNat.toUInt8 = b1 at t1
    generalize ((128 + u % 64 : Nat) : Int).toNat.toUInt8 = b2 at t2
    rw [Lib.decodeL_N]
    show Lib.decodeN ([b0, b1, b2] ++ Y).length b0.toNat b1.toNat b2.toNat _ = (u, 3)
    rw [decN3 (by omega) (by simp) (by omega) (by omega) (by omega) (by omega)]
    congr 1
    omega
  · have e : Lib.encodeRune (u : Int) = [((240 + u / 262144 : Nat) : Int).toNat.toUInt8, ((128 + u / 4096 % 64 : Nat) : Int).toNat.toUInt8, ((128 + u / 64 % 64 : Nat) : Int).toNat.toUInt8, ((128 + u % 64 : Nat) : Int).toNat.toUInt8] := by
      rw [Lib.encodeRune, Lib.encodeRuneZ_four (by omega) (by omega)]
      simp only [List.map_cons, List.map_nil]
      rfl
    have t0 := tb (240 + u / 262144) (by omega)
    have t1 := tb (128 + u / 4096 % 64) (by omega)
    have t2 := tb (128 + u / 64 % 64) (by omega)
    have t3 := tb (128 + u % 64) (by omega)
    rw [e]
    generalize ((240 + u / 262144 : Nat) : Int).toNat.toUInt8 = b0 at t0
    generalize ((128 + u / 4096 % 64 : Nat) : Int).toNat.toUInt8 = b1 at t1
    generalize ((128 + u / 64 % 64 : Nat) : Int).toNat.toUInt8 = b2 at t2
    generalize ((128 + u % 64 : Nat) : Int).toNat.toUInt8 = b3 at t3
    rw [Lib.decodeL_N]
    show Lib.decodeN ([b0, b1, b2, b3] ++ Y).length b0.toNat b1.toNat b2.toNat b3.toNat = (u, 4)
    rw [decN4 (by omega) (by simp) (by omega) (by omega) (by omega) (by omega) (by omega)]
    congr 1
    omega

theorem valid_enc {r : Int} (hr : vRune r = true) (Y : List UInt8) : Lib.validD (Lib.encodeRune r ++ Y) = Lib.validD Y := by
  have hne : Lib.encodeRune r ++ Y ≠ [] := by
    intro e
    exact enc_ne r (List.append_eq_nil_iff.1 e).1
  rw [Lib.validD_step _ hne, dec_enc hr, List.drop_left]
  rw [if_neg]
  rintro ⟨e1, e2⟩
  simp only at e1 e2
  simp only [vRune, decide_eq_true_eq] at hr
  have : r = 65533 := by omega
  subst this
  revert e2
  decide

theorem enc_bytes {r : Int} (hr : vRune r = true) : ∀ b ∈ Lib.encodeRune r, (r ≤ 127 ∧ (b.toNat : Int) = r) ∨ 128 ≤ b.toNat := by
  simp only [vRune, decide_eq_true_eq] at hr
  intro b hb
  have : u8v b ∈ (Lib.encodeRune r).map u8v := List.mem_map.2 ⟨b, hb, rfl⟩
  rw [← encZ] at this
  obtain ⟨z, hz, e⟩ := List.mem_map.1 this
  simp only [u8v, AV.int.injEq, true_and] at e
  rw [← e]
  unfold Lib.encodeRuneZ at hz
  split at hz
  · simp at hz; omega
  split at hz
  · simp at hz; omega
  split at hz
  · simp at hz; omega
  split at hz
  · simp at hz; omega
  · simp at hz; omega

/-! ### Letters and digits -/
theorem letterF_mem {r : Int} : ∀ (ms : List Int) (cs : List UInt8), letterF r ms cs ≠ 0 → r ∈ ms := by
  intro ms
  induction ms with
  | nil => intro cs h; exact absurd rfl h
  | cons m ms ih =>
    intro cs h
    cases cs with
    | nil => exact absurd rfl h
    | cons c cs =>
      rw [letterF] at h
      split at h
      · rename_i e; simp [e]
      · simp [ih cs h]
theorem letter_all : meant.all (fun r => decide (manyS (letterS r) = 0 ∧ letterS r ≠ 47 ∧ meansS (letterS r) = some r ∧ (letterS r).toNat < 128 ∧ letterS r ≠ 10 ∧ letterS r ≠ 9)) = true := by kernel_rfl
theorem letter_is {r : Int} (h : letterS r ≠ 0) : manyS (letterS r) = 0 ∧ letterS r ≠ 47 ∧ meansS (letterS r) = some r ∧ (letterS r).toNat < 128 ∧ letterS r ≠ 10 ∧ letterS r ≠ 9 := by
  have := List.all_eq_true.1 letter_all r (letterF_mem _ _ h)
  simpa only [decide_eq_true_eq] using this
theorem letter_not {r : Int} (h : letterS r = 0) : r ≠ 34 ∧ r ≠ 92 ∧ r ≠ 10 ∧ r ≠ 9 := by
  refine ⟨?_, ?_, ?_, ?_⟩ <;> rintro rfl <;> revert h <;> decide

theorem hexD_all : (List.range 16).all (fun d => decide (hexV (hexD d).toNat = d ∧ (hexD d).toNat < 128 ∧ hexD d ≠ 34 ∧ hexD d ≠ 92 ∧ hexD d ≠ 10 ∧ hexD d ≠ 9)) = true := by kernel_rfl
theorem hexD_is {d : Nat} (h : d < 16) : hexV (hexD d).toNat = d ∧ (hexD d).toNat < 128 ∧ hexD d ≠ 34 ∧ hexD d ≠ 92 ∧ hexD d ≠ 10 ∧ hexD d ≠ 9 := by
  have := List.all_eq_true.1 hexD_all d (List.mem_range.2 h)
  simpa only [decide_eq_true_eq] using this
theorem hexS_mem (r : Nat) : ∀ (m : Nat) (b : UInt8), b ∈ hexS r m → ∃ d, d < 16 ∧ b = hexD d := by
  intro m
  induction m with
  | zero => intro b h; cases h
  | succ m ih =>
    intro b h
    rw [hexS, List.mem_cons] at h
    rcases h with rfl | h
    · exact ⟨_, Nat.mod_lt _ (by decide), rfl⟩
    · exact ih b h
theorem hexN_hexS (r : Nat) : ∀ (m n : Nat), hexN n (hexS r m) = n * 16 ^ m + r % 16 ^ m := by
  intro m
  induction m with
  | zero => intro n; simp [hexS, hexN, Nat.mod_one]
  | succ m ih =>
    intro n
    rw [hexS, hexN, ih, (hexD_is (Nat.mod_lt _ (by decide))).1, Nat.mod_pow_succ, Nat.pow_succ]
    generalize 16 ^ m = P
    generalize r / P % 16 = d
    rw [Nat.add_mul, Nat.mul_assoc, Nat.mul_comm 16 P, Nat.mul_comm d P]
    omega
theorem numS_hexS {r m : Nat} (h : r < 16 ^ m) (hv : vRune r = true) (Y : List UInt8) : numS (hexS r m ++ Y) m = some (r : Int) ∧ numG (hexS r m ++ Y) m = true := by
  have ht : (hexS r m ++ Y).take m = hexS r m := by
    have := List.take_left (l₁ := hexS r m) (l₂ := Y)
    rw [hexS_len] at this
    exact this
  have hn : hexN 0 (hexS r m) = r := by rw [hexN_hexS, Nat.zero_mul, Nat.zero_add, Nat.mod_eq_of_lt h]
  constructor
  · have hx : (hexS r m).all isHex = true := by
      rw [List.all_eq_true]
      intro b hb
      obtain ⟨d, hd, rfl⟩ := hexS_mem r m b hb
      rw [isHex, (hexD_is hd).1, decide_eq_true hd]
    rw [numS, if_neg (by rw [List.length_append, hexS_len]; omega), ht, if_pos hx, hn, if_pos hv]
  · rw [numG, ht, List.all_eq_true.2, Bool.or_true]
    intro b hb
    obtain ⟨d, hd, rfl⟩ := hexS_mem r m b hb
    rw [isHex, (hexD_is hd).1, decide_eq_true hd]

/-! ### One character comes back -/
theorem unqF_plain : ∀ (D Y : List UInt8) (n : Nat), (∀ b ∈ D, b ≠ 34 ∧ b ≠ 10 ∧ b ≠ 92) → D.length ≤ n → unqF n (D ++ Y) = (unqF (n - D.length) Y).map (D ++ ·) ∧ unqG n (D ++ Y) = unqG (n - D.length) Y := by
  intro D
  induction D with
  | nil => intro Y n _ _; refine ⟨?_, rfl⟩; cases h : unqF n Y <;> simp [h]
  | cons a D ih =>
    intro Y n hD hn
    obtain ⟨n, rfl⟩ : ∃ k, n = k + 1 := ⟨n - 1, by simp at hn; omega⟩
    obtain ⟨h1, h2, h3⟩ := hD a (by simp)
    obtain ⟨i1, i2⟩ := ih Y n (fun b hb => hD b (by simp [hb])) (by simpa using hn)
    have hne : ¬ (a = 34 ∨ a = 10) := by rintro (e | e); exact h1 e; exact h2 e
    have hsub : n + 1 - (a :: D).length = n - D.length := by simp
    rw [List.cons_append, unqF, if_neg hne, if_neg h3, unqG, if_neg hne, if_neg h3, i1, i2, hsub]
    refine ⟨?_, rfl⟩
    rw [Option.map_map]
    rfl

theorem unqF_esc {n k : Nat} {l : List UInt8} {r : Int} (h : escS l = some (r, k)) (hG : escG l = true) : unqF (n + 1) (92 :: l) = (unqF n (l.drop k)).map (Lib.encodeRune r ++ ·) ∧ unqG (n + 1) (92 :: l) = unqG n (l.drop k) := by
  have hne : ¬ ((92 : UInt8) = 34 ∨ (92 : UInt8) = 10) := by decide
  rw [unqF, if_neg hne, if_pos rfl, unqG, if_neg hne, if_pos rfl, h, hG]
  exact ⟨rfl, rfl⟩

theorem many_dig (c : UInt8) (m : Nat) (hm : manyS c = m) (h0 : m ≠ 0) {r : Nat} (h : r < 16 ^ m) (hv : vRune r = true) (Y : List UInt8) : escS (c :: (hexS r m ++ Y)) = some ((r : Int), 1 + m) ∧ escG (c :: (hexS r m ++ Y)) = true := by
  obtain ⟨a, b⟩ := numS_hexS h hv Y
  rw [escS, hm, if_pos h0, a, escG, hm, if_pos h0, b]
  exact ⟨rfl, rfl⟩

theorem qc_back {r : Int} (hr : vRune r = true) (Y : List UInt8) (n : Nat) (hn : (qc r).length + Y.length ≤ n) :
    ∃ m, Y.length ≤ m ∧ unqF n (qc r ++ Y) = (unqF m Y).map (Lib.encodeRune r ++ ·) ∧ unqG n (qc r ++ Y) = unqG m Y := by
  have hr' := hr
  simp only [vRune, decide_eq_true_eq] at hr'
  unfold qc at hn ⊢
  split at hn
  · rename_i h
    rw [if_pos h]
    obtain ⟨l1, l2, l3, _⟩ := letter_is h
    simp only [List.length_cons, List.length_nil] at hn
    obtain ⟨n, rfl⟩ : ∃ k, n = k + 1 := ⟨n - 1, by omega⟩
    have e1 : escS (letterS r :: Y) = some (r, 1) := by
      rw [escS, if_neg (by rw [l1]; decide), if_neg l2, l3]; rfl
    have e2 : escG (letterS r :: Y) = true := by rw [escG, if_neg (by rw [l1]; decide)]
    obtain ⟨a, b⟩ := unqF_esc (n := n) e1 e2
    exact ⟨n, by omega, a, b⟩
  rename_i h
  have hz : letterS r = 0 := Decidable.not_not.1 h
  rw [if_neg h]
  split at hn
  · rename_i hm
    rw [if_pos hm]
    obtain ⟨q1, q2, q3, _⟩ := letter_not hz
    have hb : ∀ b ∈ Lib.encodeRune r, b ≠ 34 ∧ b ≠ 10 ∧ b ≠ 92 := by
      intro b hb
      have := enc_bytes hr b hb
      refine ⟨?_, ?_, ?_⟩ <;> rintro rfl
      · rcases this with ⟨_, e⟩ | e
        · exact q1 e.symm
        · revert e; decide
      · rcases this with ⟨_, e⟩ | e
        · exact q3 e.symm
        · revert e; decide
      · rcases this with ⟨_, e⟩ | e
        · exact q2 e.symm
        · revert e; decide
    obtain ⟨a, b⟩ := unqF_plain (Lib.encodeRune r) Y n hb (by omega)
    exact ⟨n - (Lib.encodeRune r).length, by omega, a, b⟩
  rename_i hm
  rw [if_neg hm]
  obtain ⟨u, rfl⟩ := Int.eq_ofNat_of_zero_le (show 0 ≤ r by omega)
  have dig : ∀ (c : UInt8) (m : Nat), manyS c = m → m ≠ 0 → u < 16 ^ m → (92 :: c :: hexS u m).length + Y.length ≤ n →
      ∃ m', Y.length ≤ m' ∧ unqF n ((92 :: c :: hexS u m) ++ Y) = (unqF m' Y).map (Lib.encodeRune (u : Int) ++ ·) ∧ unqG n ((92 :: c :: hexS u m) ++ Y) = unqG m' Y := by
    intro c m hc h0 hu hl
    simp only [List.length_cons, hexS_len] at hl
    obtain ⟨n, rfl⟩ : ∃ k, n = k + 1 := ⟨n - 1, by omega⟩
    obtain ⟨e1, e2⟩ := many_dig c m hc h0 hu hr Y
    obtain ⟨a, b⟩ := unqF_esc (n := n) e1 e2
    have hd : (c :: (hexS u m ++ Y)).drop (1 + m) = Y := by
      rw [Nat.add_comm, List.drop_succ_cons]
      have := List.drop_left (l₁ := hexS u m) (l₂ := Y)
      rw [hexS_len] at this
      exact this
    rw [hd] at a b
    exact ⟨n, by omega, a, b⟩
  split at hn
  · rename_i h1
    rw [if_pos h1]
    exact dig 120 2 (by decide) (by decide) (by omega) hn
  rename_i h1
  rw [if_neg h1]
  split at hn
  · rename_i h2
    rw [if_pos h2]
    exact dig 117 4 (by decide) (by decide) (by omega) hn
  · rename_i h2
    rw [if_neg h2]
    exact dig 85 8 (by decide) (by decide) (by omega) hn

theorem qs_back : ∀ (R : List Int) (n : Nat), (∀ r ∈ R, vRune r = true) → (R.flatMap qc).length ≤ n → unqF n (R.flatMap qc) = some (R.flatMap Lib.encodeRune) ∧ unqG n (R.flatMap qc) = true := by
  intro R
  induction R with
  | nil => intro n _ _; cases n <;> exact ⟨rfl, rfl⟩
  | cons r R ih =>
    intro n hR hn
    rw [List.flatMap_cons, List.length_append] at hn
    obtain ⟨m, hm, a, b⟩ := qc_back (hR r (by simp)) (R.flatMap qc) n hn
    obtain ⟨i1, i2⟩ := ih m (fun x hx => hR x (by simp [hx])) hm
    rw [List.flatMap_cons, a, b, i1, i2, List.flatMap_cons]
    exact ⟨rfl, rfl⟩

end Go.SV
