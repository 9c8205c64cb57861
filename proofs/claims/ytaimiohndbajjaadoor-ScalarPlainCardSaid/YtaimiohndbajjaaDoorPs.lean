/- Plain laws of quoted texts: they come back. Own text of the prover; nothing is assumed. -/
import Derived.Test.YtaimiohndbajjaaDoorQk
set_option maxRecDepth 100000
namespace Go.SV

/-! ### Characters and their bytes -/
theorem dec_enc {r : Int} (hr : vRune r = true) (Y : List UInt8) : Lib.decodeL (Lib.encodeRune r ++ Y) = (r.toNat, (Lib.encodeRune r).length) := by
  simp only [vRune, decide_eq_true_eq] at hr
  obtain ⟨u, rfl⟩ := Int.eq_ofNat_of_zero_le (show 0 ≤ r by omega)
  rw [Int.toNat_natCast]
  have tb : ∀ z : Nat, z < 256 → ((z : Int).toNat.toUInt8).toNat = z := by
    intro z hz
    rw [Int.toNat_natCast]
    simp
    omega
  by_cases h1 : u ≤ 127
  · have e : Lib.encodeRune (u : Int) = [((u : Nat) : Int).toNat.toUInt8] := by rw [Lib.encodeRune, Lib.encodeRuneZ_one (by omega) (by omega)]; rfl
    rw [e]
    have := tb u (by omega)
    rw [show [((u : Nat) : Int).toNat.toUInt8] ++ Y = ((u : Nat) : Int).toNat.toUInt8 :: Y from rfl, Lib.decodeL_ascii _ _ (by omega), this]
    rfl
  by_cases h2 : u ≤ 2047
  · have e : Lib.encodeRune (u : Int) = [((192 + u / 64 : Nat) : Int).toNat.toUInt8, ((128 + u % 64 : Nat) : Int).toNat.toUInt8] := by
      rw [Lib.encodeRune, Lib.encodeRuneZ_two (by omega) (by omega)]
      simp only [List.map_cons, List.map_nil]
      rfl
    have t0 := tb (192 + u / 64) (by omega)
    have t1 := tb (128 + u % 64) (by omega)
    rw [e]
    generalize ((192 + u / 64 : Nat) : Int).toNat.toUInt8 = b0 at t0
    generalize ((128 + u % 64 : Nat) : Int).toNat.toUInt8 = b1 at t1
    rw [Lib.decodeL_N]
    show Lib.decodeN ([b0, b1] ++ Y).length b0.toNat b1.toNat _ _ = (u, 2)
    rw [decN2 (by omega) (by simp) (by omega) (by omega)]
    congr 1
    omega
  by_cases h3 : u ≤ 65535
  · have e : Lib.encodeRune (u : Int) = [((224 + u / 4096 : Nat) : Int).toNat.toUInt8, ((128 + u / 64 % 64 : Nat) : Int).toNat.toUInt8, ((128 + u % 64 : Nat) : Int).toNat.toUInt8] := by
      rw [Lib.encodeRune, Lib.encodeRuneZ_three (by omega)]
      simp only [List.map_cons, List.map_nil]
      rfl
    have t0 := tb (224 + u / 4096) (by omega)
    have t1 := tb (128 + u / 64 % 64) (by omega)
    have t2 := tb (128 + u % 64) (by omega)
    rw [e]
    generalize ((224 + u / 4096 : Nat) : Int).toNat.toUInt8 = b0 at t0
    generalize ((128 + u / 64 % 64 : Nat) : Int).toNat.toUInt8 = b1 at t1
    generalize ((128 + u % 64 : Nat) : Int).toNat.toUInt8 = b2 at t2
    rw [Lib.decodeL_N]
    show Lib.decodeN ([b0, b1, b2] ++ Y).length b0.toNat b1.toNat b2.toNat _ = (u, 3)
    rw [decN3 (by omega) (by simp) (by omega) (by omega) (by omega) (by omega)]
    congr 1
    omega
  · have e : Lib.encodeRune (u : Int) = [((240 + u / 262144 : Nat) : Int).toNat.toUInt8, ((128 + u / 4096 % 64 : Nat) : Int).toNat.toUInt8, ((128 + u / 64 % 64 : Nat) : Int).toNat.toUInt8, ((128 + u % 64 : Nat) : Int).toNat.toUInt8] := by
      rw [Lib.encodeRune, Lib.encodeRuneZ_four (by omega) (by omega)]
      simp only [List.map_cons, List.map_nil]
      rfl
    have t0 := tb (240 + u / 262144) (by omega)
    have t1 := tb (128 + u / 4096 % 64) (by omega)
    have t2 := tb (128 + u / 64 % 64) (by omega)
    have t3 := tb (128 + u % 64) (by omega)
    rw [e]
    generalize ((240 + u / 262144 : Nat) : Int).toNat.toUInt8 = b0 at t0
    generalize ((128 + u / 4096 % 64 : Nat) : Int).toNat.toUInt8 = b1 at t1
    generalize ((128 + u / 64 % 64 : Nat) : Int).toNat.toUInt8 = b2 at t2
    generalize ((128 + u % 64 : Nat) : Int).toNat.toUInt8 = b3 at t3
    rw [Lib.decodeL_N]
    show Lib.decodeN ([b0, b1, b2, b3] ++ Y).length b0.toNat b1.toNat b2.toNat b3.toNat = (u, 4)
    rw [decN4 (by omega) (by simp) (by omega) (by omega) (by omega) (by omega) (by omega)]
    congr 1
    omega

theorem valid_enc {r : Int} (hr : vRune r = true) (Y : List UInt8) : Lib.validD (Lib.encodeRune r ++ Y) = Lib.validD Y := by
  have hne : Lib.encodeRune r ++ Y ≠ [] := by
    intro e
    exact enc_ne r (List.append_eq_nil_iff.1 e).1
  rw [Lib.validD_step _ hne, dec_enc hr, List.drop_left]
  rw [if_neg]
  rintro ⟨e1, e2⟩
  simp only at e1 e2
  simp only [vRune, decide_eq_true_eq] at hr
  have : r = 65533 := by omega
  subst this
  revert e2
  decide

theorem enc_bytes {r : Int} (hr : vRune r = true) : ∀ b ∈ Lib.encodeRune r, (r ≤ 127 ∧ (b.toNat : Int) = r) ∨ 128 ≤ b.toNat := by
  simp only [vRune, decide_eq_true_eq] at hr
  intro b hb
  have : u8v b ∈ (Lib.encodeRune r).map u8v := List.mem_map.2 ⟨b, hb, rfl⟩
  rw [← encZ] at this
  obtain ⟨z, hz, e⟩ := List.mem_map.1 this
  simp only [u8v, AV.int.injEq, true_and] at e
  rw [← e]
  unfold Lib.encodeRuneZ at hz
  split at hz
  · simp at hz; omega
  split at hz
  · simp at hz; omega
  split at hz
  · simp at hz; omega
  split at hz
  · simp at hz; omega
  · simp at hz; omega

/-! ### Letters and digits -/
/-! ### One character comes back -/
end Go.SV
