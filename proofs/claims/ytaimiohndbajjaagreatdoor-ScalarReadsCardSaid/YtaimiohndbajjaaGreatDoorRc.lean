/- Contracts: the document's characters of a text. Own text of the prover; nothing is assumed. -/
import Derived.Test.YtaimiohndbajjaaGreatDoorRb
set_option maxRecDepth 100000
namespace Go.SV

variable {T : Nat → Option Entry}

theorem decN2 {n b0 b1 b2 b3 : Nat} (h0 : b0 / 32 = 6) (h1 : 1 < n) (h2 : b1 / 64 = 2) (h3 : 128 ≤ b0 % 32 * 64 + b1 % 64) : Lib.decodeN n b0 b1 b2 b3 = (b0 % 32 * 64 + b1 % 64, 2) := by
  unfold Lib.decodeN
  rw [if_neg (by omega), if_pos ⟨h0, h1, h2⟩, if_pos h3]
theorem decN3 {n b0 b1 b2 b3 : Nat} (h0 : b0 / 16 = 14) (h1 : 2 < n) (h2 : b1 / 64 = 2) (h3 : b2 / 64 = 2) (h4 : 2048 ≤ b0 % 16 * 4096 + b1 % 64 * 64 + b2 % 64) (h5 : b0 % 16 * 4096 + b1 % 64 * 64 + b2 % 64 < 55296 ∨ 57344 ≤ b0 % 16 * 4096 + b1 % 64 * 64 + b2 % 64) :
    Lib.decodeN n b0 b1 b2 b3 = (b0 % 16 * 4096 + b1 % 64 * 64 + b2 % 64, 3) := by
  unfold Lib.decodeN
  rw [if_neg (by omega), if_neg (by omega), if_pos ⟨h0, ⟨by omega, h2⟩, h1, h3⟩, if_pos ⟨h4, by omega⟩]
theorem decN4 {n b0 b1 b2 b3 : Nat} (h0 : b0 / 8 = 30) (h1 : 3 < n) (h2 : b1 / 64 = 2) (h3 : b2 / 64 = 2) (h4 : b3 / 64 = 2) (h5 : 65536 ≤ b0 % 8 * 262144 + b1 % 64 * 4096 + b2 % 64 * 64 + b3 % 64) (h6 : b0 % 8 * 262144 + b1 % 64 * 4096 + b2 % 64 * 64 + b3 % 64 ≤ 1114111) :
    Lib.decodeN n b0 b1 b2 b3 = (b0 % 8 * 262144 + b1 % 64 * 4096 + b2 % 64 * 64 + b3 % 64, 4) := by
  unfold Lib.decodeN
  rw [if_neg (by omega), if_neg (by omega), if_neg (by omega), if_pos ⟨h0, ⟨by omega, h2⟩, ⟨by omega, h3⟩, h1, h4⟩, if_pos ⟨h5, by omega⟩]

/-- What the document's steps tell is what the library tells. -/
theorem sp_some {l : List UInt8} {r n : Nat} (h : spS l = some (r, n)) : Lib.decodeL l = (r, n) ∧ ¬ (r = 65533 ∧ n = 1) ∧ 1 ≤ n ∧ n ≤ l.length ∧ vRune r = true := by
  cases l with
  | nil => cases h
  | cons a t =>
    rw [spS] at h
    split at h
    · cases h
    rename_i hn
    have ha := a.toNat_lt
    rw [Lib.decodeL_N]
    have g0 : (a :: t).getD 0 0 = a := rfl
    rw [g0]
    unfold leadS at h hn
    by_cases c1 : a.toNat < 128
    · simp only [if_pos c1, Nat.sub_self, List.take_zero, contS, Option.bind_some] at h
      split at h
      · simp only [Option.some.injEq, Prod.mk.injEq] at h
        obtain ⟨rfl, rfl⟩ := h
        rename_i hv
        exact ⟨Lib.decodeN_ascii _ _ _ _ _ c1, by omega, by omega, by simp, hv.1⟩
      · cases h
    by_cases c2 : 192 ≤ a.toNat ∧ a.toNat < 224
    · simp only [if_neg c1, if_pos c2] at h hn
      cases t with
      | nil => exact absurd hn (by simp)
      | cons b t =>
        have hb := b.toNat_lt
        have g1 : (a :: b :: t).getD 1 0 = b := rfl
        rw [g1]
        simp only [Nat.reduceSub, List.take_succ_cons, List.take_zero, contS] at h
        split at h
        · cases h
        rename_i hb2
        simp only [Option.bind_some] at h
        split at h
        · rename_i hv
          simp only [Option.some.injEq, Prod.mk.injEq] at h
          obtain ⟨rfl, rfl⟩ := h
          have he : 128 ≤ (a.toNat - 192) * 64 + b.toNat - 128 := by
            have h2 := hv.2
            unfold encL at h2
            split at h2
            · cases h2
            · omega
          refine ⟨?_, by omega, by omega, by simp, hv.1⟩
          rw [decN2 (by omega) (by simp) (by omega) (by omega)]
          congr 1
          omega
        · cases h
    by_cases c3 : 224 ≤ a.toNat ∧ a.toNat < 240
    · simp only [if_neg c1, if_neg c2, if_pos c3] at h hn
      cases t with
      | nil => exact absurd hn (by simp)
      | cons b t =>
        cases t with
        | nil => exact absurd hn (by simp)
        | cons c t =>
          have hb := b.toNat_lt
          have hc := c.toNat_lt
          have g1 : (a :: b :: c :: t).getD 1 0 = b := rfl
          have g2 : (a :: b :: c :: t).getD 2 0 = c := rfl
          rw [g1, g2]
          simp only [Nat.reduceSub, List.take_succ_cons, List.take_zero, contS] at h
          split at h
          · cases h
          split at h
          · cases h
          rename_i hb2 hc2
          simp only [Option.bind_some] at h
          split at h
          · rename_i hv
            simp only [Option.some.injEq, Prod.mk.injEq] at h
            obtain ⟨rfl, rfl⟩ := h
            have hv1 := hv.1
            simp only [vRune, decide_eq_true_eq] at hv1
            have he : 2048 ≤ ((a.toNat - 224) * 64 + b.toNat - 128) * 64 + c.toNat - 128 := by
              have h2 := hv.2
              unfold encL at h2
              split at h2
              · cases h2
              split at h2
              · cases h2
              · omega
            refine ⟨?_, by omega, by omega, by simp, hv.1⟩
            rw [decN3 (by omega) (by simp) (by omega) (by omega) (by omega) (by omega)]
            congr 1
            omega
          · cases h
    by_cases c4 : 240 ≤ a.toNat ∧ a.toNat < 248
    · simp only [if_neg c1, if_neg c2, if_neg c3, if_pos c4] at h hn
      cases t with
      | nil => exact absurd hn (by simp)
      | cons b t =>
        cases t with
        | nil => exact absurd hn (by simp)
        | cons c t =>
          cases t with
          | nil => exact absurd hn (by simp)
          | cons d t =>
            have hb := b.toNat_lt
            have hc := c.toNat_lt
            have hd := d.toNat_lt
            have g1 : (a :: b :: c :: d :: t).getD 1 0 = b := rfl
            have g2 : (a :: b :: c :: d :: t).getD 2 0 = c := rfl
            have g3 : (a :: b :: c :: d :: t).getD 3 0 = d := rfl
            rw [g1, g2, g3]
            simp only [Nat.reduceSub, List.take_succ_cons, List.take_zero, contS] at h
            split at h
            · cases h
            split at h
            · cases h
            split at h
            · cases h
            rename_i hb2 hc2 hd2
            simp only [Option.bind_some] at h
            split at h
            · rename_i hv
              simp only [Option.some.injEq, Prod.mk.injEq] at h
              obtain ⟨rfl, rfl⟩ := h
              have hv1 := hv.1
              simp only [vRune, decide_eq_true_eq] at hv1
              have he : 65536 ≤ (((a.toNat - 240) * 64 + b.toNat - 128) * 64 + c.toNat - 128) * 64 + d.toNat - 128 := by
                have h2 := hv.2
                unfold encL at h2
                split at h2
                · cases h2
                split at h2
                · cases h2
                split at h2
                · cases h2
                · omega
              refine ⟨?_, by omega, by omega, by simp, hv.1⟩
              rw [decN4 (by omega) (by simp) (by omega) (by omega) (by omega) (by omega) (by omega)]
              congr 1
              omega
            · cases h
    · simp [if_neg c1, if_neg c2, if_neg c3, if_neg c4] at hn

theorem sp_none {l : List UInt8} (hne : l ≠ []) (h : spS l = none) : Lib.decodeL l = (65533, 1) := by
  cases l with
  | nil => exact absurd rfl hne
  | cons a t =>
    have ha := a.toNat_lt
    rw [Lib.decodeL_N]
    have g0 : (a :: t).getD 0 0 = a := rfl
    rw [g0]
    rw [spS] at h
    unfold leadS at h
    rcases Lib.decodeN_shape (a :: t).length a.toNat ((a :: t).getD 1 0).toNat ((a :: t).getD 2 0).toNat ((a :: t).getD 3 0).toNat with ⟨c, e⟩ | ⟨c1, c2, c3, cv, e⟩ | ⟨c1, c2, c3, c4, cv, cs, e⟩ | ⟨c1, c2, c3, c4, c5, cv, cw, e⟩ | e
    · exfalso
      have hv : vRune ((a.toNat : Nat) : Int) = true := by simp only [vRune, decide_eq_true_eq]; omega
      have hE : encL ((a.toNat : Nat) : Int) = 1 := by rw [encL, if_pos (by omega)]
      simp [if_pos c, contS, hv, hE] at h
    · exfalso
      cases t with
      | nil => simp at c2
      | cons b t =>
        have hb := b.toNat_lt
        have g1 : (a :: b :: t).getD 1 0 = b := rfl
        rw [g1] at c3 cv
        have k1 : ¬ a.toNat < 128 := by omega
        have k2 : 192 ≤ a.toNat ∧ a.toNat < 224 := by omega
        have k3 : ¬ (b.toNat < 128 ∨ 191 < b.toNat) := by omega
        have hr : (((a.toNat - 192) * 64 + b.toNat - 128 : Nat) : Int) = ((a.toNat % 32 * 64 + b.toNat % 64 : Nat) : Int) := by omega
        have hv : vRune (((a.toNat - 192) * 64 + b.toNat - 128 : Nat) : Int) = true := by simp only [vRune, decide_eq_true_eq]; omega
        have hE : encL (((a.toNat - 192) * 64 + b.toNat - 128 : Nat) : Int) = 2 := by rw [encL, if_neg (by omega), if_pos (by omega)]
        simp only [if_neg k1, if_pos k2, Nat.reduceSub, List.take_succ_cons, List.take_zero, contS, if_neg k3, Option.bind_some, hv, hE, and_self, if_true] at h
        split at h
        · rename_i hx
          simp at hx <;> omega
        · cases h
    · exfalso
      cases t with
      | nil => simp at c2
      | cons b t =>
        cases t with
        | nil => simp at c2
        | cons c t =>
          have hb := b.toNat_lt
          have hc := c.toNat_lt
          have g1 : (a :: b :: c :: t).getD 1 0 = b := rfl
          have g2 : (a :: b :: c :: t).getD 2 0 = c := rfl
          rw [g1] at c3 cv cs
          rw [g2] at c4 cv cs
          have k1 : ¬ a.toNat < 128 := by omega
          have k2 : ¬ (192 ≤ a.toNat ∧ a.toNat < 224) := by omega
          have k2' : 224 ≤ a.toNat ∧ a.toNat < 240 := by omega
          have k3 : ¬ (b.toNat < 128 ∨ 191 < b.toNat) := by omega
          have k4 : ¬ (c.toNat < 128 ∨ 191 < c.toNat) := by omega
          have hv : vRune ((((a.toNat - 224) * 64 + b.toNat - 128) * 64 + c.toNat - 128 : Nat) : Int) = true := by simp only [vRune, decide_eq_true_eq]; omega
          have hE : encL ((((a.toNat - 224) * 64 + b.toNat - 128) * 64 + c.toNat - 128 : Nat) : Int) = 3 := by rw [encL, if_neg (by omega), if_neg (by omega), if_pos (by omega)]
          simp only [if_neg k1, if_neg k2, if_pos k2', Nat.reduceSub, List.take_succ_cons, List.take_zero, contS, if_neg k3, if_neg k4, Option.bind_some, hv, hE, and_self, if_true] at h
          split at h
          · rename_i hx
            simp at hx <;> omega
          · cases h
    · exfalso
      cases t with
      | nil => simp at c2
      | cons b t =>
        cases t with
        | nil => simp at c2
        | cons c t =>
          cases t with
          | nil => simp at c2
          | cons d t =>
            have hb := b.toNat_lt
            have hc := c.toNat_lt
            have hd := d.toNat_lt
            have g1 : (a :: b :: c :: d :: t).getD 1 0 = b := rfl
            have g2 : (a :: b :: c :: d :: t).getD 2 0 = c := rfl
            have g3 : (a :: b :: c :: d :: t).getD 3 0 = d := rfl
            rw [g1] at c3 cv cw
            rw [g2] at c4 cv cw
            rw [g3] at c5 cv cw
            have k1 : ¬ a.toNat < 128 := by omega
            have k2 : ¬ (192 ≤ a.toNat ∧ a.toNat < 224) := by omega
            have k2' : ¬ (224 ≤ a.toNat ∧ a.toNat < 240) := by omega
            have k2'' : 240 ≤ a.toNat ∧ a.toNat < 248 := by omega
            have k3 : ¬ (b.toNat < 128 ∨ 191 < b.toNat) := by omega
            have k4 : ¬ (c.toNat < 128 ∨ 191 < c.toNat) := by omega
            have k5 : ¬ (d.toNat < 128 ∨ 191 < d.toNat) := by omega
            have hv : vRune (((((a.toNat - 240) * 64 + b.toNat - 128) * 64 + c.toNat - 128) * 64 + d.toNat - 128 : Nat) : Int) = true := by simp only [vRune, decide_eq_true_eq]; omega
            have hE : encL (((((a.toNat - 240) * 64 + b.toNat - 128) * 64 + c.toNat - 128) * 64 + d.toNat - 128 : Nat) : Int) = 4 := by rw [encL, if_neg (by omega), if_neg (by omega), if_neg (by omega)]
            simp only [if_neg k1, if_neg k2, if_neg k2', if_pos k2'', Nat.reduceSub, List.take_succ_cons, List.take_zero, contS, if_neg k3, if_neg k4, if_neg k5, Option.bind_some, hv, hE, and_self, if_true] at h
            split at h
            · rename_i hx
              simp at hx <;> omega
            · cases h
    · exact e

end Go.SV
