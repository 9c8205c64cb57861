/- Plain laws: what the document says of quotes, in characters, is what is written and read, in bytes. Own text of the prover; nothing is assumed. -/
import Derived.Test.YtaimiohndbajjaaDoorPv
import Derived.Test.YtaimiohndbajjaaDoorQk
set_option maxRecDepth 100000
namespace Go.SV

def txt (R : List Int) : List UInt8 := R.flatMap Lib.encodeRune
theorem txt_cons (r : Int) (R : List Int) : txt (r :: R) = Lib.encodeRune r ++ txt R := by simp [txt]
theorem txt_app (A B : List Int) : txt (A ++ B) = txt A ++ txt B := by simp [txt]
theorem enc_asc (u : Nat) (h : u < 128) : Lib.encodeRune (u : Int) = [UInt8.ofNat u] := by
  rw [Lib.encodeRune, Lib.encodeRuneZ_one (by omega) (by omega)]
  rfl
def AllR (R : List Int) : Prop := ∀ r ∈ R, vRune r = true
theorem AllR.tail {r : Int} {R : List Int} (h : AllR (r :: R)) : AllR R := fun x hx => h x (by simp [hx])
theorem AllR.drop {R : List Int} (h : AllR R) (k : Nat) : AllR (R.drop k) := fun x hx => h x (List.mem_of_mem_drop hx)
theorem vr_nat {r : Int} (h : vRune r = true) : ∃ u : Nat, r = u := by
  simp only [vRune, decide_eq_true_eq] at h
  exact ⟨r.toNat, by omega⟩

theorem rl_enc {r : Int} (hr : vRune r = true) (Y : List UInt8) : rl (Lib.encodeRune r ++ Y) = r :: rl Y := by
  have hne : Lib.encodeRune r ++ Y ≠ [] := fun e => enc_ne r (List.append_eq_nil_iff.1 e).1
  rw [rl_step hne, dec_enc hr, List.drop_left]
  obtain ⟨u, rfl⟩ := vr_nat hr
  rw [Int.toNat_natCast]
theorem rl_txt : ∀ (R : List Int), AllR R → rl (txt R) = R := by
  intro R
  induction R with
  | nil => intro _; rfl
  | cons r R ih => intro h; rw [txt_cons, rl_enc (h r (by simp)), ih h.tail]
theorem valid_txt : ∀ (R : List Int), AllR R → Lib.validD (txt R) = true := by
  intro R
  induction R with
  | nil => intro _; exact Lib.validD_nil
  | cons r R ih => intro h; rw [txt_cons, valid_enc (h r (by simp)), ih h.tail]
theorem rl_all {s : List UInt8} (hv : Lib.validD s = true) : AllR (rl s) := (valid_runes s.length s (Nat.le_refl _) hv).1
theorem txt_rl {s : List UInt8} (hv : Lib.validD s = true) : txt (rl s) = s := (valid_runes s.length s (Nat.le_refl _) hv).2
/-- The first byte of a character. -/
theorem enc_head {r : Int} (hr : vRune r = true) (Y : List UInt8) : ∃ b l, Lib.encodeRune r ++ Y = b :: l ∧ ((∃ u : Nat, u < 128 ∧ r = u ∧ b = UInt8.ofNat u ∧ l = Y) ∨ (128 ≤ b.toNat ∧ 128 ≤ r)) := by
  obtain ⟨u, rfl⟩ := vr_nat hr
  rcases Nat.lt_or_ge u 128 with h | h
  · exact ⟨_, Y, by rw [enc_asc u h]; rfl, .inl ⟨u, h, rfl, rfl, rfl⟩⟩
  · cases he : Lib.encodeRune (u : Int) with
    | nil => exact absurd he (enc_ne _)
    | cons b l =>
      refine ⟨b, l ++ Y, rfl, .inr ⟨?_, by omega⟩⟩
      have := enc_bytes hr b (by rw [he]; simp)
      omega

/-! ### Numbers -/
/-! ### Behind a backslash -/
/-! ### What is read between double quotes -/
/-- The last byte of a text that is an ASCII one is its last character. -/
theorem last_asc {R : List Int} (hR : AllR R) {z : Int} {X : List UInt8} {u : Nat} (hu : u < 128) (h : txt (R ++ [z]) = X ++ [UInt8.ofNat u]) (hz : vRune z = true) : z = u ∧ txt R = X := by
  rw [txt_app] at h
  have e1 : txt [z] = Lib.encodeRune z := by simp [txt]
  rw [e1] at h
  have hm : UInt8.ofNat u ∈ Lib.encodeRune z := by
    have h1 := congrArg List.getLast? h
    rw [List.getLast?_append, List.getLast?_append, List.getLast?_singleton] at h1
    cases hl : (Lib.encodeRune z).getLast? with
    | none => exact absurd (List.getLast?_eq_none_iff.1 hl) (enc_ne z)
    | some y =>
      rw [hl] at h1
      have : y = UInt8.ofNat u := by simpa using h1
      rw [← this]
      exact List.mem_of_getLast? hl
  have hb := enc_bytes hz _ hm
  have e2 : (UInt8.ofNat u).toNat = u := by simp; omega
  rw [e2] at hb
  have hzu : z = u := by omega
  refine ⟨hzu, ?_⟩
  rw [hzu, enc_asc u hu] at h
  exact (List.append_inj_left' h rfl)

/-! ### Single quotes -/
end Go.SV
