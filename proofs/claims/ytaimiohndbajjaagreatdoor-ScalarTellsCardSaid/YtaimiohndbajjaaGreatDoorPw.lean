/- Plain laws: what the document says of quotes, in characters, is what is written and read, in bytes. Own text of the prover; nothing is assumed. -/
import Derived.Test.YtaimiohndbajjaaGreatDoorPv
import Derived.Test.YtaimiohndbajjaaGreatDoorQk
set_option maxRecDepth 100000
namespace Go.SV

def txt (R : List Int) : List UInt8 := R.flatMap Lib.encodeRune
theorem txt_cons (r : Int) (R : List Int) : txt (r :: R) = Lib.encodeRune r ++ txt R := by simp [txt]
theorem txt_app (A B : List Int) : txt (A ++ B) = txt A ++ txt B := by simp [txt]
theorem enc_asc (u : Nat) (h : u < 128) : Lib.encodeRune (u : Int) = [UInt8.ofNat u] := by
  rw [Lib.encodeRune, Lib.encodeRuneZ_one (by omega) (by omega)]
  rfl
def AllR (R : List Int) : Prop := ∀ r ∈ R, vRune r = true
theorem AllR.tail {r : Int} {R : List Int} (h : AllR (r :: R)) : AllR R := fun x hx => h x (by simp [hx])
theorem AllR.drop {R : List Int} (h : AllR R) (k : Nat) : AllR (R.drop k) := fun x hx => h x (List.mem_of_mem_drop hx)
theorem vr_nat {r : Int} (h : vRune r = true) : ∃ u : Nat, r = u := by
  simp only [vRune, decide_eq_true_eq] at h
  exact ⟨r.toNat, by omega⟩

theorem rl_all {s : List UInt8} (hv : Lib.validD s = true) : AllR (rl s) := (valid_runes s.length s (Nat.le_refl _) hv).1
theorem txt_rl {s : List UInt8} (hv : Lib.validD s = true) : txt (rl s) = s := (valid_runes s.length s (Nat.le_refl _) hv).2
theorem txt_len (R : List Int) : R.length ≤ (txt R).length ∧ (txt R).length ≤ 4 * R.length := by
  induction R with
  | nil => exact ⟨Nat.le_refl _, Nat.le_refl _⟩
  | cons r R ih =>
    rw [txt_cons, List.length_append, List.length_cons]
    have h1 := enc_len r
    have h2 := List.length_pos_iff.2 (enc_ne r)
    omega

theorem rl_le {s : List UInt8} (hv : Lib.validD s = true) : (rl s).length ≤ s.length := by
  have := (txt_len (rl s)).1
  rw [txt_rl hv] at this
  exact this

/-- The first byte of a character. -/
theorem enc_head {r : Int} (hr : vRune r = true) (Y : List UInt8) : ∃ b l, Lib.encodeRune r ++ Y = b :: l ∧ ((∃ u : Nat, u < 128 ∧ r = u ∧ b = UInt8.ofNat u ∧ l = Y) ∨ (128 ≤ b.toNat ∧ 128 ≤ r)) := by
  obtain ⟨u, rfl⟩ := vr_nat hr
  rcases Nat.lt_or_ge u 128 with h | h
  · exact ⟨_, Y, by rw [enc_asc u h]; rfl, .inl ⟨u, h, rfl, rfl, rfl⟩⟩
  · cases he : Lib.encodeRune (u : Int) with
    | nil => exact absurd he (enc_ne _)
    | cons b l =>
      refine ⟨b, l ++ Y, rfl, .inr ⟨?_, by omega⟩⟩
      have := enc_bytes hr b (by rw [he]; simp)
      omega

/-! ### Numbers -/
/-! ### Behind a backslash -/
/-! ### What is read between double quotes -/
/-- The last byte of a text that is an ASCII one is its last character. -/
theorem last_asc {R : List Int} (hR : AllR R) {z : Int} {X : List UInt8} {u : Nat} (hu : u < 128) (h : txt (R ++ [z]) = X ++ [UInt8.ofNat u]) (hz : vRune z = true) : z = u ∧ txt R = X := by
  rw [txt_app] at h
  have e1 : txt [z] = Lib.encodeRune z := by simp [txt]
  rw [e1] at h
  have hm : UInt8.ofNat u ∈ Lib.encodeRune z := by
    have h1 := congrArg List.getLast? h
    rw [List.getLast?_append, List.getLast?_append, List.getLast?_singleton] at h1
    cases hl : (Lib.encodeRune z).getLast? with
    | none => exact absurd (List.getLast?_eq_none_iff.1 hl) (enc_ne z)
    | some y =>
      rw [hl] at h1
      have : y = UInt8.ofNat u := by simpa using h1
      rw [← this]
      exact List.mem_of_getLast? hl
  have hb := enc_bytes hz _ hm
  have e2 : (UInt8.ofNat u).toNat = u := by simp; omega
  rw [e2] at hb
  have hzu : z = u := by omega
  refine ⟨hzu, ?_⟩
  rw [hzu, enc_asc u hu] at h
  exact (List.append_inj_left' h rfl)

/-! ### Single quotes -/
def sglI (L : List Int) : List Int := L.flatMap fun r => if r = 39 then [39, 39] else [r]
theorem sglI_cons (r : Int) (L : List Int) : sglI (r :: L) = (if r = 39 then [39, 39] else [r]) ++ sglI L := by simp [sglI]
theorem dbl_app (A B : List UInt8) : dbl (A ++ B) = dbl A ++ dbl B := by simp [dbl]
theorem dbl_not : ∀ (D : List UInt8), (∀ b ∈ D, b ≠ 39) → dbl D = D := by
  intro D
  induction D with
  | nil => intro _; rfl
  | cons a D ih =>
    intro h
    have : dbl (a :: D) = (if a = 39 then [39, 39] else [a]) ++ dbl D := by simp [dbl]
    rw [this, if_neg (h a (by simp)), ih fun b hb => h b (by simp [hb])]
    rfl
theorem sglI_txt : ∀ (L : List Int), AllR L → txt (sglI L) = dbl (txt L) := by
  intro L
  induction L with
  | nil => intro _; rfl
  | cons r L ih =>
    intro h
    rw [sglI_cons, txt_app, ih h.tail, txt_cons, dbl_app]
    congr 1
    by_cases c : r = 39
    · subst c; kernel_rfl
    · rw [if_neg c, dbl_not]
      · simp [txt]
      · rintro b hb rfl
        have := enc_bytes (h r (by simp)) _ hb
        rcases this with ⟨_, e⟩ | e
        · exact c e.symm
        · revert e; decide
theorem sglI_all {L : List Int} (h : AllR L) : AllR (sglI L) := by
  intro x hx
  rw [sglI, List.mem_flatMap] at hx
  obtain ⟨r, hr, hx⟩ := hx
  split at hx
  · simp at hx; subst hx; decide
  · simp at hx; subst hx; exact h _ hr
theorem sgl_txt {L : List Int} (h : AllR L) : txt (39 :: (sglI L ++ [39])) = sglT (txt L) := by
  rw [sglT, repl_dbl, txt_cons, txt_app, sglI_txt L h]
  rfl
theorem sgl_rl {s : List UInt8} (hv : Lib.validD s = true) : txt (39 :: (sglI (rl s) ++ [39])) = sglT s := by
  rw [sgl_txt (rl_all hv), txt_rl hv]

end Go.SV
