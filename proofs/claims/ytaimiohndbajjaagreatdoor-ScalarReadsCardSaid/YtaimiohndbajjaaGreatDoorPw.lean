/- Plain laws: what the document says of quotes, in characters, is what is written and read, in bytes. Own text of the prover; nothing is assumed. -/
import Derived.Test.YtaimiohndbajjaaGreatDoorPv
import Derived.Test.YtaimiohndbajjaaGreatDoorQk
set_option maxRecDepth 100000
namespace Go.SV

def txt (R : List Int) : List UInt8 := R.flatMap Lib.encodeRune
theorem txt_cons (r : Int) (R : List Int) : txt (r :: R) = Lib.encodeRune r ++ txt R := by simp [txt]
theorem txt_app (A B : List Int) : txt (A ++ B) = txt A ++ txt B := by simp [txt]
theorem enc_asc (u : Nat) (h : u < 128) : Lib.encodeRune (u : Int) = [UInt8.ofNat u] := by
  rw [Lib.encodeRune, Lib.encodeRuneZ_one (by omega) (by omega)]
  rfl
def AllR (R : List Int) : Prop := ∀ r ∈ R, vRune r = true
theorem AllR.tail {r : Int} {R : List Int} (h : AllR (r :: R)) : AllR R := fun x hx => h x (by simp [hx])
theorem AllR.drop {R : List Int} (h : AllR R) (k : Nat) : AllR (R.drop k) := fun x hx => h x (List.mem_of_mem_drop hx)
theorem vr_nat {r : Int} (h : vRune r = true) : ∃ u : Nat, r = u := by
  simp only [vRune, decide_eq_true_eq] at h
  exact ⟨r.toNat, by omega⟩

theorem rl_enc {r : Int} (hr : vRune r = true) (Y : List UInt8) : rl (Lib.encodeRune r ++ Y) = r :: rl Y := by
  have hne : Lib.encodeRune r ++ Y ≠ [] := fun e => enc_ne r (List.append_eq_nil_iff.1 e).1
  rw [rl_step hne, dec_enc hr, List.drop_left]
  obtain ⟨u, rfl⟩ := vr_nat hr
  rw [Int.toNat_natCast]
theorem rl_txt : ∀ (R : List Int), AllR R → rl (txt R) = R := by
  intro R
  induction R with
  | nil => intro _; rfl
  | cons r R ih => intro h; rw [txt_cons, rl_enc (h r (by simp)), ih h.tail]
theorem valid_txt : ∀ (R : List Int), AllR R → Lib.validD (txt R) = true := by
  intro R
  induction R with
  | nil => intro _; exact Lib.validD_nil
  | cons r R ih => intro h; rw [txt_cons, valid_enc (h r (by simp)), ih h.tail]
theorem rl_all {s : List UInt8} (hv : Lib.validD s = true) : AllR (rl s) := (valid_runes s.length s (Nat.le_refl _) hv).1
theorem txt_rl {s : List UInt8} (hv : Lib.validD s = true) : txt (rl s) = s := (valid_runes s.length s (Nat.le_refl _) hv).2
theorem txt_len (R : List Int) : R.length ≤ (txt R).length ∧ (txt R).length ≤ 4 * R.length := by
  induction R with
  | nil => exact ⟨Nat.le_refl _, Nat.le_refl _⟩
  | cons r R ih =>
    rw [txt_cons, List.length_append, List.length_cons]
    have h1 := enc_len r
    have h2 := List.length_pos_iff.2 (enc_ne r)
    omega

theorem rl_le {s : List UInt8} (hv : Lib.validD s = true) : (rl s).length ≤ s.length := by
  have := (txt_len (rl s)).1
  rw [txt_rl hv] at this
  exact this

/-- The first byte of a character. -/
theorem enc_head {r : Int} (hr : vRune r = true) (Y : List UInt8) : ∃ b l, Lib.encodeRune r ++ Y = b :: l ∧ ((∃ u : Nat, u < 128 ∧ r = u ∧ b = UInt8.ofNat u ∧ l = Y) ∨ (128 ≤ b.toNat ∧ 128 ≤ r)) := by
  obtain ⟨u, rfl⟩ := vr_nat hr
  rcases Nat.lt_or_ge u 128 with h | h
  · exact ⟨_, Y, by rw [enc_asc u h]; rfl, .inl ⟨u, h, rfl, rfl, rfl⟩⟩
  · cases he : Lib.encodeRune (u : Int) with
    | nil => exact absurd he (enc_ne _)
    | cons b l =>
      refine ⟨b, l ++ Y, rfl, .inr ⟨?_, by omega⟩⟩
      have := enc_bytes hr b (by rw [he]; simp)
      omega

/-! ### Numbers -/
def hexNI : Nat → List Int → Nat
  | n, [] => n
  | n, a :: l => hexNI (n * 16 + hexV a.toNat) l
def isHexI (r : Int) : Bool := decide (hexV r.toNat < 16)
def numH (l : List Int) (many : Nat) : Option Nat := if l.length < many then none else if (l.take many).all isHexI = true then some (hexNI 0 (l.take many)) else none

def numB : Nat → Nat → List UInt8 → Option Nat
  | 0, n, _ => some n
  | _ + 1, _, [] => none
  | m + 1, n, a :: l => if isHex a = true then numB m (n * 16 + hexV a.toNat) l else none
def numI : Nat → Nat → List Int → Option Nat
  | 0, n, _ => some n
  | _ + 1, _, [] => none
  | m + 1, n, a :: l => if isHexI a = true then numI m (n * 16 + hexV a.toNat) l else none
theorem numB_is : ∀ (m n : Nat) (s : List UInt8), numB m n s = if s.length < m then none else if (s.take m).all isHex = true then some (hexN n (s.take m)) else none := by
  intro m
  induction m with
  | zero => intro n s; simp [numB, hexN]
  | succ m ih =>
    intro n s
    cases s with
    | nil => simp [numB]
    | cons a l =>
      rw [numB, ih]
      cases hx : isHex a with
      | false => simp [hx]
      | true => simp [hx, hexN]
theorem numI_is : ∀ (m n : Nat) (s : List Int), numI m n s = if s.length < m then none else if (s.take m).all isHexI = true then some (hexNI n (s.take m)) else none := by
  intro m
  induction m with
  | zero => intro n s; simp [numI, hexNI]
  | succ m ih =>
    intro n s
    cases s with
    | nil => simp [numI]
    | cons a l =>
      rw [numI, ih]
      cases hx : isHexI a with
      | false => simp [hx]
      | true => simp [hx, hexNI]
theorem hexV_big {n : Nat} (h : 128 ≤ n) : ¬ hexV n < 16 := by unfold hexV; rw [if_neg (by omega), if_neg (by omega), if_neg (by omega)]; decide
theorem num_same : ∀ (m n : Nat) (R : List Int), AllR R → numB m n (txt R) = numI m n R := by
  intro m
  induction m with
  | zero => intro n R _; rfl
  | succ m ih =>
    intro n R hR
    cases R with
    | nil => rfl
    | cons r R =>
      obtain ⟨b, l, e, h | h⟩ := enc_head (hR r (by simp)) (txt R)
      · obtain ⟨u, hu, rfl, rfl, rfl⟩ := h
        have e1 : (UInt8.ofNat u).toNat = u := by simp; omega
        rw [txt_cons, e, numB, numI, ih _ R hR.tail, isHex, isHexI, e1, Int.toNat_natCast]
      · rw [txt_cons, e, numB, numI, isHex, isHexI, decide_eq_false (hexV_big h.1), decide_eq_false (hexV_big (n := r.toNat) (by omega))]
        rfl
theorem numS_same (m : Nat) {R : List Int} (hR : AllR R) : numS (txt R) m = (numH R m).bind fun n => if vRune n = true then some (n : Int) else none := by
  have h := num_same m 0 R hR
  rw [numB_is, numI_is] at h
  have e1 : numS (txt R) m = (if (txt R).length < m then none else if ((txt R).take m).all isHex = true then some (hexN 0 ((txt R).take m)) else none).bind fun n => if vRune n = true then some (n : Int) else none := by
    rw [numS]
    split
    · simp only [Option.bind_none]
    split
    · simp only [Option.bind_some]
    · simp only [Option.bind_none]
  rw [e1, h, numH]

/-! ### Behind a backslash -/
def meansF : List Int → List UInt8 → Int → Option Int
  | m :: ms, c :: cs, x => if (c.toNat : Int) = x then some m else meansF ms cs x
  | _, _, _ => none
def meansI (x : Int) : Option Int := meansF meant lettersS x
def widthI (x : Int) : Nat := if x = 120 then 2 else if x = 117 then 4 else if x = 85 then 8 else 0
def escI : List Int → Option (Int × Nat)
  | [] => none
  | a :: t => if a = 47 then some (47, 1) else match meansI a with
    | some r => some (r, 1)
    | none => if widthI a = 0 then none else (numH t (widthI a)).bind fun n => if vRune n = true then some ((n : Int), 1 + widthI a) else none

theorem esc_all : (List.range 128).all (fun u => decide (manyS (UInt8.ofNat u) = widthI u ∧ meansS (UInt8.ofNat u) = meansI u ∧ (UInt8.ofNat u = 47 ↔ u = 47) ∧ (widthI u ≠ 0 → u ≠ 47 ∧ meansI u = none))) = true := by kernel_rfl
theorem meansI_big {r : Int} (h : 128 ≤ r) : meansI r = none := by
  have : ∀ (ms : List Int) (cs : List UInt8), (∀ c ∈ cs, c.toNat < 128) → meansF ms cs r = none := by
    intro ms
    induction ms with
    | nil => intro cs _; rfl
    | cons m ms ih =>
      intro cs hc
      cases cs with
      | nil => rfl
      | cons c cs =>
        have := hc c (by simp)
        rw [meansF, if_neg (by omega), ih cs fun x hx => hc x (by simp [hx])]
  exact this _ _ fun c hc => by
    have := List.all_eq_true.1 letters_ascii c hc
    simpa using this
theorem meansS_big {b : UInt8} (h : 128 ≤ b.toNat) : meansS b = none := by
  rw [meansS, if_neg]
  intro h0
  obtain ⟨i, hi⟩ : ∃ i : Nat, Lib.indexByte lettersS b = i := ⟨(Lib.indexByte lettersS b).toNat, by omega⟩
  have := List.all_eq_true.1 letters_ascii b (List.mem_of_getElem? (Lib.indexByte_some hi).1)
  simp only [decide_eq_true_eq] at this
  omega
theorem esc_same {R : List Int} (hR : AllR R) : escS (txt R) = escI R := by
  cases R with
  | nil => rfl
  | cons r R =>
    obtain ⟨b, l, e, h | h⟩ := enc_head (hR r (by simp)) (txt R)
    · obtain ⟨u, hu, rfl, rfl, rfl⟩ := h
      have ha := List.all_eq_true.1 esc_all u (List.mem_range.2 hu)
      simp only [decide_eq_true_eq] at ha
      obtain ⟨a1, a2, a3, a4⟩ := ha
      rw [txt_cons, e, escS, escI, a1, a2, numS_same _ hR.tail]
      by_cases h47 : u = 47
      · subst h47; rfl
      have i47 : ¬ ((u : Int) = 47) := by omega
      by_cases hw : widthI u = 0
      · rw [if_neg (fun x => x hw), if_neg (fun x => h47 (a3.1 x)), if_neg i47]
        cases hm : meansI u with
        | some x => rfl
        | none => simp [hw]
      · rw [if_pos hw, if_neg i47, (a4 hw).2]
        simp only [if_neg hw]
        cases hn : numH R (widthI u) with
        | none => rfl
        | some n =>
          simp only [Option.bind_some]
          split <;> rfl
    · have hb : b ≠ 85 ∧ b ≠ 117 ∧ b ≠ 120 ∧ b ≠ 47 := by refine ⟨?_, ?_, ?_, ?_⟩ <;> rintro rfl <;> exact absurd h.1 (by decide)
      rw [txt_cons, e, escS, escI, manyS, if_neg hb.1, if_neg hb.2.1, if_neg hb.2.2.1, if_neg (by simp), if_neg hb.2.2.2, meansS_big h.1, if_neg (by omega), meansI_big h.2]
      have : widthI r = 0 := by rw [widthI, if_neg (by omega), if_neg (by omega), if_neg (by omega)]
      simp [this]
theorem drop_same : ∀ (k : Nat) (R : List Int), AllR R → (∀ b ∈ (txt R).take k, b.toNat < 128) → (txt R).drop k = txt (R.drop k) := by
  intro k
  induction k with
  | zero => intro R _ _; rfl
  | succ k ih =>
    intro R hR hb
    cases R with
    | nil => rfl
    | cons r R =>
      obtain ⟨b, l, e, h | h⟩ := enc_head (hR r (by simp)) (txt R)
      · obtain ⟨u, hu, rfl, rfl, rfl⟩ := h
        rw [txt_cons, e] at hb ⊢
        rw [List.drop_succ_cons, List.drop_succ_cons]
        exact ih R hR.tail fun x hx => hb x (by rw [List.take_succ_cons]; simp [hx])
      · have := hb b (by rw [txt_cons, e, List.take_succ_cons]; simp)
        omega

/-! ### What is read between double quotes -/
def unqI : Nat → List Int → Option (List Int)
  | _, [] => some []
  | 0, _ => none
  | n + 1, r :: l => if r = 34 ∨ r = 10 then none else if r = 92 then (escI l).bind fun p => (unqI n (l.drop p.2)).map (p.1 :: ·) else (unqI n l).map (r :: ·)
theorem unq_same : ∀ (k : Nat) (R : List Int) (n m : Nat), R.length ≤ k → R.length ≤ m → (txt R).length ≤ n → AllR R → unqF n (txt R) = (unqI m R).map txt := by
  intro k
  induction k with
  | zero =>
    intro R n m h _ _ _
    have : R = [] := List.length_eq_zero_iff.1 (by omega)
    subst this
    cases n <;> cases m <;> rfl
  | succ k ih =>
    intro R n m h1 h2 h3 hR
    cases R with
    | nil => cases n <;> cases m <;> rfl
    | cons r R =>
      rw [txt_cons, List.length_append] at h3
      rw [List.length_cons] at h1 h2
      have hp := List.length_pos_iff.2 (enc_ne r)
      obtain ⟨m, rfl⟩ : ∃ q, m = q + 1 := ⟨m - 1, by omega⟩
      obtain ⟨n, rfl⟩ : ∃ q, n = q + 1 := ⟨n - 1, by omega⟩
      have hr := hR r (by simp)
      rw [txt_cons, unqI]
      by_cases c1 : r = 34 ∨ r = 10
      · rw [if_pos c1]
        rcases c1 with rfl | rfl
        · rw [show Lib.encodeRune 34 = [34] from enc_asc 34 (by decide), List.singleton_append, unqF, if_pos (.inl rfl)]; rfl
        · rw [show Lib.encodeRune 10 = [10] from enc_asc 10 (by decide), List.singleton_append, unqF, if_pos (.inr rfl)]; rfl
      rw [if_neg c1]
      by_cases c2 : r = 92
      · subst c2
        rw [show Lib.encodeRune 92 = [92] from enc_asc 92 (by decide), List.singleton_append, unqF, if_neg (by decide), if_pos rfl, if_pos rfl, esc_same hR.tail]
        cases he : escI R with
        | none => rfl
        | some p =>
          obtain ⟨x, q⟩ := p
          have hs := esc_same hR.tail
          rw [he] at hs
          have hd := drop_same q R hR.tail (esc_ascii hs)
          have hl := congrArg List.length hd
          have ht := (txt_len (R.drop q)).1
          rw [List.length_drop] at hl
          simp only [Option.bind_some]
          rw [hd, ih (R.drop q) n m (by rw [List.length_drop]; omega) (by rw [List.length_drop]; omega) (by omega) (hR.tail.drop q)]
          cases unqI m (R.drop q) with
          | none => rfl
          | some t => simp [txt_cons]
      · rw [if_neg c2]
        have hpl := (unqF_plain (Lib.encodeRune r) (txt R) (n + 1) (fun b hb => by
          have h := enc_bytes hr b hb
          refine ⟨?_, ?_, ?_⟩ <;> rintro rfl
          · rcases h with ⟨_, e⟩ | e
            · exact c1 (.inl e.symm)
            · revert e; decide
          · rcases h with ⟨_, e⟩ | e
            · exact c1 (.inr e.symm)
            · revert e; decide
          · rcases h with ⟨_, e⟩ | e
            · exact c2 e.symm
            · revert e; decide) (by omega)).1
        rw [hpl, ih R _ m (by omega) (by omega) (by omega) hR.tail]
        cases unqI m R with
        | none => rfl
        | some t => simp [txt_cons]

def innerI (L : List Int) : List Int := (L.take (L.length - 1)).drop 1
theorem innerI_is (a z : Int) (M : List Int) : innerI (a :: (M ++ [z])) = M := by
  have h1 : (a :: (M ++ [z])).length - 1 = M.length + 1 := by simp
  rw [innerI, h1, List.take_succ_cons, List.take_left]
  rfl
def unqC (L : List Int) : Bool := decide (2 ≤ L.length) && (decide (L[0]? = some 34) && decide (L[L.length - 1]? = some 34))
theorem ends_is {L : List Int} {q : Int} (h2 : 2 ≤ L.length) (h0 : L[0]? = some q) (h1 : L[L.length - 1]? = some q) : ∃ M, L = q :: (M ++ [q]) := by
  cases L with
  | nil => simp at h2
  | cons a L =>
    simp only [List.length_cons] at h2
    obtain rfl : a = q := by simpa using h0
    have hne : L ≠ [] := by rintro rfl; simp at h2
    refine ⟨L.dropLast, ?_⟩
    congr 1
    have e : L.getLast hne = a := by
      have h3 : (a :: L)[(a :: L).length - 1]? = some (L.getLast hne) := by
        rw [← List.getLast?_eq_getElem?, List.getLast?_cons, List.getLast?_eq_some_getLast hne]; rfl
      rw [h3] at h1
      exact Option.some.inj h1
    rw [← e]
    exact (List.dropLast_concat_getLast hne).symm
theorem endsB_is {L : List UInt8} {q : UInt8} (h2 : 2 ≤ L.length) (h0 : L[0]? = some q) (h1 : L[L.length - 1]? = some q) : ∃ M, L = q :: (M ++ [q]) := by
  cases L with
  | nil => simp at h2
  | cons a L =>
    simp only [List.length_cons] at h2
    obtain rfl : a = q := by simpa using h0
    have hne : L ≠ [] := by rintro rfl; simp at h2
    refine ⟨L.dropLast, ?_⟩
    congr 1
    have e : L.getLast hne = a := by
      have h3 : (a :: L)[(a :: L).length - 1]? = some (L.getLast hne) := by
        rw [← List.getLast?_eq_getElem?, List.getLast?_cons, List.getLast?_eq_some_getLast hne]; rfl
      rw [h3] at h1
      exact Option.some.inj h1
    rw [← e]
    exact (List.dropLast_concat_getLast hne).symm

/-- The last byte of a text that is an ASCII one is its last character. -/
theorem last_asc {R : List Int} (hR : AllR R) {z : Int} {X : List UInt8} {u : Nat} (hu : u < 128) (h : txt (R ++ [z]) = X ++ [UInt8.ofNat u]) (hz : vRune z = true) : z = u ∧ txt R = X := by
  rw [txt_app] at h
  have e1 : txt [z] = Lib.encodeRune z := by simp [txt]
  rw [e1] at h
  have hm : UInt8.ofNat u ∈ Lib.encodeRune z := by
    have h1 := congrArg List.getLast? h
    rw [List.getLast?_append, List.getLast?_append, List.getLast?_singleton] at h1
    cases hl : (Lib.encodeRune z).getLast? with
    | none => exact absurd (List.getLast?_eq_none_iff.1 hl) (enc_ne z)
    | some y =>
      rw [hl] at h1
      have : y = UInt8.ofNat u := by simpa using h1
      rw [← this]
      exact List.mem_of_getLast? hl
  have hb := enc_bytes hz _ hm
  have e2 : (UInt8.ofNat u).toNat = u := by simp; omega
  rw [e2] at hb
  have hzu : z = u := by omega
  refine ⟨hzu, ?_⟩
  rw [hzu, enc_asc u hu] at h
  exact (List.append_inj_left' h rfl)

theorem unqC_same {s : List UInt8} (hv : Lib.validD s = true) : unqOk s = unqC (rl s) := by
  have hR := rl_all hv
  have hs := txt_rl hv
  have two : ∀ {a z : UInt8} {M : List UInt8}, (a :: (M ++ [z]))[(a :: (M ++ [z])).length - 1]? = some z := by intro a z M; simp
  have twoI : ∀ {a z : Int} {M : List Int}, (a :: (M ++ [z]))[(a :: (M ++ [z])).length - 1]? = some z := by intro a z M; simp
  rw [Bool.eq_iff_iff]
  constructor
  · intro h
    simp only [unqOk, Bool.and_eq_true, decide_eq_true_eq] at h
    obtain ⟨_, h2, h0, h1⟩ := h
    obtain ⟨X, hX⟩ := endsB_is h2 h0 h1
    generalize rl s = R at hR hs
    cases R with
    | nil => rw [← hs] at h2; exact absurd h2 (by decide)
    | cons r R =>
      rw [txt_cons] at hs
      obtain ⟨b, l, e, h | h⟩ := enc_head (hR r (by simp)) (txt R)
      rotate_left
      · rw [e, hX] at hs
        simp only [List.cons.injEq] at hs
        have := h.1
        rw [hs.1] at this
        exact absurd this (by decide)
      obtain ⟨u, hu, rfl, rfl, rfl⟩ := h
      rw [e, hX] at hs
      simp only [List.cons.injEq] at hs
      obtain ⟨q1, q2⟩ := hs
      have hu34 : u = 34 := by
        have := congrArg UInt8.toNat q1
        simp at this; omega
      subst hu34
      have hne : R ≠ [] := by
        rintro rfl
        have := congrArg List.length q2
        simp [txt] at this
      have hd := List.dropLast_concat_getLast hne
      rw [← hd] at q2
      obtain ⟨z1, _⟩ := last_asc (u := 34) (fun x hx => hR x (by simp [List.dropLast_subset _ hx])) (by decide) q2 (hR _ (by simp))
      rw [← hd, z1]
      simp only [unqC, Bool.and_eq_true, decide_eq_true_eq]
      exact ⟨by simp, rfl, twoI⟩
  · intro h
    simp only [unqC, Bool.and_eq_true, decide_eq_true_eq] at h
    obtain ⟨h2, h0, h1⟩ := h
    obtain ⟨M, hM⟩ := ends_is h2 h0 h1
    rw [hM] at hs
    have e : txt (34 :: (M ++ [34])) = 34 :: (txt M ++ [34]) := by
      rw [txt_cons, txt_app]; rfl
    rw [e] at hs
    simp only [unqOk, Bool.and_eq_true, decide_eq_true_eq]
    refine ⟨hv, ?_⟩
    rw [← hs]
    exact ⟨by simp, rfl, two⟩

/-- What the document reads between double quotes. -/
def unqD (s : List UInt8) : Option (List UInt8) := if (Lib.validD s && unqC (rl s)) = true then (unqI (rl s).length (innerI (rl s))).map txt else none
theorem unqD_same (s : List UInt8) : unqD s = unqS s := by
  rw [unqD, unqS]
  cases hv : Lib.validD s with
  | false => rw [show unqOk s = false by rw [unqOk, hv]; rfl]; rfl
  | true =>
    rw [unqC_same hv, Bool.true_and]
    by_cases hc : unqC (rl s) = true
    · rw [if_pos hc, if_pos hc]
      simp only [unqC, Bool.and_eq_true, decide_eq_true_eq] at hc
      obtain ⟨M, hM⟩ := ends_is hc.1 hc.2.1 hc.2.2
      have hR := rl_all hv
      have hs := txt_rl hv
      have e : txt (34 :: (M ++ [34])) = 34 :: (txt M ++ [34]) := by
        rw [txt_cons, txt_app]; rfl
      rw [hM] at hs hR ⊢
      rw [e] at hs
      rw [innerI_is, ← hs, inner_is]
      have hl : (34 :: (txt M ++ [34])).length = (txt M).length + 2 := by simp
      have hl2 : (34 :: (M ++ [34]) : List Int).length = M.length + 2 := by simp
      rw [hl, hl2]
      exact (unq_same M.length M _ _ (Nat.le_refl _) (by omega) (by omega) fun x hx => hR x (by simp [hx])).symm
    · rw [if_neg hc, if_neg hc]

/-! ### Single quotes -/
def sglI (L : List Int) : List Int := L.flatMap fun r => if r = 39 then [39, 39] else [r]
theorem sglI_cons (r : Int) (L : List Int) : sglI (r :: L) = (if r = 39 then [39, 39] else [r]) ++ sglI L := by simp [sglI]
theorem dbl_app (A B : List UInt8) : dbl (A ++ B) = dbl A ++ dbl B := by simp [dbl]
theorem dbl_not : ∀ (D : List UInt8), (∀ b ∈ D, b ≠ 39) → dbl D = D := by
  intro D
  induction D with
  | nil => intro _; rfl
  | cons a D ih =>
    intro h
    have : dbl (a :: D) = (if a = 39 then [39, 39] else [a]) ++ dbl D := by simp [dbl]
    rw [this, if_neg (h a (by simp)), ih fun b hb => h b (by simp [hb])]
    rfl
theorem sglI_txt : ∀ (L : List Int), AllR L → txt (sglI L) = dbl (txt L) := by
  intro L
  induction L with
  | nil => intro _; rfl
  | cons r L ih =>
    intro h
    rw [sglI_cons, txt_app, ih h.tail, txt_cons, dbl_app]
    congr 1
    by_cases c : r = 39
    · subst c; kernel_rfl
    · rw [if_neg c, dbl_not]
      · simp [txt]
      · rintro b hb rfl
        have := enc_bytes (h r (by simp)) _ hb
        rcases this with ⟨_, e⟩ | e
        · exact c e.symm
        · revert e; decide
theorem sglI_all {L : List Int} (h : AllR L) : AllR (sglI L) := by
  intro x hx
  rw [sglI, List.mem_flatMap] at hx
  obtain ⟨r, hr, hx⟩ := hx
  split at hx
  · simp at hx; subst hx; decide
  · simp at hx; subst hx; exact h _ hr
theorem sgl_txt {L : List Int} (h : AllR L) : txt (39 :: (sglI L ++ [39])) = sglT (txt L) := by
  rw [sglT, repl_dbl, txt_cons, txt_app, sglI_txt L h]
  rfl
theorem sgl_rl {s : List UInt8} (hv : Lib.validD s = true) : txt (39 :: (sglI (rl s) ++ [39])) = sglT s := by
  rw [sgl_txt (rl_all hv), txt_rl hv]

def unI : Nat → List Int → List Int
  | _, [] => []
  | 0, _ => []
  | n + 1, r :: l => r :: (if r = 39 then unI n (l.drop 1) else unI n l)
theorem unI_back : ∀ (X : List Int) (n : Nat), (sglI X).length ≤ n → unI n (sglI X) = X := by
  intro X
  induction X with
  | nil => intro n _; cases n <;> rfl
  | cons r X ih =>
    intro n h
    rw [sglI_cons, List.length_append] at h
    rw [sglI_cons]
    by_cases c : r = 39
    · rw [if_pos c] at h ⊢
      simp only [List.length_cons, List.length_nil] at h
      obtain ⟨n, rfl⟩ : ∃ q, n = q + 1 := ⟨n - 1, by omega⟩
      rw [List.cons_append, unI, if_pos rfl, List.cons_append, List.drop_succ_cons, List.drop_zero, List.nil_append, ih n (by omega), c]
    · rw [if_neg c] at h ⊢
      simp only [List.length_cons, List.length_nil] at h
      obtain ⟨n, rfl⟩ : ∃ q, n = q + 1 := ⟨n - 1, by omega⟩
      rw [List.cons_append, unI, if_neg c, List.nil_append, ih n (by omega)]
/-- What the document would read between single quotes. -/
def usgC (s : List UInt8) : List UInt8 := txt (unI (rl s).length (innerI (rl s)))
def usgD (s : List UInt8) : AV := if Lib.validD s = true ∧ 2 ≤ (rl s).length ∧ sglOk (usgC s) = true ∧ sglT (usgC s) = s then .tup [.str (usgC s), .int .i64 0] else .tup [.str [], .int .i64 10]
theorem usgC_back {A : List UInt8} (h : sglOk A = true) : usgC (sglT A) = A ∧ Lib.validD (sglT A) = true ∧ 2 ≤ (rl (sglT A)).length := by
  have hv : Lib.validD A = true := by
    rw [sglOk, Bool.and_eq_true] at h; exact h.1
  have hall : AllR (39 :: (sglI (rl A) ++ [39])) := by
    intro x hx
    simp only [List.mem_cons, List.mem_append, List.mem_singleton, List.not_mem_nil, or_false] at hx
    rcases hx with rfl | hx | rfl
    · decide
    · exact sglI_all (rl_all hv) x hx
    · decide
  have e : rl (sglT A) = 39 :: (sglI (rl A) ++ [39]) := by rw [← sgl_rl hv, rl_txt _ hall]
  refine ⟨?_, ?_, ?_⟩
  · rw [usgC, e, innerI_is, unI_back _ _ (by simp; omega), txt_rl hv]
  · rw [← sgl_rl hv, valid_txt _ hall]
  · rw [e]; simp
theorem usgD_same (s : List UInt8) : usgD s = usgR s := by
  rw [usgD, usgR]
  by_cases h1 : Lib.validD s = true ∧ 2 ≤ (rl s).length ∧ sglOk (usgC s) = true ∧ sglT (usgC s) = s
  · rw [if_pos h1]
    obtain ⟨_, _, h3, h4⟩ := h1
    have e : usgT s = usgC s := by
      have := usg_back (usgC s)
      rw [h4] at this
      exact this
    rw [e, if_pos ⟨by rw [← h4, sglT]; simp, h3, h4⟩]
  · rw [if_neg h1, if_neg]
    rintro ⟨_, h3, h4⟩
    obtain ⟨a, b, c⟩ := usgC_back h3
    rw [h4] at a b c
    exact h1 ⟨b, c, by rw [a]; exact h3, by rw [a]; exact h4⟩

end Go.SV
