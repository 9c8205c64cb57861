/- Plain laws: what the document says of texts without quotes, in characters, is what is said in bytes. Own text of the prover; nothing is assumed. -/
import Derived.Test.YtaimiohndbajjaaDoorPw
set_option maxRecDepth 100000
namespace Go.SV

/-! ### Two characters beside each other -/
def adj2 (a b : Int) : List Int → Bool
  | x :: y :: l => (x == a && y == b) || adj2 a b (y :: l)
  | _ => false
theorem contains_step (x : UInt8) (l p : List UInt8) : Lib.contains (x :: l) p = (p.isPrefixOf (x :: l) || Lib.contains l p) := by
  unfold Lib.contains
  rw [Lib.index]
  have h := Lib.index_ge l p
  by_cases hp : p.isPrefixOf (x :: l) = true
  · rw [if_pos hp, hp]; rfl
  · rw [if_neg hp]
    have hp' : p.isPrefixOf (x :: l) = false := (Bool.not_eq_true _).mp hp
    rw [hp', Bool.false_or]
    by_cases hn : Lib.index l p = -1
    · rw [hn]; rfl
    · have : ¬ ((Lib.index l p == -1) = true) := by simpa using hn
      rw [if_neg this, Bool.eq_iff_iff, decide_eq_true_iff, decide_eq_true_iff]
      omega
theorem contains_skip (p : List UInt8) : ∀ (D Y : List UInt8), (∀ b ∈ D, p.head? ≠ some b) → p ≠ [] → Lib.contains (D ++ Y) p = Lib.contains Y p := by
  intro D
  induction D with
  | nil => intro Y _ _; rfl
  | cons a D ih =>
    intro Y h hp
    rw [List.cons_append, contains_step, ih Y (fun b hb => h b (by simp [hb])) hp]
    cases p with
    | nil => exact absurd rfl hp
    | cons c p =>
      have hc := h a (by simp)
      have : (c == a) = false := by
        rw [beq_eq_false_iff_ne]
        intro e
        exact hc (by rw [e]; rfl)
      rw [List.isPrefixOf, this]
      rfl
theorem two_same (a b : Nat) (ha : a < 128) (hb : b < 128) : ∀ (L : List Int), AllR L → Lib.contains (txt L) [UInt8.ofNat a, UInt8.ofNat b] = adj2 a b L := by
  intro L
  induction L with
  | nil => intro _; rfl
  | cons r L ih =>
    intro h
    have ia := ih h.tail
    have ofa : ∀ {u v : Nat}, u < 128 → v < 128 → (UInt8.ofNat u = UInt8.ofNat v ↔ u = v) := by
      intro u v hu hv
      refine ⟨fun e => ?_, fun e => by rw [e]⟩
      have := congrArg UInt8.toNat e
      simp at this; omega
    obtain ⟨x, l, e, hh | hh⟩ := enc_head (h r (by simp)) (txt L)
    · obtain ⟨u, hu, rfl, rfl, rfl⟩ := hh
      rw [txt_cons, e, contains_step, ia]
      cases L with
      | nil => simp [txt, List.isPrefixOf, adj2]
      | cons r2 L =>
        rw [adj2]
        congr 1
        obtain ⟨y, l2, e2, h2 | h2⟩ := enc_head (h r2 (by simp)) (txt L)
        · obtain ⟨w, hw, rfl, rfl, rfl⟩ := h2
          rw [txt_cons, e2]
          rw [Bool.eq_iff_iff]
          simp only [List.isPrefixOf, Bool.and_true, Bool.and_eq_true, beq_iff_eq]
          rw [ofa ha hu, ofa hb hw]
          omega
        · rw [txt_cons, e2]
          rw [Bool.eq_iff_iff]
          simp only [List.isPrefixOf, Bool.and_true, Bool.and_eq_true, beq_iff_eq]
          have h1 : ¬ (UInt8.ofNat b = y) := by
            rintro rfl
            have := h2.1
            simp at this; omega
          have h3 : ¬ (r2 = (b : Int)) := by have := h2.2; omega
          simp [h1, h3]
    · have hr : ¬ (r = (a : Int)) := by have := hh.2; omega
      have hall : ∀ z ∈ Lib.encodeRune r, ([UInt8.ofNat a, UInt8.ofNat b] : List UInt8).head? ≠ some z := by
        intro z hz e
        have hb := enc_bytes (h r (by simp)) z hz
        have e' : UInt8.ofNat a = z := by simpa using e
        have := hh.2
        have h4 : (UInt8.ofNat a).toNat = a := by simp; omega
        rw [e'] at h4
        omega
      rw [txt_cons, contains_skip _ _ _ hall (by simp), ia]
      cases L with
      | nil => rfl
      | cons r2 L => rw [adj2, beq_eq_false_iff_ne.2 hr, Bool.false_and, Bool.false_or]

/-! ### Ends -/
theorem suff_one (u : Nat) (hu : u < 128) {L : List Int} (h : AllR L) : suff [UInt8.ofNat u] (txt L) = decide (L.getLast? = some (u : Int)) := by
  rw [Bool.eq_iff_iff, decide_eq_true_iff]
  by_cases hne : L = []
  · subst hne; simp [txt, suff]
  have hd := List.dropLast_concat_getLast hne
  have hgl : L.getLast? = some (L.getLast hne) := List.getLast?_eq_some_getLast hne
  rw [hgl, Option.some.injEq]
  have hall : AllR L.dropLast := fun x hx => h x (List.dropLast_subset _ hx)
  have hz : vRune (L.getLast hne) = true := h _ (List.getLast_mem hne)
  constructor
  · intro hs
    simp only [suff, List.length_cons, List.length_nil, Bool.and_eq_true, decide_eq_true_eq, beq_iff_eq] at hs
    have e : txt (L.dropLast ++ [L.getLast hne]) = (txt L).take ((txt L).length - 1) ++ [UInt8.ofNat u] := by
      rw [hd]
      conv => lhs; rw [← List.take_append_drop ((txt L).length - 1) (txt L)]
      rw [show (txt L).length - 1 = (txt L).length - (0 + 1) from rfl, hs.2]
    exact (last_asc hall hu e hz).1
  · intro e
    have e2 : txt L = txt L.dropLast ++ [UInt8.ofNat u] := by
      conv => lhs; rw [← hd]
      rw [txt_app, e, show txt [(u : Int)] = [UInt8.ofNat u] by simp [txt, enc_asc u hu]]
    rw [e2]
    simp [suff]

/-! ### The whole -/
def inS (r : Int) (s : List UInt8) : Bool := s.any fun b => (b.toNat : Int) == r
def firstR : List UInt8 := [45, 63, 58, 44, 91, 93, 123, 125, 35, 38, 42, 33, 124, 62, 39, 34, 37, 64, 96]
/-- Is there something wrong behind a character? -/
def badR : Int → List Int → Bool
  | _, [] => false
  | p, r :: l => (!may r || inS r never) || (((r == 58) && (decide (l = []) || decide (l.head? = some 32))) || ((r == 35) && (p == 32))) || badR r l
theorem badR_is : ∀ (L : List Int) (p : Int), badR p L = ((L.any fun r => !may r) || (L.any fun r => inS r never) || decide (L.getLast? = some 58) || adj2 58 32 L || ((p == 32) && decide (L.head? = some 35)) || adj2 32 35 L) := by
  intro L
  induction L with
  | nil => intro p; simp [badR, adj2]
  | cons r L ih =>
    intro p
    rw [badR, ih r]
    cases L with
    | nil =>
      have e1 : ([r] : List Int).getLast? = some r := rfl
      have e2 : ([] : List Int).getLast? = none := rfl
      simp only [List.any_cons, List.any_nil, e1, e2, List.head?_cons, List.head?_nil, adj2]
      generalize (!may r) = b1
      generalize inS r never = b3
      rw [Bool.eq_iff_iff]
      simp only [Bool.or_eq_true, Bool.and_eq_true, decide_eq_true_eq, beq_iff_eq, Option.some.injEq, reduceCtorEq, and_false, or_false, and_true, true_or, Bool.false_eq_true]
      exact iff_of_eq (by ac_rfl)
    | cons y L =>
      simp only [List.any_cons, List.getLast?_cons_cons, List.head?_cons, adj2]
      generalize (L.any fun r => !may r) = a1
      generalize (L.any fun r => inS r never) = a2
      generalize adj2 58 32 (y :: L) = a4
      generalize adj2 32 35 (y :: L) = a5
      generalize (!may r) = b1
      generalize (!may y) = b2
      generalize inS r never = b3
      generalize inS y never = b4
      rw [Bool.eq_iff_iff]
      simp only [Bool.or_eq_true, Bool.and_eq_true, decide_eq_true_eq, beq_iff_eq, Option.some.injEq, reduceCtorEq, false_or]
      exact iff_of_eq (by ac_rfl)

def plainD (s : List UInt8) : Bool :=
  Lib.validD s && (match rl s with
    | [] => false
    | a :: l => !((a == 32) || decide ((a :: l).getLast? = some 32) || inS a firstR || decide (s = [45, 45, 45]) || decide (s = [46, 46, 46])) && !badR 0 (a :: l))

theorem first_all : (List.range 128).all (fun u => decide ((0 ≤ Lib.indexByte first (UInt8.ofNat u)) ↔ (u = 32 ∨ inS u firstR = true))) = true := by kernel_rfl
theorem first_asc : first.all (fun c => decide (c.toNat < 128)) = true := by decide
theorem never_rl : rl never = never.map (fun b => (b.toNat : Int)) := by kernel_rfl
theorem inS_big {r : Int} (h : 128 ≤ r) {l : List UInt8} (hl : l.all (fun c => decide (c.toNat < 128)) = true) : inS r l = false := by
  rw [inS, List.any_eq_false]
  intro b hb e
  have h1 := List.all_eq_true.1 hl b hb
  simp only [decide_eq_true_eq] at h1
  have : (b.toNat : Int) = r := by simpa using e
  omega
theorem plainD_same (s : List UInt8) : plainD s = plainT s := by
  rw [plainD, plainT]
  cases hv : Lib.validD s with
  | false => rw [if_pos (by simp)]; rfl
  | true =>
    have hR := rl_all hv
    have hs := txt_rl hv
    have hany : ∀ f : Int → Bool, ((runes s).any fun x => f x.2) = (rl s).any f := any_rl s
    have hnv : ∀ r : Int, ((runes never).any fun y => r == y.2) = inS r never := by
      intro r
      rw [any_rl never (fun y => r == y), never_rl, List.any_map, inS]
      congr 1
      funext b
      rw [Bool.eq_iff_iff]
      simp only [Function.comp, beq_iff_eq]
      exact ⟨Eq.symm, Eq.symm⟩
    have hnev : ((runes s).any fun x => (runes never).any fun y => x.2 == y.2) = (rl s).any fun r => inS r never := by
      refine (hany fun r => (runes never).any fun y => r == y.2).trans ?_
      exact congrArg (fun f : Int → Bool => (rl s).any f) (funext hnv)
    have hmy := hany fun r => !may r
    simp only [hnev, hmy]
    have t1 := fun u hu => suff_one u hu hR
    rw [hs] at t1
    have t32 : suff [32] s = decide ((rl s).getLast? = some 32) := t1 32 (by decide)
    have t58 : suff [58] s = decide ((rl s).getLast? = some 58) := t1 58 (by decide)
    have w1 := two_same 58 32 (by decide) (by decide) _ hR
    have w2 := two_same 32 35 (by decide) (by decide) _ hR
    rw [hs] at w1 w2
    have w1' : Lib.contains s [58, 32] = adj2 58 32 (rl s) := w1
    have w2' : Lib.contains s [32, 35] = adj2 32 35 (rl s) := w2
    rw [t32, t58, w1', w2']
    generalize hL : rl s = L at *
    cases L with
    | nil =>
      have : s = [] := by rw [← hs]; rfl
      rw [if_pos (.inl this)]; rfl
    | cons a l =>
      have hne : s ≠ [] := by
        rintro rfl
        rw [rl_nil] at hL
        cases hL
      have hfirst : (0 ≤ Lib.indexByte first (s.headD 0)) ↔ (a = 32 ∨ inS a firstR = true) := by
        obtain ⟨b, m, e, h | h⟩ := enc_head (hR a (by simp)) (txt l)
        · obtain ⟨u, hu, rfl, rfl, rfl⟩ := h
          rw [← hs, txt_cons, e]
          have := List.all_eq_true.1 first_all u (List.mem_range.2 hu)
          simp only [decide_eq_true_eq] at this
          simp only [List.headD_cons]
          rw [this]
          constructor
          · rintro (h | h)
            · exact .inl (by omega)
            · exact .inr h
          · rintro (h | h)
            · exact .inl (by omega)
            · exact .inr h
        · rw [← hs, txt_cons, e]
          simp only [List.headD_cons]
          constructor
          · intro h0
            obtain ⟨i, hi⟩ : ∃ i : Nat, Lib.indexByte first b = i := ⟨(Lib.indexByte first b).toNat, by omega⟩
            have := List.all_eq_true.1 first_asc b (List.mem_of_getElem? (Lib.indexByte_some hi).1)
            simp only [decide_eq_true_eq] at this
            omega
          · rintro (h1 | h1)
            · omega
            · rw [inS_big h.2 (by decide)] at h1; cases h1
      show (true && (!((a == 32) || decide ((a :: l).getLast? = some 32) || inS a firstR || decide (s = [45, 45, 45]) || decide (s = [46, 46, 46])) && !badR 0 (a :: l))) = _
      rw [badR_is]
      simp only [Bool.true_and, show ((0 : Int) == 32) = false from rfl, Bool.false_and, Bool.or_false]
      by_cases c1 : s = [45, 45, 45]
      · rw [if_pos (.inr (.inl c1))]; simp [c1]
      by_cases c2 : s = [46, 46, 46]
      · rw [if_pos (.inr (.inr (.inl c2)))]; simp [c2]
      rw [if_neg (by simp [hne, c1, c2])]
      simp only [ge_iff_le, hfirst]
      rw [decide_eq_false c1, decide_eq_false c2, Bool.or_false, Bool.or_false]
      by_cases f1 : a = 32 ∨ inS a firstR = true
      · rw [if_pos (.inl f1)]
        rcases f1 with f1 | f1 <;> simp [f1]
      have f2 : ¬ (a = 32) := fun e => f1 (.inl e)
      have f3 : inS a firstR = false := by
        cases h : inS a firstR with
        | false => rfl
        | true => exact absurd (.inr h) f1
      rw [beq_eq_false_iff_ne.2 f2, f3]
      cases hn : (a :: l).any fun r => inS r never with
      | true => rw [if_pos (by simp)]; simp
      | false =>
        cases hm : (a :: l).any fun r => !may r with
        | true => rw [if_pos (by simp)]; simp
        | false =>
          rw [if_neg (by simp [f2, f3])]
          by_cases l1 : (a :: l).getLast? = some 32
          · rw [if_pos (by simp [l1])]; simp [l1]
          by_cases l2 : (a :: l).getLast? = some 58
          · rw [if_pos (by simp [l2])]; simp [l2]
          rw [if_neg (by simp [l1, l2]), decide_eq_false l1, decide_eq_false l2]
          cases adj2 58 32 (a :: l) <;> cases adj2 32 35 (a :: l) <;> rfl

end Go.SV
