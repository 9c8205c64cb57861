/- Plain laws: texts that may stand without quotes, and what may be put to them. Own text of the prover; nothing is assumed. -/
import Derived.Test.YtaimiohndbajjaaDoorPx
set_option maxRecDepth 100000
namespace Go.SV

theorem plain_iff {L : List Int} (h : AllR L) : plainT (txt L) = true ↔ ∃ a l, L = a :: l ∧ a ≠ 32 ∧ L.getLast? ≠ some 32 ∧ inS a firstR = false ∧ txt L ≠ [45, 45, 45] ∧ txt L ≠ [46, 46, 46] ∧ badR 0 L = false := by
  rw [← plainD_same, plainD, valid_txt L h, rl_txt L h, Bool.true_and]
  cases L with
  | nil =>
    constructor
    · intro e; exact absurd e (by decide)
    · rintro ⟨a, l, e, _⟩; cases e
  | cons a l =>
    show ((!((a == 32) || decide ((a :: l).getLast? = some 32) || inS a firstR || decide (txt (a :: l) = [45, 45, 45]) || decide (txt (a :: l) = [46, 46, 46])) && !badR 0 (a :: l)) = true) ↔ _
    generalize txt (a :: l) = t
    generalize badR 0 (a :: l) = b
    generalize (a :: l).getLast? = z
    generalize hi : inS a firstR = f
    constructor
    · intro e
      simp only [Bool.and_eq_true, Bool.not_eq_true', Bool.or_eq_false_iff, beq_eq_false_iff_ne, decide_eq_false_iff_not] at e
      obtain ⟨⟨⟨⟨⟨e1, e2⟩, e3⟩, e4⟩, e5⟩, e6⟩ := e
      exact ⟨a, l, rfl, e1, e2, by rw [hi]; exact e3, e4, e5, e6⟩
    · rintro ⟨a', l', e, e1, e2, e3, e4, e5, e6⟩
      cases e
      rw [hi] at e3
      simp only [Bool.and_eq_true, Bool.not_eq_true', Bool.or_eq_false_iff, beq_eq_false_iff_ne, decide_eq_false_iff_not]
      exact ⟨⟨⟨⟨⟨e1, e2⟩, e3⟩, e4⟩, e5⟩, e6⟩

theorem badR_not {L : List Int} : badR 0 L = false ↔ (L.any fun r => !may r) = false ∧ (L.any fun r => inS r never) = false ∧ L.getLast? ≠ some 58 ∧ adj2 58 32 L = false ∧ adj2 32 35 L = false := by
  rw [badR_is]
  simp only [show ((0 : Int) == 32) = false from rfl, Bool.false_and, Bool.or_false, Bool.or_eq_false_iff, decide_eq_false_iff_not]
  constructor
  · rintro ⟨⟨⟨⟨a, b⟩, c⟩, d⟩, e⟩; exact ⟨a, b, c, d, e⟩
  · rintro ⟨a, b, c, d, e⟩; exact ⟨⟨⟨⟨a, b⟩, c⟩, d⟩, e⟩
theorem adj2_snoc (a b x : Int) : ∀ L : List Int, adj2 a b (L ++ [x]) = (adj2 a b L || (decide (L.getLast? = some a) && (x == b))) := by
  intro L
  induction L with
  | nil => simp [adj2]
  | cons r L ih =>
    cases L with
    | nil =>
      show ((r == a && x == b) || adj2 a b [x]) = (adj2 a b [r] || (decide (([r] : List Int).getLast? = some a) && (x == b)))
      rw [show adj2 a b [x] = false from rfl, show adj2 a b [r] = false from rfl, Bool.or_false, Bool.false_or, List.getLast?_singleton]
      congr 1
      rw [Bool.eq_iff_iff]
      simp
    | cons y L =>
      have e : adj2 a b (r :: y :: L ++ [x]) = ((r == a && y == b) || adj2 a b (y :: L ++ [x])) := rfl
      rw [e, ih, adj2, List.getLast?_cons_cons, Bool.or_assoc]

theorem plain_valid {t : List UInt8} (h : plainT t = true) : Lib.validD t = true := by
  rw [plainT] at h
  split at h
  · cases h
  · rename_i hn
    cases hv : Lib.validD t with
    | true => rfl
    | false => exact absurd (.inr (.inr (.inr hv))) hn
/-- A text that may stand so, in characters. -/
theorem plain_txt {t : List UInt8} (h : plainT t = true) : ∃ a l, t = txt (a :: l) ∧ AllR (a :: l) ∧ a ≠ 32 ∧ (a :: l).getLast? ≠ some 32 ∧ inS a firstR = false ∧ t ≠ [45, 45, 45] ∧ t ≠ [46, 46, 46] ∧ badR 0 (a :: l) = false := by
  have hv := plain_valid h
  have hR := rl_all hv
  have hs := txt_rl hv
  rw [← hs, plain_iff hR] at h
  obtain ⟨a, l, e, h1, h2, h3, h4, h5, h6⟩ := h
  rw [e] at hR hs h2 h4 h5 h6
  exact ⟨a, l, hs.symm, hR, h1, h2, h3, by rw [← hs]; exact h4, by rw [← hs]; exact h5, h6⟩
theorem enc_one {r : Int} (hr : vRune r = true) {b : UInt8} (hb : b ∈ Lib.encodeRune r) (h : b.toNat < 128) : (b.toNat : Int) = r := by
  have := enc_bytes hr b hb
  omega
theorem plain_bytes {t : List UInt8} (h : plainT t = true) : ∀ b ∈ t, never.contains b = false := by
  obtain ⟨a, l, rfl, hR, _, _, _, _, _, h6⟩ := plain_txt h
  intro b hb
  rw [← Bool.not_eq_true, List.contains_iff_mem]
  intro hm
  have h128 : b.toNat < 128 := by
    have : never.all (fun c => decide (c.toNat < 128)) = true := by decide
    have := List.all_eq_true.1 this b hm
    simpa using this
  rw [txt, List.mem_flatMap] at hb
  obtain ⟨r, hr, hb⟩ := hb
  have he := enc_one (hR r hr) hb h128
  have hn := (badR_not.1 h6).2.1
  rw [List.any_eq_false] at hn
  refine hn r hr ?_
  rw [inS, List.any_eq_true]
  exact ⟨b, hm, by rw [he]; simp⟩

theorem all_snoc {L : List Int} (h : AllR L) {x : Int} (hx : vRune x = true) : AllR (L ++ [x]) := fun r hr => by
  rcases List.mem_append.1 hr with h1 | h1
  · exact h r h1
  · simp at h1; rw [h1]; exact hx

/-- What is no text any more, if it is put to one. -/
theorem plain_more {s : List UInt8} (h : plainT s = true) : plainT (s ++ [58]) = false ∧ plainT (s ++ [32]) = false ∧ plainT (32 :: s) = false ∧ plainT (s ++ [32, 35]) = false ∧ plainT (s ++ [44]) = false ∧ plainT (s ++ [120]) = true ∧ plainT (s ++ [32, 120]) = true := by
  obtain ⟨a, l, rfl, hR, h1, h2, h3, h4, h5, h6⟩ := plain_txt h
  obtain ⟨b1, b2, b3, b4, b5⟩ := badR_not.1 h6
  have e58 : txt (a :: l) ++ [58] = txt (a :: l ++ [58]) := by rw [txt_app]; rfl
  have e32 : txt (a :: l) ++ [32] = txt (a :: l ++ [32]) := by rw [txt_app]; rfl
  have e44 : txt (a :: l) ++ [44] = txt (a :: l ++ [44]) := by rw [txt_app]; rfl
  have e120 : txt (a :: l) ++ [120] = txt (a :: l ++ [120]) := by rw [txt_app]; rfl
  have e35 : txt (a :: l) ++ [32, 35] = txt ((a :: l ++ [32]) ++ [35]) := by rw [txt_app, txt_app, List.append_assoc]; rfl
  have ex : txt (a :: l) ++ [32, 120] = txt ((a :: l ++ [32]) ++ [120]) := by rw [txt_app, txt_app, List.append_assoc]; rfl
  have e0 : (32 : UInt8) :: txt (a :: l) = txt (32 :: a :: l) := by rw [txt_cons 32]; rfl
  have v : ∀ x : Int, (0 ≤ x ∧ x < 128) → vRune x = true := fun x hx => by simp only [vRune, decide_eq_true_eq]; omega
  have lst : ∀ (M : List Int) (x : Int), (M ++ [x]).getLast? = some x := fun M x => by simp
  refine ⟨?_, ?_, ?_, ?_, ?_, ?_, ?_⟩
  · rw [e58, ← Bool.not_eq_true, plain_iff (all_snoc hR (v 58 (by decide)))]
    rintro ⟨_, _, _, _, _, _, _, _, hb⟩
    exact (badR_not.1 hb).2.2.1 (lst _ _)
  · rw [e32, ← Bool.not_eq_true, plain_iff (all_snoc hR (v 32 (by decide)))]
    rintro ⟨_, _, _, _, hl, _⟩
    exact hl (lst _ _)
  · rw [e0, ← Bool.not_eq_true, plain_iff (fun r hr => by
      rcases List.mem_cons.1 hr with rfl | hr
      · exact v 32 (by decide)
      · exact hR r hr)]
    rintro ⟨_, _, e, hne, _⟩
    simp only [List.cons.injEq] at e
    exact hne e.1.symm
  · rw [e35, ← Bool.not_eq_true, plain_iff (all_snoc (all_snoc hR (v 32 (by decide))) (v 35 (by decide)))]
    rintro ⟨_, _, _, _, _, _, _, _, hb⟩
    have := (badR_not.1 hb).2.2.2.2
    rw [adj2_snoc, lst] at this
    simp at this
  · rw [e44, ← Bool.not_eq_true, plain_iff (all_snoc hR (v 44 (by decide)))]
    rintro ⟨_, _, _, _, _, _, _, _, hb⟩
    have := (badR_not.1 hb).2.1
    rw [List.any_append] at this
    have e : ([44] : List Int).any (fun r => inS r never) = true := by decide
    rw [e, Bool.or_true] at this
    cases this
  · rw [e120, plain_iff (all_snoc hR (v 120 (by decide)))]
    refine ⟨a, l ++ [120], rfl, h1, by rw [lst]; decide, h3, ?_, ?_, ?_⟩
    · rw [← e120]; intro e
      have := congrArg List.getLast? e
      simp at this
    · rw [← e120]; intro e
      have := congrArg List.getLast? e
      simp at this
    · rw [badR_not, List.any_append, List.any_append, b1, b2, lst, adj2_snoc, adj2_snoc, b4, b5]
      refine ⟨by decide, by decide, by decide, ?_, ?_⟩
      · rw [show ((120 : Int) == 32) = false from rfl, Bool.and_false]; rfl
      · rw [show ((120 : Int) == 35) = false from rfl, Bool.and_false]; rfl
  · rw [ex, plain_iff (all_snoc (all_snoc hR (v 32 (by decide))) (v 120 (by decide)))]
    refine ⟨a, (l ++ [32]) ++ [120], rfl, h1, by rw [lst]; decide, h3, ?_, ?_, ?_⟩
    · rw [← ex]; intro e
      have := congrArg List.getLast? e
      simp at this
    · rw [← ex]; intro e
      have := congrArg List.getLast? e
      simp at this
    · rw [badR_not, List.any_append, List.any_append, List.any_append, List.any_append, b1, b2, lst, adj2_snoc, adj2_snoc, adj2_snoc, adj2_snoc, b4, b5, lst, decide_eq_false b3, decide_eq_false h2]
      decide

/-- .. and what such a text has not. -/
theorem plain_has {s : List UInt8} (h : plainT s = true) : s ≠ [] ∧ s[0]? ≠ some 32 ∧ s[s.length - 1]? ≠ some 32 ∧ s[s.length - 1]? ≠ some 58 ∧ Lib.contains s [58, 32] = false ∧ Lib.contains s [32, 35] = false := by
  have h0 := h
  rw [plainT] at h
  split at h
  · cases h
  rename_i n1
  split at h
  · cases h
  rename_i n2
  split at h
  · cases h
  rename_i n3
  have hne : s ≠ [] := fun e => n1 (.inl e)
  have last : ∀ c : UInt8, s[s.length - 1]? = some c → suff [c] s = true := by
    intro c hc
    have hl := List.length_pos_iff.2 hne
    have hd : s.drop (s.length - 1) = [c] := by
      rw [List.drop_eq_getElem_cons (by omega), List.drop_eq_nil_of_le (by omega)]
      rw [List.getElem?_eq_getElem (by omega)] at hc
      rw [Option.some.inj hc]
    simp only [suff, List.length_cons, List.length_nil, Bool.and_eq_true, decide_eq_true_eq, beq_iff_eq]
    exact ⟨by omega, hd⟩
  rw [Bool.and_eq_true, Bool.not_eq_true', Bool.not_eq_true'] at h
  refine ⟨hne, ?_, fun e => n3 (.inl (last _ e)), fun e => n3 (.inr (last _ e)), h.1, h.2⟩
  intro e
  cases s with
  | nil => exact hne rfl
  | cons a l =>
    have : a = 32 := by simpa using e
    subst this
    exact n2 (.inl (by show (0 : Int) ≤ Lib.indexByte first 32; decide))

end Go.SV
