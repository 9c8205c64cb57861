/- Contracts: the document's words for quotes: what is read. Own text of the prover; nothing is assumed. -/
import Derived.Test.YtaimiohndbajjaaGreatDoorRe
set_option maxRecDepth 100000
namespace Go.SV

variable {T : Nat → Option Entry}

theorem hexV_is (n : Nat) : (hexV n < 16 ↔ (48 ≤ n ∧ n ≤ 57) ∨ (97 ≤ n ∧ n ≤ 102) ∨ (65 ≤ n ∧ n ≤ 70)) ∧ (48 ≤ n ∧ n ≤ 57 → hexV n = n - 48) ∧ (97 ≤ n ∧ n ≤ 102 → hexV n = n - 87) ∧ (65 ≤ n ∧ n ≤ 70 → hexV n = n - 55) := by
  unfold hexV
  split
  · omega
  split
  · omega
  split <;> omega
theorem rdigit_ok (hT : Has T) (c : Int) (H : AH) : Den.of T 76 [.int .i64 c] H = some (.int .i64 (if isHexI c = true then (hexV c.toNat : Int) else -1), H) := by
  refine eq_of (w76_ok hT ?_)
  unfold w76
  obtain ⟨h0, h1, h2, h3⟩ := hexV_is c.toNat
  have two : ∀ {lo hi : Int} {x : AV → AH → Prop}, (∀ t : Bool, t = decide (lo ≤ c ∧ c ≤ hi) → x (.bool t) H) → gP (aBin .geq (.int .i64 c) (.int .i64 lo)) fun y => dP y true (gP (aBin .leq (.int .i64 c) (.int .i64 hi)) fun z => x z H) (x (.bool false) H) := by
    intro lo hi x h
    refine Stp.go ?_
    refine d_t ?_
    refine i_c (fun h1 => ?_) (fun h1 => ?_)
    · refine Stp.go ?_
      refine h _ ?_
      rw [Bool.eq_iff_iff, decide_eq_true_iff, decide_eq_true_iff]
      omega
    · refine h _ ?_
      symm
      rw [decide_eq_false_iff_not]
      omega
  refine j1 (fun x H' => x = .bool (decide (48 ≤ c ∧ c ≤ 57)) ∧ H = H') ?_ (fun j hj => two (lo := 48) (hi := 57) fun t ht => hj _ _ ⟨by rw [ht], rfl⟩)
  rintro _ _ ⟨rfl, rfl⟩
  refine i_c (fun hh => ?_) (fun n1 => ?_)
  · refine g_sub64 (by omega) ?_
    refine ⟨?_, rfl⟩
    rw [if_pos (by rw [isHexI, decide_eq_true_iff]; omega), h1 (by omega)]
    congr 1; omega
  refine j1 (fun x H' => x = .bool (decide (97 ≤ c ∧ c ≤ 102)) ∧ H = H') ?_ (fun j hj => two (lo := 97) (hi := 102) fun t ht => hj _ _ ⟨by rw [ht], rfl⟩)
  rintro _ _ ⟨rfl, rfl⟩
  refine i_c (fun hh => ?_) (fun n2 => ?_)
  · refine g_sub64 (by omega) ?_
    refine g_add64 (by omega) ?_
    refine ⟨?_, rfl⟩
    rw [if_pos (by rw [isHexI, decide_eq_true_iff]; omega), h2 (by omega)]
    congr 1; omega
  refine j1 (fun x H' => x = .bool (decide (65 ≤ c ∧ c ≤ 70)) ∧ H = H') ?_ (fun j hj => two (lo := 65) (hi := 70) fun t ht => hj _ _ ⟨by rw [ht], rfl⟩)
  rintro _ _ ⟨rfl, rfl⟩
  refine i_c (fun hh => ?_) (fun n3 => ?_)
  · refine g_sub64 (by omega) ?_
    refine g_add64 (by omega) ?_
    refine ⟨?_, rfl⟩
    rw [if_pos (by rw [isHexI, decide_eq_true_iff]; omega), h3 (by omega)]
    congr 1; omega
  · refine ⟨?_, rfl⟩
    rw [if_neg (by rw [isHexI, decide_eq_true_iff]; omega)]

theorem rnumber_ok (hT : Has T) {v : AV} {l : List Int} (hv : RowOf 1 IsI v l) (hl : l.length < 2 ^ 60) (many : Nat) (hm : many ≤ 8) (H : AH) :
    Den.of T 58 [v, .int .i64 many] H = some (.int .i64 (match numH l many with | some n => (n : Int) | none => -1), H) := by
  refine eq_of (w58_ok hT ?_)
  unfold w58
  refine g_lenW hv ?_
  refine Stp.go ?_
  refine i_c (fun h => ?_) (fun h => ?_)
  · exact ⟨by rw [numH, if_pos (by omega)], rfl⟩
  have hnI : numH l many = numI many 0 l := (numI_is many 0 l).symm
  rw [hnI]
  refine l2 (fun m x y H' => ∃ i n : Nat, x = .int .i64 n ∧ y = .int .i64 i ∧ i ≤ many ∧ H = H' ∧ m = many - i ∧ n < 16 ^ i ∧ numI many 0 l = numI (many - i) n (l.drop i)) many ⟨0, 0, rfl, rfl, Nat.zero_le _, rfl, rfl, by decide, rfl⟩ ?_
  rintro m _ _ _ ⟨i, n, rfl, rfl, hi, rfl, hmm, hn, he⟩
  have hp8 : 16 ^ i ≤ 16 ^ 8 := Nat.pow_le_pow_right (by decide) (by omega)
  have h88 : (16 : Nat) ^ 8 = 4294967296 := by decide
  refine Stp.go ?_
  refine i_c (fun h2 => ?_) (fun h2 => ?_)
  · have hlt : i < l.length := by omega
    have hgi := List.getElem?_eq_getElem hlt
    rw [List.drop_eq_getElem_cons hlt, show many - i = (many - (i + 1)) + 1 by omega, numI] at he
    generalize l[i] = c at *
    refine g_atIn hv hgi ?_
    refine g_ldv ?_
    refine c_eq (rdigit_ok hT c H) ?_
    by_cases hx : isHexI c = true
    · rw [if_pos hx] at he ⊢
      have h16 : hexV c.toNat < 16 := by simpa [isHexI] using hx
      refine Stp.go ?_
      refine i_cF (by omega) ?_
      refine g_mul64 (by omega) ?_
      refine g_atIn hv hgi ?_
      refine g_ldv ?_
      refine c_eq (rdigit_ok hT c H) ?_
      rw [if_pos hx]
      refine g_add64 (by omega) ?_
      refine g_add64 (by omega) ?_
      exact ⟨many - (i + 1), by omega, i + 1, n * 16 + hexV c.toNat, by congr 1, by congr 1, by omega, rfl, rfl, by rw [Nat.pow_succ]; omega, he⟩
    · rw [if_neg hx] at he ⊢
      refine Stp.go ?_
      refine i_cT (by decide) ?_
      exact ⟨by rw [he], rfl⟩
  · have : i = many := by omega
    subst this
    rw [Nat.sub_self, numI] at he
    exact ⟨by rw [he], rfl⟩

theorem rwidth_ok (hT : Has T) (c : Int) (H : AH) : Den.of T 59 [.int .i64 c] H = some (.int .i64 (widthI c), H) := by
  refine eq_of (w59_ok hT ?_)
  unfold w59
  refine Stp.go ?_
  refine i_c (fun h => ⟨by rw [widthI, if_pos h]; rfl, rfl⟩) (fun h => ?_)
  refine Stp.go ?_
  refine i_c (fun h2 => ⟨by rw [widthI, if_neg h, if_pos h2]; rfl, rfl⟩) (fun h2 => ?_)
  refine Stp.go ?_
  refine i_c (fun h3 => ⟨by rw [widthI, if_neg h, if_neg h2, if_pos h3]; rfl, rfl⟩) (fun h3 => ⟨by rw [widthI, if_neg h, if_neg h2, if_neg h3]; rfl, rfl⟩)
theorem width_le (c : Int) : widthI c ≤ 8 := by
  unfold widthI
  split
  · decide
  split
  · decide
  split <;> decide

def escR (l : List Int) : AV := match escI l with
  | some (r, k) => .tup [.int .i64 r, .int .i64 (k : Nat)]
  | none => .tup [.int .i64 (-1), .int .i64 0]
theorem rmeant_ok (hT : Has T) {v : AV} {l : List Int} (hv : RowOf 1 IsI v l) (hl : l.length < 2 ^ 60) (H : AH) :
    Den.of T 39 [v] H = some (escR l, H) := by
  refine eq_of (w39_ok hT ?_)
  unfold w39
  refine g_lenW hv ?_
  refine Stp.go ?_
  cases l with
  | nil =>
    refine i_T rfl ?_
    exact ⟨rfl, rfl⟩
  | cons a t =>
  refine i_cF (by simp; omega) ?_
  refine g_atI hv (by decide) rfl ?_
  refine g_ldv ?_
  refine Stp.go ?_
  refine i_c (fun h => ?_) (fun h => ?_)
  · exact ⟨by rw [escR, escI, if_pos h]; rfl, rfl⟩
  refine c_i (rtable_ok hT H) ?_
  rintro tb _ ⟨htb, rfl⟩
  refine l1 (fun n x H' => ∃ i : Nat, x = .int .i64 i ∧ i ≤ 15 ∧ n = 15 - i ∧ H = H' ∧ meansI a = meansF (meant.drop i) (lettersS.drop i) a) 15 ⟨0, rfl, by decide, rfl, rfl, rfl⟩ ?_
  rintro n _ _ ⟨i, rfl, hi, hn, rfl, he⟩
  refine g_lenW htb ?_
  rw [tableL_len]
  refine Stp.go ?_
  refine i_c (fun h2 => ?_) (fun h2 => ?_)
  · obtain ⟨m, c, h3, h4, h5⟩ := tableL_at (i := i) (by omega)
    rw [h4, h5, meansF] at he
    refine g_tab htb h3 ?_
    refine g_snd ?_
    refine g_ldv ?_
    refine g_atI hv (by decide) rfl ?_
    refine g_ldv ?_
    refine Stp.go ?_
    refine i_c (fun h6 => ?_) (fun h6 => ?_)
    · refine g_tab htb h3 ?_
      refine g_fst ?_
      refine g_ldv ?_
      rw [if_pos h6] at he
      exact ⟨by rw [escR, escI, if_neg h, he]; rfl, rfl⟩
    · rw [if_neg h6] at he
      refine g_add64 (by omega) ?_
      exact ⟨15 - (i + 1), by omega, i + 1, by congr 1, by omega, rfl, rfl, he⟩
  have hi15 : i = 15 := by omega
  subst hi15
  have hno : meansI a = none := he
  refine g_slcN (n := 1) hv (by simp) fun w hw => ?_
  replace hw : RowOf 1 IsI w t := hw
  refine g_atI hv (by decide) rfl ?_
  refine g_ldv ?_
  refine c_eq (rwidth_ok hT a H) ?_
  refine c_eq (rnumber_ok hT hw (by simp at hl; omega) (widthI a) (width_le a) H) ?_
  have hesc : escI (a :: t) = if widthI a = 0 then none else (numH t (widthI a)).bind fun n => if vRune n = true then some ((n : Int), 1 + widthI a) else none := by
    rw [escI, if_neg h, hno]
  generalize hx : (match numH t (widthI a) with | some n => (n : Int) | none => -1) = x
  refine j1 (fun y H' => y = .bool (decide (widthI a = 0) || !vRune x) ∧ H = H') ?_ ?_
  rotate_left
  · intro j hj
    refine g_atI hv (by decide) rfl ?_
    refine g_ldv ?_
    refine c_eq (rwidth_ok hT a H) ?_
    refine Stp.go ?_
    refine d_f ?_
    refine i_c (fun h3 => ?_) (fun h3 => ?_)
    · refine hj _ _ ⟨?_, rfl⟩
      rw [decide_eq_true (show widthI a = 0 by omega)]; rfl
    · refine c_eq (rchar_ok hT x H) ?_
      refine Stp.go ?_
      refine hj _ _ ⟨?_, rfl⟩
      rw [decide_eq_false (show ¬ widthI a = 0 by omega)]; rfl
  rintro _ _ ⟨rfl, rfl⟩
  refine i_i (fun h3 => ?_) (fun h3 => ?_)
  · refine ⟨?_, rfl⟩
    have : escI (a :: t) = none := by
      rw [hesc]
      by_cases hw0 : widthI a = 0
      · rw [if_pos hw0]
      · rw [if_neg hw0]
        rw [decide_eq_false hw0, Bool.false_or] at h3
        cases hn : numH t (widthI a) with
        | none => rfl
        | some n =>
          rw [hn] at hx
          have hx' : (n : Int) = x := hx
          rw [← hx'] at h3
          have hv0 : ¬ vRune (n : Int) = true := by
            intro e; rw [e] at h3; cases h3
          simp [hv0]
    rw [escR, this]
  · rw [Bool.or_eq_false_iff] at h3
    obtain ⟨q1, q2⟩ := h3
    have hw0 : ¬ widthI a = 0 := by simpa using q1
    have hvx : vRune x = true := by simpa using q2
    refine g_atI hv (by decide) rfl ?_
    refine g_ldv ?_
    refine c_eq (rwidth_ok hT a H) ?_
    have hwl := width_le a
    refine g_addN (a := 1) (by omega) ?_
    refine ⟨?_, rfl⟩
    have : escI (a :: t) = some (x, 1 + widthI a) := by
      rw [hesc, if_neg hw0]
      cases hn : numH t (widthI a) with
      | none =>
        rw [hn] at hx
        have hx' : (-1 : Int) = x := hx
        rw [← hx'] at hvx
        exact absurd hvx (by decide)
      | some n =>
        rw [hn] at hx
        have hx' : (n : Int) = x := hx
        rw [← hx'] at hvx ⊢
        simp [hvx]
    rw [escR, this]

/-! ### Between double quotes -/
theorem escI_valid {l : List Int} (hl : AllR l) {r : Int} {k : Nat} (h : escI l = some (r, k)) : vRune r = true ∧ 1 ≤ k ∧ k ≤ l.length := by
  have hs := esc_same hl
  rw [h] at hs
  obtain ⟨h1, h2, _⟩ := escS_valid hs
  refine ⟨h1, h2, ?_⟩
  cases l with
  | nil => cases h
  | cons a t =>
    rw [escI] at h
    split at h
    · simp only [Option.some.injEq, Prod.mk.injEq] at h; simp; omega
    split at h
    · simp only [Option.some.injEq, Prod.mk.injEq] at h; simp; omega
    split at h
    · cases h
    · cases hn : numH t (widthI a) with
      | none => rw [hn] at h; cases h
      | some n =>
        rw [hn] at h
        simp only [Option.bind_some] at h
        split at h
        · simp only [Option.some.injEq, Prod.mk.injEq] at h
          have hlen : widthI a ≤ t.length := by
            unfold numH at hn
            split at hn
            · cases hn
            · omega
          rw [List.length_cons]; omega
        · cases h
theorem AllR.app {A B : List Int} (ha : AllR A) (hb : AllR B) : AllR (A ++ B) := fun x hx => by
  rcases List.mem_append.1 hx with h | h
  · exact ha x h
  · exact hb x h
theorem AllR.one {r : Int} (h : vRune r = true) : AllR [r] := fun x hx => by simp at hx; rw [hx]; exact h
theorem Tok.rowI {H0 H : AH} {v : AV} {l : List Int} (h : Tok H0 H 1 v (l.map (AV.int .i64))) : RowOf 1 IsI v l := h.row (F2.map (AV.int .i64) (fun _ => rfl) l)

def unqDR (s : List UInt8) : AV := match unqD s with
  | some t => .tup [.str t, .int .i64 0]
  | none => .tup [.str [], .int .i64 10]
theorem runquote_ok (hT : Has T) (s : List UInt8) (hs : s.length < 2 ^ 30) (H : AH) (hp : 0 < H.toks.length) : ∃ H', Den.of T 13 [.str s] H = some (unqDR s, H') ∧ Grow H H' := by
  refine gr_of (w13_ok hT ?_)
  unfold w13
  refine c_i (chars_all hT s (by omega) H hp) ?_
  rintro _ H1 ⟨⟨row, rfl, hrow⟩, g1⟩
  refine g_ext0 ?_
  refine g_ext1 ?_
  refine g_lenW hrow ?_
  refine j1 (fun x H' => x = .bool (!(Lib.validD s && unqC (rl s))) ∧ H1 = H') ?_ ?_
  rotate_left
  · intro j hj
    refine Stp.go ?_
    refine d_f ?_
    refine i_not ?_
    refine i_i (fun hv => ?_) (fun hv => ?_)
    rotate_left
    · exact hj _ _ ⟨by rw [hv]; rfl, rfl⟩
    rw [if_pos hv] at hrow ⊢
    rw [hv, Bool.true_and] at hj
    have hrl := rl_le hv
    generalize rl s = L at *
    refine Stp.go ?_
    refine d_f ?_
    refine i_c (fun h2 => ?_) (fun h2 => ?_)
    · exact hj _ _ ⟨by rw [unqC, decide_eq_false (show ¬ 2 ≤ L.length by omega)]; rfl, rfl⟩
    have h0 : 0 < L.length := by omega
    have hl : L.length - 1 < L.length := by omega
    have hg0 := List.getElem?_eq_getElem h0
    have hgl := List.getElem?_eq_getElem hl
    generalize L[0] = a at hg0
    generalize L[L.length - 1] = z at hgl
    refine g_atI hrow (by decide) hg0 ?_
    refine g_ldv ?_
    refine g_neq ?_
    refine d_f ?_
    refine i_not ?_
    refine i_c (fun h3 => ?_) (fun h3 => ?_)
    rotate_left
    · refine hj _ _ ⟨?_, rfl⟩
      have : ¬ (L[0]? = some 34) := by rw [hg0]; intro e; exact h3 (Option.some.inj e)
      rw [unqC, decide_eq_false this, Bool.false_and, Bool.and_false]; rfl
    refine g_sub64 (by omega) ?_
    refine g_atI hrow (by omega) (by rw [show ((L.length : Int) - 1).toNat = L.length - 1 by omega]; exact hgl) ?_
    refine g_ldv ?_
    refine g_neq ?_
    refine hj _ _ ⟨?_, rfl⟩
    have h4 : L[0]? = some 34 := by rw [hg0, h3]
    congr 2
    rw [unqC, decide_eq_true (show 2 ≤ L.length by omega), decide_eq_true h4, hgl, Bool.true_and, Bool.true_and, Bool.eq_iff_iff, beq_iff_eq, decide_eq_true_iff, Option.some.injEq]
  rintro _ _ ⟨rfl, rfl⟩
  refine i_not ?_
  refine i_i (fun hok => ?_) (fun hok => ?_)
  rotate_left
  · exact ⟨by rw [unqDR, unqD, hok]; rfl, g1⟩
  have hD : unqD s = (unqI (rl s).length (innerI (rl s))).map txt := by rw [unqD, if_pos hok]
  rw [Bool.and_eq_true] at hok
  obtain ⟨hv, hc⟩ := hok
  have hR := rl_all hv
  have hrl : (rl s).length ≤ s.length := by
    have := (txt_len (rl s)).1
    rw [txt_rl hv] at this
    exact this
  rw [if_pos hv] at hrow ⊢
  simp only [unqC, Bool.and_eq_true, decide_eq_true_eq] at hc
  have h2 := hc.1
  generalize rl s = L at *
  refine g_sub64 (by omega) ?_
  rw [show ((L.length : Int) - 1) = ((L.length - 1 : Nat) : Int) by omega]
  refine g_slcM (i := 1) hrow (by omega) (by omega) fun w hw => ?_
  replace hw : RowOf 1 IsI w (innerI L) := hw
  have hin : AllR (innerI L) := fun x hx => hR x (List.mem_of_mem_take (List.mem_of_mem_drop hx))
  have hil : (innerI L).length ≤ L.length := by simp only [innerI, List.length_drop, List.length_take]; omega
  have bad : ∀ {H' : AH}, unqI L.length (innerI L) = none → Grow H H' → AV.tup [.str [], .int .i64 10] = unqDR s ∧ Grow H H' := by
    intro H' hn hg
    exact ⟨by rw [unqDR, hD, hn]; rfl, hg⟩
  refine l2 (fun m x y H' => ∃ rest acc f, Tok H H' 1 x (acc.map (AV.int .i64)) ∧ RowOf 1 IsI y rest ∧ Grow H H' ∧ m = rest.length ∧ rest.length + acc.length ≤ L.length ∧ AllR rest ∧ AllR acc ∧ rest.length ≤ f ∧ unqI L.length (innerI L) = (unqI f rest).map (acc ++ ·)) (innerI L).length
    ⟨innerI L, [], L.length, Tok.nil H H1 1, hw, g1, rfl, by simpa using hil, hin, (fun x hx => by cases hx), hil, by cases unqI L.length (innerI L) <;> rfl⟩ ?_
  rintro m x y H2 ⟨rest, acc, f, ht, hy, hg, rfl, hle, hra, haa, hf, he⟩
  refine g_lenW hy ?_
  refine Stp.go ?_
  refine i_c (fun h => ?_) (fun h => ?_)
  rotate_left
  · have hz : rest = [] := List.length_eq_zero_iff.1 (by omega)
    subst hz
    have e1 : unqI f [] = some [] := by cases f <;> rfl
    rw [e1] at he
    refine c_gb hg (rtext_ok hT ht.rowI haa (by omega) H2 (hg.pos hp)) fun H3 g3 => ?_
    refine ⟨?_, g3⟩
    rw [unqDR, hD, he]
    simp
  obtain ⟨c, rest, rfl⟩ : ∃ a t, rest = a :: t := by cases rest with
    | nil => simp at h
    | cons a t => exact ⟨a, t, rfl⟩
  obtain ⟨f, rfl⟩ : ∃ g, f = g + 1 := ⟨f - 1, by simp at hf; omega⟩
  simp only [List.length_cons] at hle hf
  rw [unqI] at he
  refine j1 (fun z H' => z = .bool (decide (c = 34 ∨ c = 10)) ∧ H2 = H') ?_ ?_
  rotate_left
  · intro j hj
    refine g_atI hy (by decide) rfl ?_
    refine g_ldv ?_
    refine Stp.go ?_
    refine d_f ?_
    refine i_c (fun h3 => hj _ _ ⟨by rw [decide_eq_true (.inl h3)], rfl⟩) (fun h3 => ?_)
    refine g_atI hy (by decide) rfl ?_
    refine g_ldv ?_
    refine Stp.go ?_
    refine hj _ _ ⟨?_, rfl⟩
    congr 1
    rw [Bool.eq_iff_iff, beq_iff_eq, decide_eq_true_iff]
    omega
  rintro _ _ ⟨rfl, rfl⟩
  refine i_c (fun h3 => ?_) (fun h3 => ?_)
  · rw [if_pos h3] at he
    exact bad (by rw [he]; rfl) hg
  rw [if_neg h3] at he
  refine g_atI hy (by decide) rfl ?_
  refine g_ldv ?_
  refine g_neq ?_
  refine i_not ?_
  refine i_c (fun h4 => ?_) (fun h4 => ?_)
  rotate_left
  · rw [if_neg h4] at he
    refine g_atI hy (by decide) rfl ?_
    refine g_ldv ?_
    refine s_lit rfl ?_
    refine s_app ht hg hp (by simp) rfl (by simp only [List.length_map, List.length_cons, List.length_nil] at *; omega) fun w' H3 ht2 hg2 _ => ?_
    refine g_slcN (n := 1) hy (by simp) fun y' hy' => ?_
    refine ⟨rest.length, by simp, rest, acc ++ [c], f, by rw [List.map_append]; exact ht2, hy', hg2, rfl, by rw [List.length_append]; simp only [List.length_cons, List.length_nil]; omega, hra.tail, haa.app (AllR.one (hra c (by simp))), by omega, ?_⟩
    rw [he]
    cases unqI f rest <;> simp
  rw [if_pos h4] at he
  refine g_slcN (n := 1) hy (by simp) fun y' hy' => ?_
  replace hy' : RowOf 1 IsI y' rest := hy'
  refine c_eq (rmeant_ok hT hy' (by omega) H2) ?_
  cases hx : escI rest with
  | none =>
    rw [hx] at he
    rw [show escR rest = .tup [.int .i64 (-1), .int .i64 0] by rw [escR, hx]]
    refine g_ext0 ?_
    refine g_ext1 ?_
    refine Stp.go ?_
    refine i_cT (by decide) ?_
    exact bad (by rw [he]; rfl) hg
  | some p =>
    obtain ⟨r, q⟩ := p
    obtain ⟨hvr, hq1, hq2⟩ := escI_valid hra.tail hx
    rw [hx] at he
    simp only [Option.bind_some] at he
    rw [show escR rest = .tup [.int .i64 r, .int .i64 (q : Nat)] by rw [escR, hx]]
    refine g_ext0 ?_
    refine g_ext1 ?_
    have hr0 : 0 ≤ r := by simp only [vRune, decide_eq_true_eq] at hvr; omega
    refine Stp.go ?_
    refine i_cF (by omega) ?_
    refine s_lit rfl ?_
    refine s_app ht hg hp (by simp) rfl (by simp only [List.length_map, List.length_cons, List.length_nil] at *; omega) fun w' H3 ht2 hg2 _ => ?_
    refine g_addN (a := 1) (by omega) ?_
    refine g_slcN (n := 1 + q) hy (by simp only [List.length_cons]; omega) fun y2 hy2 => ?_
    replace hy2 : RowOf 1 IsI y2 (rest.drop q) := by rw [Nat.add_comm, List.drop_succ_cons] at hy2; exact hy2
    refine ⟨(rest.drop q).length, by simp only [List.length_drop, List.length_cons]; omega, rest.drop q, acc ++ [r], f, by rw [List.map_append]; exact ht2, hy2, hg2, rfl, by rw [List.length_append, List.length_drop]; simp only [List.length_cons, List.length_nil]; omega, hra.tail.drop q, haa.app (AllR.one hvr), by rw [List.length_drop]; omega, ?_⟩
    rw [he]
    cases unqI f (rest.drop q) <;> simp

end Go.SV
