/- Contracts: the document's characters of a text, the whole. Own text of the prover; nothing is assumed. -/
import Derived.Test.YtaimiohndbajjaaGreatDoorRc
set_option maxRecDepth 100000
namespace Go.SV

variable {T : Nat → Option Entry}

theorem F2.dropN {α : Type} {R : AV → α → Prop} {xs : List AV} {l : List α} (h : F2 R xs l) (n : Nat) : F2 R (xs.drop n) (l.drop n) :=
  ⟨by rw [List.length_drop, List.length_drop, h.1], fun i x y hx hy => h.2 (n + i) x y (by rw [← List.getElem?_drop]; exact hx) (by rw [← List.getElem?_drop]; exact hy)⟩

theorem g_slcU {v : AV} {l : List UInt8} {κ : IntKind} {n : Nat} {k : AV → Prop} (h : RowOf 1 IsU v l) (hn : n ≤ l.length) (hk : ∀ w, RowOf 1 IsU w (l.drop n) → k w) : gP (aSlc 1 v (some (.int κ (n : Int))) none) k := by
  rcases h with ⟨rfl, rfl⟩ | ⟨t, xs, rfl, hf⟩
  · have h0 : n = 0 := by simpa using hn
    subst h0
    exact gP_i (v := .nils) (by simp [aSlc, aSlice]) (hk _ (.inl ⟨rfl, rfl⟩))
  · have hl := hf.1
    refine gP_i (v := .sl t 1 (xs.drop n)) ?_ (hk _ (.inr ⟨t, _, rfl, hf.dropN n⟩))
    have : (0 : Int) ≤ n ∧ (n : Int) ≤ xs.length := by omega
    simp only [aSlc, aSlice, if_true, if_pos this, Option.map_some, List.take_length, Int.toNat_natCast]

theorem lead_le (c : Nat) : (leadS c).1 ≤ 4 ∧ (leadS c).2 < 128 := by
  unfold leadS
  split
  · simp only; omega
  split
  · simp only; omega
  split
  · simp only; omega
  split
  · simp only; omega
  · simp

theorem rl_sp {l : List UInt8} {r n : Nat} (h : spS l = some (r, n)) : rl l = (r : Int) :: rl (l.drop n) ∧ Lib.validD l = Lib.validD (l.drop n) := by
  obtain ⟨h1, h2, h3, h4, _⟩ := sp_some h
  have hne : l ≠ [] := by rintro rfl; cases h
  have := rl_step hne
  rw [h1] at this
  refine ⟨this, ?_⟩
  rw [Lib.validD_step l hne, h1, if_neg h2]
theorem valid_sp {l : List UInt8} (hne : l ≠ []) (h : spS l = none) : Lib.validD l = false := by
  rw [Lib.validD_step l hne, sp_none hne h]
  rfl

theorem rplain_ok (hT : Has T) {v : AV} {b : List UInt8} (hv : RowOf 1 IsU v b) (hb : b.length < 2 ^ 40) (H : AH) (hp : 0 < H.toks.length) :
    ∃ w H', Den.of T 67 [v] H = some (w, H') ∧ (if Lib.validD b then ∃ row, w = .tup [row, .bool true] ∧ Tok H H' 1 row ((rl b).map (AV.int .i64)) else w = .tup [.nils, .bool false]) ∧ Grow H H' := by
  refine w67_ok hT ?_
  unfold w67
  refine l2 (fun m x y H' => ∃ rest acc, Tok H H' 1 x (acc.map (AV.int .i64)) ∧ RowOf 1 IsU y rest ∧ Grow H H' ∧ m = rest.length ∧ rest.length + acc.length ≤ b.length ∧ rl b = acc ++ rl rest ∧ Lib.validD b = Lib.validD rest) b.length
    ⟨b, [], Tok.nil H H 1, hv, .refl _, rfl, by simp, rfl, rfl⟩ ?_
  rintro m x y H1 ⟨rest, acc, ht, hy, hg, rfl, hl, hr, hd⟩
  refine g_lenW hy ?_
  refine Stp.go ?_
  refine i_c (fun h => ?_) (fun h => ?_)
  rotate_left
  · have hz : rest = [] := List.length_eq_zero_iff.1 (by omega)
    subst hz
    rw [rl_nil, List.append_nil] at hr
    rw [Lib.validD_nil] at hd
    refine ⟨?_, hg⟩
    rw [hd, if_pos rfl]
    exact ⟨x, rfl, by rw [hr]; exact ht⟩
  obtain ⟨a, t, rfl⟩ : ∃ a t, rest = a :: t := by cases rest with
    | nil => simp at h
    | cons a t => exact ⟨a, t, rfl⟩
  have hne : a :: t ≠ [] := by simp
  have bad : spS (a :: t) = none → ∀ H', Grow H H' → (if Lib.validD b then ∃ row, AV.tup [.nils, .bool false] = .tup [row, .bool true] ∧ Tok H H' 1 row ((rl b).map (AV.int .i64)) else AV.tup [.nils, .bool false] = .tup [.nils, .bool false]) ∧ Grow H H' := by
    intro hs H' hg'
    refine ⟨?_, hg'⟩
    rw [hd, valid_sp hne hs]
    simp
  refine g_atU hy (by decide) rfl ?_
  refine g_ldv ?_
  have ha := a.toNat_lt
  refine g_cv64 (by omega) ?_
  refine c_eq (rlead_ok hT a.toNat ha H1) ?_
  refine g_ext0 ?_
  refine g_ext1 ?_
  have hsp : spS (a :: t) = if (leadS a.toNat).1 = 0 ∨ (a :: t).length < (leadS a.toNat).1 then none
    else (contS (leadS a.toNat).2 (t.take ((leadS a.toNat).1 - 1))).bind fun r => if vRune r = true ∧ encL r = (leadS a.toNat).1 then some (r, (leadS a.toNat).1) else none := rfl
  obtain ⟨hn4, hr0⟩ := lead_le a.toNat
  generalize (leadS a.toNat).1 = n at *
  generalize (leadS a.toNat).2 = r0 at *
  refine j1 (fun z H' => z = .bool (decide (n = 0 ∨ (a :: t).length < n)) ∧ H1 = H') ?_ ?_
  rotate_left
  · intro j hj
    refine Stp.go ?_
    refine d_f ?_
    refine i_c (fun h1 => ?_) (fun h1 => ?_)
    · exact hj _ _ ⟨by rw [decide_eq_true (.inl (by omega))], rfl⟩
    · refine g_lenW hy ?_
      refine Stp.go ?_
      refine hj _ _ ⟨?_, rfl⟩
      congr 1
      rw [Bool.eq_iff_iff, decide_eq_true_iff, decide_eq_true_iff]
      omega
  rintro _ _ ⟨rfl, rfl⟩
  refine i_c (fun h1 => bad (by rw [hsp, if_pos h1]) H1 hg) (fun h1 => ?_)
  rw [if_neg h1] at hsp
  have hn1 : 1 ≤ n := by omega
  have hnt : n - 1 ≤ t.length := by simp only [List.length_cons] at h1; omega
  refine l2 (fun q x6 x7 H' => ∃ i r : Nat, x6 = .int .i64 r ∧ x7 = .int .i64 i ∧ 1 ≤ i ∧ i ≤ n ∧ q = n - i ∧ r < 1024 ^ i ∧ contS r0 (t.take (n - 1)) = contS r ((t.take (n - 1)).drop (i - 1)) ∧ H1 = H') (n - 1) ⟨1, r0, rfl, rfl, by decide, hn1, rfl, by omega, rfl, rfl⟩ ?_
  rintro q _ _ _ ⟨i, r, rfl, rfl, hi1, hin, hq, hrb, hc, rfl⟩
  have hp4 : 1024 ^ i ≤ 1024 ^ 4 := Nat.pow_le_pow_right (by decide) (by omega)
  have h44 : (1024 : Nat) ^ 4 = 1099511627776 := by decide
  refine Stp.go ?_
  refine i_c (fun h2 => ?_) (fun h2 => ?_)
  · have hit : i - 1 < t.length := by omega
    have hg0 := List.getElem?_eq_getElem hit
    have hlt : i - 1 < (t.take (n - 1)).length := by rw [List.length_take]; omega
    have hdd : (t.take (n - 1)).drop (i - 1) = t[i - 1] :: (t.take (n - 1)).drop (i + 1 - 1) := by
      rw [List.drop_eq_getElem_cons hlt, List.getElem_take, show i - 1 + 1 = i + 1 - 1 by omega]
    generalize t[i - 1] = c at hg0 hdd
    have hgi : (a :: t)[i]? = some c := by
      obtain ⟨k, rfl⟩ : ∃ k, i = k + 1 := ⟨i - 1, by omega⟩
      exact hg0
    have hcl := c.toNat_lt
    rw [hdd, contS] at hc
    refine j1 (fun z H' => z = .bool (decide (c.toNat < 128 ∨ 191 < c.toNat)) ∧ H1 = H') ?_ ?_
    rotate_left
    · intro j hj
      refine g_atU hy (by omega) (by rw [Int.toNat_natCast]; exact hgi) ?_
      refine g_ldv ?_
      refine Stp.go ?_
      refine d_f ?_
      refine i_c (fun h3 => ?_) (fun h3 => ?_)
      · exact hj _ _ ⟨by rw [decide_eq_true (.inl (by omega))], rfl⟩
      · refine g_atU hy (by omega) (by rw [Int.toNat_natCast]; exact hgi) ?_
        refine g_ldv ?_
        refine Stp.go ?_
        refine hj _ _ ⟨?_, rfl⟩
        congr 1
        rw [Bool.eq_iff_iff, decide_eq_true_iff, decide_eq_true_iff]
        omega
    rintro _ _ ⟨rfl, rfl⟩
    refine i_c (fun h3 => bad (by rw [hsp, hc, if_pos h3]; rfl) H1 hg) (fun h3 => ?_)
    rw [if_neg h3] at hc
    have hps : (1024 : Nat) ^ (i + 1) = 1024 ^ i * 1024 := Nat.pow_succ ..
    have h10 : (1024 : Nat) ^ 1 ≤ 1024 ^ i := Nat.pow_le_pow_right (by decide) hi1
    refine g_mul64 (by omega) ?_
    refine g_atU hy (by omega) (by rw [Int.toNat_natCast]; exact hgi) ?_
    refine g_ldv ?_
    refine g_cv64 (by omega) ?_
    refine g_add64 (by omega) ?_
    refine g_sub64 (by omega) ?_
    refine g_add64 (by omega) ?_
    exact ⟨n - (i + 1), by omega, i + 1, r * 64 + c.toNat - 128, by congr 1; omega, by congr 1, by omega, by omega, rfl, by omega, hc, rfl⟩
  · have hie : i = n := by omega
    subst hie
    rw [List.drop_eq_nil_of_le (by rw [List.length_take]; omega), contS] at hc
    rw [hc, Option.bind_some] at hsp
    refine j1 (fun z H' => z = .bool (!(vRune r && decide (encL r = i))) ∧ H1 = H') ?_ ?_
    rotate_left
    · intro j hj
      refine c_eq (rchar_ok hT r H1) ?_
      refine Stp.go ?_
      refine d_f ?_
      refine i_not ?_
      refine i_i (fun h3 => ?_) (fun h3 => ?_)
      rotate_left
      · exact hj _ _ ⟨by rw [h3]; rfl, rfl⟩
      refine c_i (rbytes_ok hT r H1) ?_
      rintro w _ ⟨⟨t1, xs1, rfl, hx1⟩, rfl⟩
      refine g_lenL ?_
      refine g_neq ?_
      refine hj _ _ ⟨?_, rfl⟩
      have e : (((encL r : Nat) : Int) == ((i : Nat) : Int)) = decide (encL r = i) := by
        rw [Bool.eq_iff_iff, beq_iff_eq, decide_eq_true_iff]
        omega
      rw [h3, Bool.true_and, hx1, e]
    rintro _ _ ⟨rfl, rfl⟩
    refine i_not ?_
    refine i_i (fun h3 => ?_) (fun h3 => ?_)
    · rw [Bool.and_eq_true, decide_eq_true_iff] at h3
      rw [if_pos h3] at hsp
      obtain ⟨e1, e2⟩ := rl_sp hsp
      obtain ⟨_, _, e3, e4, _⟩ := sp_some hsp
      refine s_lit rfl ?_
      refine s_app ht hg hp (by simp) rfl (by simp only [List.length_map, List.length_cons, List.length_nil] at *; omega) fun w' H2 ht2 hg2 _ => ?_
      refine g_slcU hy e4 fun y' hy' => ?_
      refine ⟨((a :: t).drop i).length, by rw [List.length_drop]; omega, (a :: t).drop i, acc ++ [(r : Int)], by rw [List.map_append]; exact ht2, hy', hg2, rfl, by rw [List.length_drop, List.length_append]; simp only [List.length_cons, List.length_nil] at *; omega, by rw [hr, e1]; simp, by rw [hd, e2]⟩
    · refine bad ?_ H1 hg
      rw [hsp, if_neg]
      rintro ⟨h5, h6⟩
      rw [h5, decide_eq_true h6] at h3
      cases h3

theorem rrunes_ok (hT : Has T) {v : AV} {s : List UInt8} (hv : RowOf 1 IsU v (239 :: 187 :: 191 :: s)) (hs : s.length < 2 ^ 39) (H : AH) (hp : 0 < H.toks.length) :
    ∃ w H', Den.of T 45 [v] H = some (w, H') ∧ (if Lib.validD s then ∃ row, w = .tup [row, .int .i64 0] ∧ Tok H H' 1 row ((rl s).map (AV.int .i64)) else w = .tup [.nils, .int .i64 6]) ∧ Grow H H' := by
  refine w45_ok hT ?_
  unfold w45
  refine c_eq (rdetect_ok hT hv (by omega) H) ?_
  refine g_ext0 ?_
  refine g_ext1 ?_
  have h3 : 3 ≤ (239 :: 187 :: 191 :: s : List UInt8).length := by simp only [List.length_cons]; omega
  refine g_slcU (n := 3) hv h3 fun y hy => ?_
  replace hy : RowOf 1 IsU y s := hy
  refine j2 (fun a b H' => Grow H H' ∧ (if Lib.validD s then b = .bool true ∧ Tok H H' 1 a ((rl s).map (AV.int .i64)) else b = .bool false)) ?_ ?_
  rotate_left
  · intro j hj
    refine Stp.go ?_
    refine i_T rfl ?_
    refine c_i (rplain_ok hT hy (by omega) H hp) ?_
    rintro w H1 ⟨hw, hg⟩
    by_cases hvd : Lib.validD s = true
    · rw [if_pos hvd] at hw
      obtain ⟨row, rfl, ht⟩ := hw
      refine g_ext0 ?_
      refine g_ext1 ?_
      exact hj _ _ _ ⟨hg, by rw [if_pos hvd]; exact ⟨rfl, ht⟩⟩
    · rw [if_neg hvd] at hw
      subst hw
      refine g_ext0 ?_
      refine g_ext1 ?_
      exact hj _ _ _ ⟨hg, by rw [if_neg hvd]⟩
  rintro a b H1 ⟨hg, hw⟩
  by_cases hvd : Lib.validD s = true
  rotate_left
  · rw [if_neg hvd] at hw
    subst hw
    refine Stp.go ?_
    refine i_T rfl ?_
    exact ⟨by rw [if_neg hvd], hg⟩
  rw [if_pos hvd] at hw
  obtain ⟨rfl, ht⟩ := hw
  refine Stp.go ?_
  refine i_F rfl ?_
  have hrow : RowOf 1 IsI a (rl s) := ht.row (F2.map (AV.int .i64) (fun _ => rfl) _)
  have hall : ∀ r ∈ rl s, vRune r = true := by
    have : ∀ (k : Nat) (l : List UInt8), l.length ≤ k → Lib.validD l = true → ∀ r ∈ rl l, vRune r = true := by
      intro k
      induction k with
      | zero =>
        intro l hl _ r hr
        have : l = [] := List.length_eq_zero_iff.1 (by omega)
        subst this
        simp [rl_nil] at hr
      | succ k ih =>
        intro l hl hv r hr
        by_cases hne : l = []
        · subst hne; simp [rl_nil] at hr
        cases hs : spS l with
        | none => rw [valid_sp hne hs] at hv; cases hv
        | some p =>
          obtain ⟨x, n⟩ := p
          obtain ⟨e1, e2⟩ := rl_sp hs
          obtain ⟨_, _, e3, e4, e5⟩ := sp_some hs
          rw [e1, List.mem_cons] at hr
          rcases hr with rfl | hr
          · exact e5
          · exact ih _ (by rw [List.length_drop]; omega) (by rw [← e2]; exact hv) r hr
    exact this s.length s (Nat.le_refl _) hvd
  have hrl : (rl s).length ≤ s.length := by
    have : ∀ (k : Nat) (l : List UInt8), l.length ≤ k → (rl l).length ≤ l.length := by
      intro k
      induction k with
      | zero =>
        intro l hl
        have : l = [] := List.length_eq_zero_iff.1 (by omega)
        subst this
        simp [rl_nil]
      | succ k ih =>
        intro l hl
        by_cases hne : l = []
        · subst hne; simp [rl_nil]
        have hw := Lib.decodeL_width l
        have hl0 := List.length_pos_iff.2 hne
        have := ih (l.drop (Lib.decodeL l).2) (by rw [List.length_drop]; omega)
        rw [rl_step hne, List.length_cons]
        rw [List.length_drop] at this
        omega
    exact this s.length s (Nat.le_refl _)
  refine l1 (fun m x H' => ∃ i : Nat, x = .int .i64 i ∧ i ≤ (rl s).length ∧ m = (rl s).length - i ∧ H1 = H') (rl s).length ⟨0, rfl, Nat.zero_le _, rfl, rfl⟩ ?_
  rintro m _ _ ⟨i, rfl, hi, hm, rfl⟩
  refine g_lenW hrow ?_
  refine Stp.go ?_
  refine i_c (fun h => ?_) (fun h => ?_)
  · have hlt : i < (rl s).length := by omega
    refine g_atIn hrow (List.getElem?_eq_getElem hlt) ?_
    refine g_ldv ?_
    refine c_eq (rchar_ok hT _ H1) ?_
    rw [hall _ (List.getElem_mem hlt)]
    refine Stp.go ?_
    refine i_F rfl ?_
    refine g_add64 (by omega) ?_
    exact ⟨(rl s).length - (i + 1), by omega, i + 1, by congr 1, by omega, rfl, rfl⟩
  · exact ⟨by rw [if_pos hvd]; exact ⟨a, rfl, ht⟩, hg⟩

/-- The characters of a text, and whether it is one. -/
theorem chars_all (hT : Has T) (s : List UInt8) (hs : s.length < 2 ^ 39) (H : AH) (hp : 0 < H.toks.length) :
    ∃ w H', Den.of T 23 [.str s] H = some (w, H') ∧ (∃ row, w = .tup [row, .bool (Lib.validD s)] ∧ RowOf 1 IsI row (if Lib.validD s = true then rl s else [])) ∧ Grow H H' := by
  refine w23_ok hT ?_
  unfold w23
  have tl : ∀ {α : Type} (l : List α) (x : α), (l ++ [x])[l.length]? = some x := fun l x => by simp
  refine sP_i (v := .sl H.toks.length 1 [.int .u8 239, .int .u8 187, .int .u8 191]) (H := ⟨H.obs, H.toks ++ [(3, 1, 0)]⟩) (by simp [aLit, elemsOk, AV.def?, AV.cells, AV.isCell]) ?_
  have put : ∀ {k : AV → AH → Prop}, (∀ v H', v = .sl H.toks.length 1 ((239 :: 187 :: 191 :: s).map u8v) → Grow H H' → k v H') → sP (aAppend .tok 1 (1, 5) (.sl H.toks.length 1 [.int .u8 239, .int .u8 187, .int .u8 191]) (.str s) ⟨H.obs, H.toks ++ [(3, 1, 0)]⟩) k := by
    intro k hk
    by_cases h0 : s = []
    · subst h0
      refine sP_i (v := .sl H.toks.length 1 [.int .u8 239, .int .u8 187, .int .u8 191]) (H := ⟨H.obs, H.toks ++ [(3, 1, 0)]⟩) (by simp [aAppend, elems]) (hk _ _ rfl ⟨⟨[], by simp⟩, ⟨_, rfl⟩⟩)
    · have hemp : (s.map u8v).isEmpty = false := by cases s with
        | nil => exact absurd rfl h0
        | cons => rfl
      have he : elems 1 (.str s) ⟨H.obs, H.toks ++ [(3, 1, 0)]⟩ = some (s.map u8v) := rfl
      have hok : elemsOk 1 (s.map u8v) = true := by
        rw [elemsOk, List.all_eq_true]
        intro x hx
        obtain ⟨b, _, rfl⟩ := List.mem_map.1 hx
        rfl
      refine sP_i (v := .sl H.toks.length 1 ([.int .u8 239, .int .u8 187, .int .u8 191] ++ s.map u8v)) (H := ⟨H.obs, (H.toks ++ [(3, 1, 0)]).set H.toks.length (3 + (s.map u8v).length, 1, tokTy ⟨H.obs, H.toks ++ [(3, 1, 0)]⟩ H.toks.length 5)⟩) ?_ (hk _ _ rfl ⟨⟨[], by simp⟩, ?_⟩)
      · simp only [aAppend, he, hemp, hok, Bool.not_true, Bool.false_eq_true, if_false]
        rw [if_pos ⟨trivial, by omega, by rw [tl]; rfl, by simp only [List.length_map, List.length_cons, List.length_nil]; omega⟩]
        rfl
      · simp only [List.set_append_right _ _ (Nat.le_refl H.toks.length)]
        exact ⟨_, rfl⟩
  refine put ?_
  rintro _ H1 rfl g1
  refine c_i (rrunes_ok hT (rowU H.toks.length _) hs H1 (g1.pos hp)) ?_
  rintro w H2 ⟨hw, g2⟩
  by_cases hvd : Lib.validD s = true
  · rw [if_pos hvd] at hw
    obtain ⟨row, rfl, ht⟩ := hw
    refine g_ext0 ?_
    refine g_ext1 ?_
    refine Stp.go ?_
    exact ⟨⟨row, by rw [hvd]; rfl, by rw [if_pos hvd]; exact ht.row (F2.map (AV.int .i64) (fun _ => rfl) _)⟩, g1.trans g2⟩
  · rw [if_neg hvd] at hw
    subst hw
    refine g_ext0 ?_
    refine g_ext1 ?_
    refine Stp.go ?_
    have hf : Lib.validD s = false := by simpa using hvd
    exact ⟨⟨.nils, by rw [hf]; rfl, .inl ⟨rfl, if_neg hvd⟩⟩, g1.trans g2⟩

end Go.SV
