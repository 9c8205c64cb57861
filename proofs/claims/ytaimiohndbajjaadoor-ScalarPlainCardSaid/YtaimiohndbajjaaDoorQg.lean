/- Contracts: quoted texts are read, single quotes. Own text of the prover; nothing is assumed. -/
import Derived.Test.YtaimiohndbajjaaDoorQf
import Derived.Test.YtaimiohndbajjaaDoorQd
import Derived.Lib.SplitLaws
set_option maxRecDepth 100000
namespace Go.SV

variable {T : Nat → Option Entry}

theorem unqR_none {s : List UInt8} (h : unqS s = none) : unqR s = .tup [.str [], .int .i64 10] := by rw [unqR, h]

theorem unquote_ok (hT : Has T) (hK : Knows T) (hB : KnowsB T) (hQ : KnowsT T) (hE : KnowsE T) (s : List UInt8) (hs : s.length < 2 ^ 30) (H : AH) (hp : 0 < H.toks.length) :
    ∃ H', Den.of T 11 [.str s] H = some (unqR s, H') ∧ Grow H H' := by
  refine gr_of (w11_ok hT ?_)
  unfold w11
  have ea : ∀ a b : UInt8, ((a.toNat : Int) = (b.toNat : Int)) ↔ a = b := fun a b => ⟨fun e => UInt8.toNat_inj.1 (by omega), fun e => by rw [e]⟩
  have e34 : ∀ a : UInt8, ((a.toNat : Int) = 34) ↔ a = 34 := fun a => ea a 34
  have e10 : ∀ a : UInt8, ((a.toNat : Int) = 10) ↔ a = 10 := fun a => ea a 10
  have e92 : ∀ a : UInt8, ((a.toNat : Int) = 92) ↔ a = 92 := fun a => ea a 92
  refine Stp.go ?_
  refine j1 (fun x H' => x = .bool (!unqOk s) ∧ H = H') ?_ ?_
  rotate_left
  · intro j hj
    refine c_eq (hK.valid s H (by omega)) ?_
    refine Stp.go ?_
    refine d_f ?_
    refine i_not ?_
    refine i_i (fun hv => ?_) (fun hv => ?_)
    rotate_left
    · exact hj _ _ ⟨by rw [unqOk, hv]; rfl, rfl⟩
    refine Stp.go ?_
    refine d_f ?_
    refine i_c (fun h2 => ?_) (fun h2 => ?_)
    · exact hj _ _ ⟨by rw [unqOk, decide_eq_false (show ¬ 2 ≤ s.length by omega), Bool.false_and, Bool.and_false]; rfl, rfl⟩
    have h0 : 0 < s.length := by omega
    have hl : s.length - 1 < s.length := by omega
    have hg0 := List.getElem?_eq_getElem h0
    have hgl := List.getElem?_eq_getElem hl
    generalize s[0] = a at hg0
    generalize s[s.length - 1] = z at hgl
    refine g_byte (b := a) (by decide) hg0 ?_
    refine g_neq ?_
    refine d_f ?_
    refine i_not ?_
    refine i_c (fun h3 => ?_) (fun h3 => ?_)
    rotate_left
    · refine hj _ _ ⟨?_, rfl⟩
      have : ¬ (s[0]? = some 34) := by rw [hg0]; intro e; exact h3 ((e34 a).2 (Option.some.inj e))
      rw [unqOk, decide_eq_false this, Bool.false_and, Bool.and_false, Bool.and_false]; rfl
    refine g_sub64 (by omega) ?_
    refine g_byte (b := z) (by omega) (by rw [show ((s.length : Int) - 1).toNat = s.length - 1 by omega]; exact hgl) ?_
    refine g_neq ?_
    refine hj _ _ ⟨?_, rfl⟩
    have h4 : s[0]? = some 34 := by rw [hg0, (e34 a).1 h3]
    congr 2
    rw [unqOk, hv, decide_eq_true (show 2 ≤ s.length by omega), decide_eq_true h4, hgl, Bool.true_and, Bool.true_and, Bool.true_and, Bool.eq_iff_iff, beq_iff_eq, decide_eq_true_iff, e34, Option.some.injEq]
  rintro _ _ ⟨rfl, rfl⟩
  refine i_not ?_
  refine i_i (fun hok => ?_) (fun hok => ?_)
  rotate_left
  · exact ⟨by rw [unqR_none (by rw [unqS, if_neg (by rw [hok]; decide)])], .refl _⟩
  have hS : unqS s = unqF s.length (inner s) := by rw [unqS, if_pos hok]
  have h2 : 2 ≤ s.length := by
    simp only [unqOk, Bool.and_eq_true, decide_eq_true_eq] at hok
    exact hok.2.1
  refine a_i ?_
  refine g_sub64 (by omega) ?_
  refine g_part (by omega) ?_
  have hin : (s.take ((s.length : Int) - 1).toNat).drop (1 : Int).toNat = inner s := by
    rw [show ((s.length : Int) - 1).toNat = s.length - 1 by omega]; rfl
  rw [hin]
  have hil : (inner s).length ≤ s.length := by
    rw [inner, List.length_drop, List.length_take]; omega
  refine l1 (fun m x H' => ∃ rest acc n, x = .str rest ∧ m = rest.length ∧ rest.length ≤ n ∧ Bl H H' H.obs.length acc ∧ acc.length + 4 * rest.length ≤ 4 * s.length ∧ unqS s = (unqF n rest).map (acc ++ ·)) (inner s).length
    ⟨inner s, [], s.length, rfl, rfl, hil, Bl.push H, by simp; omega, by rw [hS]; cases unqF s.length (inner s) <;> rfl⟩ ?_
  rintro m _ H1 ⟨rest, acc, n, rfl, rfl, hn, hb, hal, he⟩
  refine g_sne ?_
  refine i_not ?_
  refine i_c (fun h3 => ?_) (fun h3 => ?_)
  · subst h3
    refine c_eq (hB.text hb hp (by simp at hal; omega)) ?_
    refine ⟨?_, hb.g⟩
    have : unqF n [] = some [] := by cases n <;> rfl
    rw [this, Option.map_some, List.append_nil] at he
    rw [unqR, he]
  obtain ⟨a, l, rfl⟩ : ∃ a l, rest = a :: l := by cases rest with
    | nil => exact absurd rfl h3
    | cons a l => exact ⟨a, l, rfl⟩
  obtain ⟨n, rfl⟩ : ∃ k, n = k + 1 := ⟨n - 1, by simp at hn; omega⟩
  simp only [List.length_cons] at hn hal
  refine g_byte (b := a) (by decide) rfl ?_
  refine j1 (fun x H' => x = .bool (decide (a = 34 ∨ a = 10)) ∧ H1 = H') ?_ ?_
  rotate_left
  · intro j hj
    refine Stp.go ?_
    refine i_c (fun h4 => ?_) (fun h4 => ?_)
    · refine hj _ _ ⟨?_, rfl⟩
      congr 1
      rw [Bool.eq_iff_iff, beq_iff_eq, decide_eq_true_iff, e34]
      simp [(e34 a).1 h4]
    · refine Stp.go ?_
      refine hj _ _ ⟨?_, rfl⟩
      congr 1
      rw [Bool.eq_iff_iff, beq_iff_eq, decide_eq_true_iff, e10]
      have : ¬ a = 34 := fun e => h4 ((e34 a).2 e)
      simp [this]
  rintro _ _ ⟨rfl, rfl⟩
  refine i_c (fun h4 => ?_) (fun h4 => ?_)
  · have : unqF (n + 1) (a :: l) = none := by rw [unqF, if_pos h4]
    rw [this] at he
    exact ⟨by rw [unqR_none he], hb.g⟩
  refine Stp.go ?_
  refine i_c (fun h5 => ?_) (fun h5 => ?_)
  · have h5' := (e92 a).1 h5
    have hF : unqF (n + 1) (a :: l) = (escS l).bind fun p => (unqF n (l.drop p.2)).map (Lib.encodeRune p.1 ++ ·) := by rw [unqF, if_neg h4, if_pos h5']
    refine g_from (by simp; omega) ?_
    have hd : (a :: l).drop (1 : Int).toNat = l := rfl
    rw [hd]
    refine c_i (escape_ok hT hK hQ hE l (by omega) H1) ?_
    rintro v H2 ⟨hv, hg2⟩
    have hb2 := hb.grow hg2
    cases hes : escS l with
    | none =>
      rw [hes] at hv
      obtain ⟨x, y, rfl⟩ := hv
      refine g_ext0 ?_
      refine g_ext1 ?_
      refine g_ext2 ?_
      refine Stp.go ?_
      refine i_T rfl ?_
      rw [hF, hes] at he
      exact ⟨by rw [unqR_none he], hb2.g⟩
    | some p =>
      obtain ⟨r, k⟩ := p
      rw [hes] at hv
      simp only at hv
      subst hv
      obtain ⟨hvr, hk1, hk2⟩ := escS_valid hes
      refine g_ext0 ?_
      refine g_ext1 ?_
      refine g_ext2 ?_
      refine Stp.go ?_
      refine i_F rfl ?_
      obtain ⟨w, hw⟩ := wRune_ok hT hB hb2 hp (by omega) hvr
      refine c_bl hw fun H3 b3 k3 => ?_
      refine g_add64 (by omega) ?_
      refine g_from (by simp; omega) ?_
      have hd2 : (a :: l).drop (1 + (k : Int)).toNat = l.drop k := by
        rw [show (1 + (k : Int)).toNat = k + 1 by omega]; rfl
      rw [hd2]
      rw [hF, hes] at he
      have hel := enc_len r
      refine ⟨(l.drop k).length, by rw [List.length_drop]; simp; omega, l.drop k, _, n, rfl, rfl, by rw [List.length_drop]; omega, b3, by rw [List.length_append, List.length_drop]; omega, ?_⟩
      rw [he, Option.bind_some, Option.map_map]
      congr 1
      funext t
      simp [Function.comp]
  · have h5' : ¬ a = 92 := fun e => h5 ((e92 a).2 e)
    refine g_byte (b := a) (by decide) rfl ?_
    refine c_bl (wByte_ok hT hB hb hp (by omega) a) fun H3 b3 k3 => ?_
    refine g_from (by simp; omega) ?_
    have hd : (a :: l).drop (1 : Int).toNat = l := rfl
    rw [hd]
    refine ⟨l.length, by simp, l, _, n, rfl, rfl, by omega, b3, by rw [List.length_append, List.length_singleton]; omega, ?_⟩
    rw [he, unqF, if_neg h4, if_neg h5', Option.map_map]
    congr 1
    funext t
    simp [Function.comp]

/-! ### Single quotes -/
def oddR (r : Int) : Bool := !may r || (r == 10 || r == 13)
theorem odd_ok (hT : Has T) (r : Int) (H : AH) : Den.of T 29 [.int .i32 r] H = some (.bool (oddR r), H) := by
  refine eq_of (w29_ok hT ?_)
  unfold w29
  refine c_eq (may_ok hT r H) ?_
  refine Stp.go ?_
  refine d_f ?_
  refine i_not ?_
  refine i_i (fun h => ?_) (fun h => ?_)
  rotate_left
  · exact ⟨by rw [oddR, h]; rfl, rfl⟩
  refine Stp.go ?_
  refine d_f ?_
  refine i_i (fun h2 => ?_) (fun h2 => ?_)
  · exact ⟨by rw [oddR, h, h2]; rfl, rfl⟩
  refine Stp.go ?_
  exact ⟨by rw [oddR, h, h2]; rfl, rfl⟩

def sglOk (s : List UInt8) : Bool := Lib.validD s && !((rl s).any oddR)
def sglT (s : List UInt8) : List UInt8 := 39 :: (Lib.replaceAll s [39] [39, 39] ++ [39])
def sglR (s : List UInt8) : AV := if sglOk s then .tup [.str (sglT s), .int .i64 0] else .tup [.str [], .int .i64 10]

theorem repl_ok (hQ : KnowsT T) (s p q : List UInt8) (H : AH) (hs : s.length < 2 ^ 20) (hp : 1 ≤ p.length) (hq : q.length < 2 ^ 20) : Den.of T kRepl [.str s, .str p, .str q] H = some (.str (Lib.replaceAll s p q), H) :=
  hQ.repl s p q H hs hp hq (by
    have := Lib.countB_le ⟨p.toArray⟩ hp s.length ⟨s.toArray⟩ (Nat.le_refl _)
    have h2 : (⟨s.toArray⟩ : ByteArray).size = s.length := rfl
    omega)

theorem single_ok (hT : Has T) (hK : Knows T) (hQ : KnowsT T) (s : List UInt8) (hs : s.length < 2 ^ 20) (hr : (Lib.replaceAll s [39] [39, 39]).length < 2 ^ 40) (H : AH) :
    ∃ H', Den.of T 13 [.str s] H = some (sglR s, H') ∧ Grow H H' := by
  refine gr_of (w13_ok hT ?_)
  unfold w13
  refine j1 (fun x H' => x = .bool (!sglOk s) ∧ Grow H H') ?_ ?_
  · rintro _ H1 ⟨rfl, hg⟩
    refine i_not ?_
    refine i_i (fun h => ?_) (fun h => ?_)
    · refine c_eq (repl_ok hQ s [39] [39, 39] _ hs (by decide) (by decide)) ?_
      refine g_cat (by simp; omega) ?_
      refine g_cat (by simp; omega) ?_
      exact ⟨by rw [sglR, if_pos h]; rfl, hg⟩
    · exact ⟨by rw [sglR, if_neg (by rw [h]; decide)], hg⟩
  · intro j hj
    refine c_eq (hK.valid s H (by omega)) ?_
    refine Stp.go ?_
    refine d_f ?_
    refine i_not ?_
    refine i_i (fun hv => ?_) (fun hv => ?_)
    · refine c_gr (containsFunc_ok hT s 29 oddR (by decide) (odd_ok hT) H) fun H1 g1 => ?_
      refine hj _ _ ⟨?_, g1⟩
      rw [any_rl, sglOk, hv, Bool.true_and, Bool.not_not]
    · exact hj _ _ ⟨by rw [sglOk, hv]; rfl, .refl _⟩

def usgT (s : List UInt8) : List UInt8 := Lib.replaceAll (inner s) [39, 39] [39]
def usgR (s : List UInt8) : AV := if 2 ≤ s.length ∧ sglOk (usgT s) = true ∧ sglT (usgT s) = s then .tup [.str (usgT s), .int .i64 0] else .tup [.str [], .int .i64 10]

theorem unsingle_ok (hT : Has T) (hK : Knows T) (hQ : KnowsT T) (s : List UInt8) (hs : s.length < 2 ^ 19) (h1 : (usgT s).length < 2 ^ 20) (h2 : (Lib.replaceAll (usgT s) [39] [39, 39]).length < 2 ^ 40) (H : AH) :
    ∃ H', Den.of T 14 [.str s] H = some (usgR s, H') ∧ Grow H H' := by
  refine gr_of (w14_ok hT ?_)
  unfold w14
  refine Stp.go ?_
  refine Stp.go ?_
  refine i_c (fun h => ?_) (fun h => ?_)
  · exact ⟨by rw [usgR, if_neg fun e => by have := e.1; omega], .refl _⟩
  refine Stp.go ?_
  refine g_sub64 (by omega) ?_
  refine g_part (by omega) ?_
  have hin : (s.take ((s.length : Int) - 1).toNat).drop (1 : Int).toNat = inner s := by
    rw [show ((s.length : Int) - 1).toNat = s.length - 1 by omega]; rfl
  rw [hin]
  have hil : (inner s).length ≤ s.length := by
    rw [inner, List.length_drop, List.length_take]; omega
  refine c_eq (repl_ok hQ (inner s) [39, 39] [39] _ (by omega) (by decide) (by decide)) ?_
  have hU : Lib.replaceAll (inner s) [39, 39] [39] = usgT s := rfl
  rw [hU]
  have hR : usgR s = if 2 ≤ s.length ∧ sglOk (usgT s) = true ∧ sglT (usgT s) = s then .tup [.str (usgT s), .int .i64 0] else .tup [.str [], .int .i64 10] := rfl
  rw [hR]
  refine c_gr (single_ok hT hK hQ (usgT s) h1 h2 H) fun H1 g1 => ?_
  generalize usgT s = t at *
  by_cases hk : sglOk t = true
  · rw [sglR, if_pos hk]
    refine g_ext0 ?_
    refine g_ext1 ?_
    refine j1 (fun x H' => x = .bool (!(sglT t == s)) ∧ H1 = H') ?_ ?_
    · rintro _ _ ⟨rfl, rfl⟩
      refine i_not ?_
      refine i_c (fun h3 => ?_) (fun h3 => ?_)
      · exact ⟨by rw [if_pos ⟨by omega, hk, h3⟩], g1⟩
      · exact ⟨by rw [if_neg fun e => h3 e.2.2], g1⟩
    · intro j hj
      refine Stp.go ?_
      refine d_f ?_
      refine i_F rfl ?_
      refine g_sne ?_
      exact hj _ _ ⟨rfl, rfl⟩
  · rw [sglR, if_neg hk]
    refine g_ext0 ?_
    refine g_ext1 ?_
    refine j1 (fun x H' => x = .bool true ∧ H1 = H') ?_ ?_
    · rintro _ _ ⟨rfl, rfl⟩
      refine i_T rfl ?_
      exact ⟨by rw [if_neg fun e => hk e.2.1], g1⟩
    · intro j hj
      refine Stp.go ?_
      refine d_f ?_
      refine i_T rfl ?_
      exact hj _ _ ⟨rfl, rfl⟩

end Go.SV
