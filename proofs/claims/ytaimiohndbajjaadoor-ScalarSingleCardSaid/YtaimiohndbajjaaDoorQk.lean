/- Texts between single quotes: plain laws; the law in the abstract machine. Own text of the prover; nothing is assumed. -/
import Derived.Test.YtaimiohndbajjaaDoorQh
import Derived.Test.YtaimiohndbajjaaDoorRd
set_option maxRecDepth 100000
namespace Go.SV

variable {T : Nat → Option Entry}

/-! ### Quotes doubled -/
def dbl (s : List UInt8) : List UInt8 := s.flatMap fun b => if b = 39 then [39, 39] else [b]
theorem dbl_len (s : List UInt8) : (dbl s).length = s.length + s.count 39 := by
  induction s with
  | nil => rfl
  | cons a l ih =>
    rw [dbl, List.flatMap_cons, List.length_append, show l.flatMap _ = dbl l from rfl, ih, List.count_cons, List.length_cons]
    by_cases h : a = 39
    · simp [h]; omega
    · simp [h]; omega

theorem replK_ne (q : List UInt8) {a : UInt8} (h : a ≠ 39) (k : Nat) (l : List UInt8) : Lib.replaceK [39] q k (a :: l) = a :: Lib.replaceK [39] q k l := by
  cases k with
  | zero => rfl
  | succ k =>
    have hi : Lib.index (a :: l) [39] = if Lib.index l [39] == -1 then -1 else Lib.index l [39] + 1 := by
      rw [Lib.index, if_neg]
      simpa using fun e => h e.symm
    have hge := Lib.index_ge l [39]
    by_cases hm : Lib.index l [39] = -1
    · rw [Lib.replaceK, Lib.replaceK, hi, hm]; rfl
    · have hm' : (Lib.index l [39] == -1) = false := beq_eq_false_iff_ne.2 hm
      rw [hm'] at hi
      obtain ⟨i, hi2⟩ : ∃ i : Nat, Lib.index l [39] = i := ⟨(Lib.index l [39]).toNat, by omega⟩
      rw [Lib.replaceK_hit [39] q k l i hi2, Lib.replaceK_hit [39] q k (a :: l) (i + 1) (by rw [hi, hi2]; rfl)]
      rfl
theorem replK_eq (q : List UInt8) (k : Nat) (l : List UInt8) : Lib.replaceK [39] q (k + 1) (39 :: l) = q ++ Lib.replaceK [39] q k l := by
  have hi : Lib.index (39 :: l) [39] = (0 : Nat) := by
    rw [Lib.index, if_pos]
    · rfl
    · simp
  rw [Lib.replaceK_hit [39] q k _ 0 hi]
  rfl
theorem replK_dbl : ∀ (l : List UInt8) (k : Nat), l.count 39 ≤ k → Lib.replaceK [39] [39, 39] k l = dbl l := by
  intro l
  induction l with
  | nil =>
    intro k _
    cases k with
    | zero => rfl
    | succ k => rfl
  | cons a l ih =>
    intro k hk
    rw [List.count_cons] at hk
    by_cases h : a = 39
    · subst h
      simp only [beq_self_eq_true, if_true] at hk
      obtain ⟨k, rfl⟩ : ∃ j, k = j + 1 := ⟨k - 1, by omega⟩
      rw [replK_eq, ih k (by omega)]
      rfl
    · rw [replK_ne _ h, ih k (by simp [h] at hk; exact hk), dbl, dbl, List.flatMap_cons, if_neg h]
      rfl
theorem repl_dbl (s : List UInt8) : Lib.replaceAll s [39] [39, 39] = dbl s := by
  unfold Lib.replaceAll Lib.replace
  rw [if_neg (by decide)]
  have : Lib.replaceNum s [39] (-1) = s.count 39 := by
    rw [Lib.replaceNum, if_pos (.inl (by decide)), Lib.count_one]
  rw [this]
  exact replK_dbl s _ (Nat.le_refl _)
theorem count_le (s : List UInt8) : s.count 39 ≤ s.length := List.count_le_length
theorem repl_len (s : List UInt8) : (Lib.replaceAll s [39] [39, 39]).length = s.length + s.count 39 := by rw [repl_dbl, dbl_len]

/-! ### The law -/
def goodR (r : Int) : Bool := may r && (!(r == 10) && !(r == 13))
theorem good_odd (r : Int) : goodR r = !oddR r := by
  unfold goodR oddR
  cases may r <;> cases (r == 10) <;> cases (r == 13) <;> rfl
theorem sglOk_all (s : List UInt8) : sglOk s = (Lib.validD s && (rl s).all goodR) := by
  rw [sglOk]
  congr 1
  rw [Bool.eq_iff_iff, Bool.not_eq_true', List.any_eq_false, List.all_eq_true]
  constructor
  · intro h r hr
    rw [good_odd]
    simpa using h r hr
  · intro h r hr
    have := h r hr
    rw [good_odd] at this
    simpa using this

theorem lawSingle (hT : Has T) (hK : Knows T) (hB : KnowsB T) (hQ : KnowsT T) (s : List UInt8) (hs : s.length < 2 ^ 63) (H : AH) (hp : 0 < H.toks.length) :
    ∃ H', Den.of T 6 [.str s] H = some (.bool true, H') ∧ Grow H H' := by
  refine gr_of (w6_ok hT ?_)
  unfold w6
  refine c_gr (alive2_ok hT hK hB hQ H hp) fun H1 g1 => ?_
  refine Stp.go ?_
  refine i_F rfl ?_
  refine Stp.go ?_
  refine Stp.go ?_
  refine i_c (fun h => ?_) (fun h => ?_)
  · exact ⟨rfl, g1⟩
  have hc := count_le s
  have hrl := repl_len s
  refine c_gb g1 (single_ok hT hK hQ s (by omega) (by omega) H1) fun H2 g2 => ?_
  obtain ⟨tx, er, hR⟩ : ∃ tx er, sglR s = .tup [.str tx, .int .i64 er] ∧ (if sglOk s = true then tx = sglT s ∧ er = 0 else tx = [] ∧ er = 10) := by
    by_cases hk : sglOk s = true
    · exact ⟨_, _, by rw [sglR, if_pos hk], by rw [if_pos hk]; exact ⟨rfl, rfl⟩⟩
    · exact ⟨_, _, by rw [sglR, if_neg hk], by rw [if_neg hk]; exact ⟨rfl, rfl⟩⟩
  rw [hR.1]
  refine g_ext0 ?_
  refine g_ext1 ?_
  refine c_i (chars_ok hT s (by omega) H2 (g2.pos hp)) ?_
  rintro _ H3 ⟨⟨row, rfl, _⟩, g23⟩
  have g3 := g2.trans g23
  refine g_ext0 ?_
  refine g_ext1 ?_
  refine s_range ?_
  refine l1 (fun n x H' => ∃ pos t, x = .bool t ∧ Grow H H' ∧ H3.obs.length < H'.obs.length ∧ H'.get H3.obs.length = .iter s pos ∧ n = s.length - pos ∧ sglOk s = (t && (rl (s.drop pos)).all goodR)) s.length
    ⟨0, _, rfl, g3.pushed, by rw [push_len]; omega, push_get _ _, rfl, sglOk_all s⟩ ?_
  rintro n _ H4 ⟨pos, t, rfl, hg, hl, hi, hn, he⟩
  refine s_nextR hi (fun r pos' _ _ _ hlt hlp hst => ?_) (fun hge hst => ?_)
  · rw [hst, List.all_cons] at he
    have hg5 : Grow H (H4.put H3.obs.length (.iter s pos')) := hg.put (by have := g3.len; omega)
    have hl5 : H3.obs.length < (H4.put H3.obs.length (.iter s pos')).obs.length := by rw [put_len]; exact hl
    have hi5 : (H4.put H3.obs.length (.iter s pos')).get H3.obs.length = .iter s pos' := by rw [put_get hl, if_pos rfl]
    generalize H4.put H3.obs.length (.iter s pos') = H5 at *
    have fin : ∀ u : Bool, u = (t && goodR r) → ∃ m, m < n ∧ ∃ pos t, AV.bool u = .bool t ∧ Grow H H5 ∧ H3.obs.length < H5.obs.length ∧ H5.get H3.obs.length = .iter s pos ∧ m = s.length - pos ∧ sglOk s = (t && (rl (s.drop pos)).all goodR) := fun u hu =>
      ⟨s.length - pos', by omega, pos', u, rfl, hg5, hl5, hi5, rfl, by rw [he, hu, Bool.and_assoc]⟩
    refine Stp.go ?_
    refine i_T rfl ?_
    refine Stp.go ?_
    refine d_t ?_
    refine i_i (fun ht => ?_) (fun ht => fin _ (by rw [ht]; rfl))
    refine c_eq (may_ok hT r H5) ?_
    refine d_t ?_
    refine i_i (fun hm => ?_) (fun hm => fin _ (by rw [ht, goodR, hm]; rfl))
    refine Stp.go ?_
    refine d_t ?_
    refine i_i (fun h1 => ?_) (fun h1 => fin _ (by rw [ht, goodR, hm, h1]; rfl))
    refine Stp.go ?_
    exact fin _ (by rw [ht, goodR, hm, h1]; rfl)
  · refine Stp.go ?_
    refine i_F rfl ?_
    rw [hst, List.all_nil, Bool.and_true] at he
    refine Stp.go ?_
    refine i_not ?_
    refine i_i (fun ht => ?_) (fun ht => ?_)
    · have hk : sglOk s = true := by rw [he, ht]
      have h5 := hR.2
      rw [if_pos hk] at h5
      obtain ⟨rfl, rfl⟩ := h5
      refine Stp.go ?_
      refine d_t ?_
      refine i_T rfl ?_
      refine Stp.go ?_
      refine Stp.go ?_
      refine g_add64 (by omega) ?_
      refine c_eq (hQ.count s 39 H4) ?_
      have e1 : Lib.countByte s 39 = s.count 39 := rfl
      rw [e1]
      refine g_add64 (by omega) ?_
      refine Stp.go ?_
      refine ⟨?_, hg⟩
      congr 1
      rw [beq_iff_eq, sglT, List.length_cons, List.length_append, hrl]
      simp only [List.length_cons, List.length_nil]
      omega
    · have hk : ¬ sglOk s = true := by rw [he, ht]; decide
      have h5 := hR.2
      rw [if_neg hk] at h5
      obtain ⟨rfl, rfl⟩ := h5
      refine Stp.go ?_
      refine d_t ?_
      refine i_T rfl ?_
      refine Stp.go ?_
      exact ⟨rfl, hg⟩

end Go.SV
