/- Contracts: characters, plain texts, beginnings and ends. Own text of the prover; nothing is assumed. -/
import Derived.Test.YtaimiohndbajjaaDoorWp
import Derived.Test.YtaimiohndbajjaaDoorLe
import Derived.Lib.ItoaNum
import Derived.Lib.IndexMore
import Derived.Lib.ValidU
set_option maxRecDepth 100000
namespace Go.SV

variable {T : Nat → Option Entry}

def u8v (b : UInt8) : AV := .int .u8 b.toNat

def pre (p s : List UInt8) : Bool := s.take p.length == p
theorem hasPrefix_ok (hT : Has T) (s p : List UInt8) (H : AH) :
    Den.of T 51 [.str s, .str p] H = some (.bool (pre p s), H) := by
  refine eq_of (w51_ok hT ?_)
  unfold w51
  (repeat' (first | (first | (with_reducible first | refine Stp.go ?_ | (refine i_cT ?_ ?_; · first | assumption | decide | exact rfl) | (refine i_cF ?_ ?_; · first | assumption | decide | exact rfl) | (refine i_T ?_ ?_; · first | assumption | exact rfl) | (refine i_F ?_ ?_; · first | assumption | exact rfl) | (refine Sts.go ?_ ?_; · first | omega | decide) | refine Stu.go ?_) | refine j_i ?_) | (with_reducible first | refine i_c (fun h => ?_) (fun h => ?_) | refine i_i (fun h => ?_) (fun h => ?_))))
  · refine g_upto (by omega) ?_
    (repeat' (first | (first | (with_reducible first | refine Stp.go ?_ | (refine i_cT ?_ ?_; · first | assumption | decide | exact rfl) | (refine i_cF ?_ ?_; · first | assumption | decide | exact rfl) | (refine i_T ?_ ?_; · first | assumption | exact rfl) | (refine i_F ?_ ?_; · first | assumption | exact rfl) | (refine Sts.go ?_ ?_; · first | omega | decide) | refine Stu.go ?_) | refine j_i ?_) | (with_reducible first | refine i_c (fun h => ?_) (fun h => ?_) | refine i_i (fun h => ?_) (fun h => ?_))))
    exact ⟨by simp [pre], rfl⟩
  · refine ⟨?_, rfl⟩
    congr 1
    symm
    unfold pre
    rw [beq_eq_false_iff_ne]
    intro e
    have := congrArg List.length e
    rw [List.length_take] at this
    omega

/-- What is known of functions of the library that are taken as they are. -/
structure Knows (T : Nat → Option Entry) : Prop where
  valid : ∀ (s : List UInt8) (H : AH), s.length < 2 ^ 60 → Den.of T 21 [.str s] H = some (.bool (Lib.validD s), H)
  byte : ∀ (s : List UInt8) (c : UInt8) (H : AH), Den.of T 34 [.str s, .int .u8 c.toNat] H = some (.int .i64 (Lib.indexByte s c), H)
  contains : ∀ (s p : List UInt8) (H : AH), s.length < 4294967281 → Den.of T 15 [.str s, .str p] H = some (.bool (Lib.contains s p), H)
  itoa : ∀ (n : Nat) (H : AH), n < 2 ^ 62 → Den.of T 89 [.int .i64 n] H = some (.str (Lib.itoa n), H)

theorem hasSuffix_ok (hT : Has T) (s p : List UInt8) (hs : s.length < 2 ^ 60) (H : AH) :
    Den.of T 36 [.str s, .str p] H = some (.bool (decide (p.length ≤ s.length) && s.drop (s.length - p.length) == p), H) := by
  have h1 : Den.of T 56 [.str s, .str p] H = some (.bool (decide (p.length ≤ s.length) && s.drop (s.length - p.length) == p), H) := by
    refine eq_of (w56_ok hT ?_)
    unfold w56
    by_cases hl : p.length ≤ s.length
    · have hi : (s.length : Int) ≥ p.length := by omega
      (repeat (with_reducible first | refine Stp.go ?_ | (refine i_cT ?_ ?_; · first | assumption | decide | exact rfl) | (refine i_cF ?_ ?_; · first | assumption | decide | exact rfl) | (refine i_T ?_ ?_; · first | assumption | exact rfl) | (refine i_F ?_ ?_; · first | assumption | exact rfl) | (refine Sts.go ?_ ?_; · first | omega | decide) | refine Stu.go ?_))
      refine g_from (by omega) ?_
      (repeat (with_reducible first | refine Stp.go ?_ | (refine i_cT ?_ ?_; · first | assumption | decide | exact rfl) | (refine i_cF ?_ ?_; · first | assumption | decide | exact rfl) | (refine i_T ?_ ?_; · first | assumption | exact rfl) | (refine i_F ?_ ?_; · first | assumption | exact rfl) | (refine Sts.go ?_ ?_; · first | omega | decide) | refine Stu.go ?_))
      refine ⟨?_, rfl⟩
      have e : ((s.length : Int) - p.length).toNat = s.length - p.length := by omega
      rw [e, decide_eq_true hl, Bool.true_and]
    · have hi : ¬ (s.length : Int) ≥ p.length := by omega
      (repeat (with_reducible first | refine Stp.go ?_ | (refine i_cT ?_ ?_; · first | assumption | decide | exact rfl) | (refine i_cF ?_ ?_; · first | assumption | decide | exact rfl) | (refine i_T ?_ ?_; · first | assumption | exact rfl) | (refine i_F ?_ ?_; · first | assumption | exact rfl) | (refine Sts.go ?_ ?_; · first | omega | decide) | refine Stu.go ?_))
      exact ⟨by rw [decide_eq_false hl, Bool.false_and], rfl⟩
  refine eq_of (w36_ok hT ?_)
  unfold w36
  (repeat' (first | (first | (with_reducible first | refine Stp.go ?_ | (refine i_cT ?_ ?_; · first | assumption | decide | exact rfl) | (refine i_cF ?_ ?_; · first | assumption | decide | exact rfl) | (refine i_T ?_ ?_; · first | assumption | exact rfl) | (refine i_F ?_ ?_; · first | assumption | exact rfl) | (refine Sts.go ?_ ?_; · first | omega | decide) | refine Stu.go ?_) | refine j_i ?_) | with_reducible refine c_eq (h1) ?_ | (with_reducible first | refine i_c (fun h => ?_) (fun h => ?_) | refine i_i (fun h => ?_) (fun h => ?_))))
  exact ⟨rfl, rfl⟩

theorem indexFunc_ok (hT : Has T) (s : List UInt8) (F : Nat) (p : Int → Bool) (hF : F < 100000) (hp : ∀ r H, Den.of T F [.int .i32 r] H = some (.bool (p r), H)) (H : AH) :
    ∃ v H', Den.of T 67 [.str s, .fn (.func F) [] [], .bool true] H = some (v, H') ∧ (∃ i : Int, v = .int .i64 i ∧ decide (i ≥ 0) = (runes s).any fun x => p x.2) ∧ Grow H H' := by
  refine w67_ok hT ?_
  unfold w67
  refine s_range ?_
  refine l0 (fun n H' => ∃ pos, Grow H H' ∧ H.obs.length < H'.obs.length ∧ H'.get H.obs.length = .iter s pos ∧ n = s.length - pos ∧ ((runes s).any fun x => p x.2) = (runesF s n pos).any fun x => p x.2) s.length
    ⟨0, .push _ _, by rw [push_len]; omega, push_get _ _, rfl, rfl⟩ ?_
  rintro n H1 ⟨pos, hg, hl, hi, hn, hr⟩
  refine s_next hi (fun hlt => ?_) (fun hge => ?_)
  · rw [runesF_step hlt (by omega), List.any_cons] at hr
    (repeat' (first | (first | (with_reducible first | refine Stp.go ?_ | (refine i_cT ?_ ?_; · first | assumption | decide | exact rfl) | (refine i_cF ?_ ?_; · first | assumption | decide | exact rfl) | (refine i_T ?_ ?_; · first | assumption | exact rfl) | (refine i_F ?_ ?_; · first | assumption | exact rfl) | (refine Sts.go ?_ ?_; · first | omega | decide) | refine Stu.go ?_) | refine j_i ?_) | refine v_0 hF ?_ | with_reducible refine c_eq (hp _ _) ?_ | refine g_eqb ?_ | (with_reducible first | refine i_c (fun h => ?_) (fun h => ?_) | refine i_i (fun h => ?_) (fun h => ?_))))
    · have hp1 : p (Utf8.decode ⟨s.toArray⟩ pos).1 = true := by simpa using h
      exact ⟨⟨_, rfl, by rw [hr, hp1]; simp⟩, hg.put (Nat.le_refl _)⟩
    · have hp1 : p (Utf8.decode ⟨s.toArray⟩ pos).1 = false := by simpa using h
      have := decode_pos ⟨s.toArray⟩ pos
      refine ⟨s.length - (pos + (Utf8.decode ⟨s.toArray⟩ pos).2), by omega, _, hg.put (Nat.le_refl _), by rw [put_len]; omega, by rw [put_get hl, if_pos rfl], rfl, ?_⟩
      rw [hr, hp1, Bool.false_or, runesF_more (n - 1) (Nat.le_refl _) (by omega)]
  · rw [runesF_end hge] at hr
    (repeat' (first | (first | (with_reducible first | refine Stp.go ?_ | (refine i_cT ?_ ?_; · first | assumption | decide | exact rfl) | (refine i_cF ?_ ?_; · first | assumption | decide | exact rfl) | (refine i_T ?_ ?_; · first | assumption | exact rfl) | (refine i_F ?_ ?_; · first | assumption | exact rfl) | (refine Sts.go ?_ ?_; · first | omega | decide) | refine Stu.go ?_) | refine j_i ?_) | (with_reducible first | refine i_c (fun h => ?_) (fun h => ?_) | refine i_i (fun h => ?_) (fun h => ?_))))
    exact ⟨⟨_, rfl, by rw [hr]; rfl⟩, hg⟩


theorem containsFunc_ok (hT : Has T) (s : List UInt8) (F : Nat) (p : Int → Bool) (hF : F < 100000) (hp : ∀ r H, Den.of T F [.int .i32 r] H = some (.bool (p r), H)) (H : AH) :
    ∃ H', Den.of T 30 [.str s, .fn (.func F) [] []] H = some (.bool ((runes s).any fun x => p x.2), H') ∧ Grow H H' := by
  have h1 : ∃ v H', Den.of T 52 [.str s, .fn (.func F) [] []] H = some (v, H') ∧ (∃ i : Int, v = .int .i64 i ∧ decide (i ≥ 0) = (runes s).any fun x => p x.2) ∧ Grow H H' := by
    refine w52_ok hT ?_
    unfold w52
    exact c_i (indexFunc_ok hT s F p hF hp H) fun v H' h => h
  refine gr_of (w30_ok hT ?_)
  unfold w30
  refine c_i h1 ?_
  rintro v H' ⟨⟨i, rfl, hi⟩, hg⟩
  (repeat (with_reducible first | refine Stp.go ?_ | (refine i_cT ?_ ?_; · first | assumption | decide | exact rfl) | (refine i_cF ?_ ?_; · first | assumption | decide | exact rfl) | (refine i_T ?_ ?_; · first | assumption | exact rfl) | (refine i_F ?_ ?_; · first | assumption | exact rfl) | (refine Sts.go ?_ ?_; · first | omega | decide) | refine Stu.go ?_))
  exact ⟨by rw [hi], hg⟩

def vRune (r : Int) : Bool := decide (0 ≤ r ∧ r < 55296 ∨ 57343 < r ∧ r ≤ 1114111)
theorem validRune_ok (hT : Has T) (r : Int) (H : AH) : Den.of T 38 [.int .i32 r] H = some (.bool (vRune r), H) := by
  refine eq_of (w38_ok hT ?_)
  unfold w38
  (repeat' (first | (first | (with_reducible first | refine Stp.go ?_ | (refine i_cT ?_ ?_; · first | assumption | decide | exact rfl) | (refine i_cF ?_ ?_; · first | assumption | decide | exact rfl) | (refine i_T ?_ ?_; · first | assumption | exact rfl) | (refine i_F ?_ ?_; · first | assumption | exact rfl) | (refine Sts.go ?_ ?_; · first | omega | decide) | refine Stu.go ?_) | refine j_i ?_) | (with_reducible first | refine i_c (fun h => ?_) (fun h => ?_) | refine i_i (fun h => ?_) (fun h => ?_))))
  all_goals refine ⟨?_, rfl⟩
  all_goals congr 1
  all_goals unfold vRune
  all_goals symm
  all_goals simp
  all_goals omega

def may (r : Int) : Bool :=
  if r = 9 ∨ r = 10 ∨ r = 13 ∨ r = 133 then true
  else if r = 65279 ∨ r = 65534 ∨ r = 65535 then false
  else decide (32 ≤ r ∧ r < 127) || (decide (160 ≤ r) && vRune r)
theorem may_ok (hT : Has T) (r : Int) (H : AH) : Den.of T 18 [.int .i32 r] H = some (.bool (may r), H) := by
  refine eq_of (w18_ok hT ?_)
  unfold w18
  (repeat' (first | (first | (with_reducible first | refine Stp.go ?_ | (refine i_cT ?_ ?_; · first | assumption | decide | exact rfl) | (refine i_cF ?_ ?_; · first | assumption | decide | exact rfl) | (refine i_T ?_ ?_; · first | assumption | exact rfl) | (refine i_F ?_ ?_; · first | assumption | exact rfl) | (refine Sts.go ?_ ?_; · first | omega | decide) | refine Stu.go ?_) | refine j_i ?_) | with_reducible refine c_eq (validRune_ok hT _ _) ?_ | (with_reducible first | refine i_c (fun h => ?_) (fun h => ?_) | refine i_i (fun h => ?_) (fun h => ?_))))
  all_goals refine ⟨?_, rfl⟩
  all_goals congr 1
  all_goals unfold may
  all_goals simp_all
  all_goals omega

theorem notMay_ok (hT : Has T) (r : Int) (H : AH) : Den.of T 33 [.int .i32 r] H = some (.bool (!may r), H) := by
  refine eq_of (w33_ok hT ?_)
  unfold w33
  (repeat' (first | (first | (with_reducible first | refine Stp.go ?_ | (refine i_cT ?_ ?_; · first | assumption | decide | exact rfl) | (refine i_cF ?_ ?_; · first | assumption | decide | exact rfl) | (refine i_T ?_ ?_; · first | assumption | exact rfl) | (refine i_F ?_ ?_; · first | assumption | exact rfl) | (refine Sts.go ?_ ?_; · first | omega | decide) | refine Stu.go ?_) | refine j_i ?_) | with_reducible refine c_eq (may_ok hT _ _) ?_ | (with_reducible first | refine i_c (fun h => ?_) (fun h => ?_) | refine i_i (fun h => ?_) (fun h => ?_))))
  exact ⟨rfl, rfl⟩


theorem hasAny_ok (hT : Has T) (s t : List UInt8) (H : AH) :
    ∃ H', Den.of T 35 [.str s, .str t] H = some (.bool ((runes s).any fun x => (runes t).any fun y => x.2 == y.2), H') ∧ Grow H H' := by
  refine gr_of (w35_ok hT ?_)
  unfold w35
  refine s_range ?_
  refine l0 (fun n H' => ∃ pos, Grow H H' ∧ H.obs.length < H'.obs.length ∧ H'.get H.obs.length = .iter s pos ∧ n = s.length - pos ∧ ((runes s).any fun x => (runes t).any fun y => x.2 == y.2) = (runesF s n pos).any fun x => (runes t).any fun y => x.2 == y.2) s.length
    ⟨0, .push _ _, by rw [push_len]; omega, push_get _ _, rfl, rfl⟩ ?_
  rintro n H1 ⟨pos, hg, hl, hi, hn, hr⟩
  refine s_next hi (fun hlt => ?_) (fun hge => ?_)
  · rw [runesF_step hlt (by omega), List.any_cons] at hr
    have hdp := decode_pos ⟨s.toArray⟩ pos
    (repeat (with_reducible first | refine Stp.go ?_ | (refine i_cT ?_ ?_; · first | assumption | decide | exact rfl) | (refine i_cF ?_ ?_; · first | assumption | decide | exact rfl) | (refine i_T ?_ ?_; · first | assumption | exact rfl) | (refine i_F ?_ ?_; · first | assumption | exact rfl) | (refine Sts.go ?_ ?_; · first | omega | decide) | refine Stu.go ?_))
    refine s_range ?_
    generalize hH2 : H1.put H.obs.length (.iter s (pos + (Utf8.decode ⟨s.toArray⟩ pos).2)) = H2
    have hg2 : Grow H H2 := hH2 ▸ hg.put (Nat.le_refl _)
    have hl2 : H.obs.length < H2.obs.length := by rw [← hH2, put_len]; exact hl
    have hi2 : H2.get H.obs.length = .iter s (pos + (Utf8.decode ⟨s.toArray⟩ pos).2) := by rw [← hH2, put_get hl, if_pos rfl]
    refine l0 (fun m H' => ∃ q, Grow H2 H' ∧ H2.obs.length < H'.obs.length ∧ H'.get H2.obs.length = .iter t q ∧ m = t.length - q ∧
      ((runes t).any fun y => ((Utf8.decode ⟨s.toArray⟩ pos).1 : Int) == y.2) = (runesF t m q).any fun y => ((Utf8.decode ⟨s.toArray⟩ pos).1 : Int) == y.2) t.length
      ⟨0, .push _ _, by rw [push_len]; omega, push_get _ _, rfl, rfl⟩ ?_
    rintro m H3 ⟨q, kg, kl, ki, kn, kr⟩
    refine s_next ki (fun klt => ?_) (fun kge => ?_)
    · rw [runesF_step klt (by omega), List.any_cons] at kr
      have kdp := decode_pos ⟨t.toArray⟩ q
      (repeat' (first | (first | (with_reducible first | refine Stp.go ?_ | (refine i_cT ?_ ?_; · first | assumption | decide | exact rfl) | (refine i_cF ?_ ?_; · first | assumption | decide | exact rfl) | (refine i_T ?_ ?_; · first | assumption | exact rfl) | (refine i_F ?_ ?_; · first | assumption | exact rfl) | (refine Sts.go ?_ ?_; · first | omega | decide) | refine Stu.go ?_) | refine j_i ?_) | (with_reducible first | refine i_c (fun h => ?_) (fun h => ?_) | refine i_i (fun h => ?_) (fun h => ?_))))
      · rw [beq_iff_eq.2 h, Bool.true_or] at kr
        exact ⟨by rw [hr, kr, Bool.true_or], hg2.trans (kg.put (Nat.le_refl _))⟩
      · rw [beq_eq_false_iff_ne.2 h, Bool.false_or] at kr
        exact ⟨t.length - (q + (Utf8.decode ⟨t.toArray⟩ q).2), by omega, _, kg.put (Nat.le_refl _), by rw [put_len]; omega, by rw [put_get kl, if_pos rfl], rfl, by rw [kr, runesF_more (m - 1) (Nat.le_refl _) (by omega)]⟩
    · rw [runesF_end kge] at kr
      (repeat (with_reducible first | refine Stp.go ?_ | (refine i_cT ?_ ?_; · first | assumption | decide | exact rfl) | (refine i_cF ?_ ?_; · first | assumption | decide | exact rfl) | (refine i_T ?_ ?_; · first | assumption | exact rfl) | (refine i_F ?_ ?_; · first | assumption | exact rfl) | (refine Sts.go ?_ ?_; · first | omega | decide) | refine Stu.go ?_))
      rw [kr, List.any_nil, Bool.false_or] at hr
      refine ⟨s.length - (pos + (Utf8.decode ⟨s.toArray⟩ pos).2), by omega, _, hg2.trans kg, by have := kg.len; omega, by rw [kg.get hl2]; exact hi2, rfl, ?_⟩
      rw [hr, runesF_more (n - 1) (Nat.le_refl _) (by omega)]
  · rw [runesF_end hge] at hr
    (repeat (with_reducible first | refine Stp.go ?_ | (refine i_cT ?_ ?_; · first | assumption | decide | exact rfl) | (refine i_cF ?_ ?_; · first | assumption | decide | exact rfl) | (refine i_T ?_ ?_; · first | assumption | exact rfl) | (refine i_F ?_ ?_; · first | assumption | exact rfl) | (refine Sts.go ?_ ?_; · first | omega | decide) | refine Stu.go ?_))
    exact ⟨by rw [hr]; rfl, hg⟩

def suff (p s : List UInt8) : Bool := decide (p.length ≤ s.length) && s.drop (s.length - p.length) == p
def first : List UInt8 := [45, 63, 58, 44, 91, 93, 123, 125, 35, 38, 42, 33, 124, 62, 39, 34, 37, 64, 96, 32]
def never : List UInt8 := [9, 10, 13, 44, 91, 93, 123, 125]
def plainT (s : List UInt8) : Bool :=
  if s = [] ∨ s = [45, 45, 45] ∨ s = [46, 46, 46] ∨ Lib.validD s = false then false
  else if Lib.indexByte first (s.headD 0) ≥ 0 ∨ ((runes s).any fun x => (runes never).any fun y => x.2 == y.2) = true ∨ ((runes s).any fun x => !may x.2) = true then false
  else if suff [32] s = true ∨ suff [58] s = true then false
  else !Lib.contains s [58, 32] && !Lib.contains s [32, 35]

theorem plainT_ok (hT : Has T) (hK : Knows T) (s : List UInt8) (hs : s.length < 4294967281) (H : AH) :
    ∃ H', Den.of T 16 [.str s] H = some (.bool (plainT s), H') ∧ Grow H H' := by
  refine gr_of (w16_ok hT ?_)
  unfold w16
  refine j1 (fun a H' => a = .bool (decide (s = [] ∨ s = [45, 45, 45] ∨ s = [46, 46, 46] ∨ Lib.validD s = false)) ∧ H = H') ?_ ?_
  · rintro _ _ ⟨rfl, rfl⟩
    (with_reducible first | refine i_c (fun h => ?_) (fun h => ?_) | refine i_i (fun h => ?_) (fun h => ?_))
    · exact ⟨by rw [plainT, if_pos h], .refl _⟩
    have n1 := h
    cases s with
    | nil => exact absurd (.inl rfl) n1
    | cons a l =>
    refine j1 (fun x H' => x = .bool (decide (Lib.indexByte first a ≥ 0 ∨ ((runes (a :: l)).any fun x => (runes never).any fun y => x.2 == y.2) = true ∨ ((runes (a :: l)).any fun x => !may x.2) = true)) ∧ Grow H H') ?_ ?_
    · rintro _ H1 ⟨rfl, g1⟩
      (with_reducible first | refine i_c (fun h => ?_) (fun h => ?_) | refine i_i (fun h => ?_) (fun h => ?_))
      · exact ⟨by rw [plainT, if_neg n1, if_pos (by simpa using h)], g1⟩
      have n2 := h
      refine j1 (fun x H' => x = .bool (decide (suff [32] (a :: l) = true ∨ suff [58] (a :: l) = true)) ∧ H1 = H') ?_ ?_
      · rintro _ _ ⟨rfl, rfl⟩
        (with_reducible first | refine i_c (fun h => ?_) (fun h => ?_) | refine i_i (fun h => ?_) (fun h => ?_))
        · exact ⟨by rw [plainT, if_neg n1, if_neg (by simpa using n2), if_pos h], g1⟩
        have n3 := h
        have hp : plainT (a :: l) = (!Lib.contains (a :: l) [58, 32] && !Lib.contains (a :: l) [32, 35]) := by rw [plainT, if_neg n1, if_neg (by simpa using n2), if_neg n3]
        have c1 := fun H => hK.contains (a :: l) [58, 32] H hs
        have c2 := fun H => hK.contains (a :: l) [32, 35] H hs
        (repeat' (first | (first | (with_reducible first | refine Stp.go ?_ | (refine i_cT ?_ ?_; · first | assumption | decide | exact rfl) | (refine i_cF ?_ ?_; · first | assumption | decide | exact rfl) | (refine i_T ?_ ?_; · first | assumption | exact rfl) | (refine i_F ?_ ?_; · first | assumption | exact rfl) | (refine Sts.go ?_ ?_; · first | omega | decide) | refine Stu.go ?_) | refine j_i ?_) | with_reducible refine c_eq (c1 _) ?_ | with_reducible refine c_eq (c2 _) ?_ | (with_reducible first | refine i_c (fun h => ?_) (fun h => ?_) | refine i_i (fun h => ?_) (fun h => ?_))))
        all_goals exact ⟨by rw [hp]; simp [*], g1⟩
      · intro j hj
        have c1 := fun H => hasSuffix_ok hT (a :: l) [32] (by omega) H
        have c2 := fun H => hasSuffix_ok hT (a :: l) [58] (by omega) H
        change ∀ H, _ = some (AV.bool (suff [32] (a :: l)), H) at c1
        change ∀ H, _ = some (AV.bool (suff [58] (a :: l)), H) at c2
        (repeat' (first | (first | (with_reducible first | refine Stp.go ?_ | (refine i_cT ?_ ?_; · first | assumption | decide | exact rfl) | (refine i_cF ?_ ?_; · first | assumption | decide | exact rfl) | (refine i_T ?_ ?_; · first | assumption | exact rfl) | (refine i_F ?_ ?_; · first | assumption | exact rfl) | (refine Sts.go ?_ ?_; · first | omega | decide) | refine Stu.go ?_) | refine j_i ?_) | with_reducible refine c_eq (c1 _) ?_ | with_reducible refine c_eq (c2 _) ?_ | (with_reducible first | refine i_c (fun h => ?_) (fun h => ?_) | refine i_i (fun h => ?_) (fun h => ?_))))
        all_goals exact hj _ _ ⟨by simp [*], rfl⟩
    · intro j hj
      refine g_byte (b := a) (by decide) rfl ?_
      have c1 := fun H => hK.byte first a H
      have c2 := fun H => hasAny_ok hT (a :: l) never H
      have c3 := fun H => containsFunc_ok hT (a :: l) 33 (fun r => !may r) (by decide) (notMay_ok hT) H
      refine c_eq (c1 _) ?_
      (repeat (with_reducible first | refine Stp.go ?_ | (refine i_cT ?_ ?_; · first | assumption | decide | exact rfl) | (refine i_cF ?_ ?_; · first | assumption | decide | exact rfl) | (refine i_T ?_ ?_; · first | assumption | exact rfl) | (refine i_F ?_ ?_; · first | assumption | exact rfl) | (refine Sts.go ?_ ?_; · first | omega | decide) | refine Stu.go ?_))
      refine i_dec (fun h => ?_) (fun h => ?_)
      · exact hj _ _ ⟨by rw [decide_eq_true (.inl h)], .refl _⟩
      · have m1 := h
        refine c_gr (c2 _) fun H1 g1 => ?_
        (repeat' (first | (first | (with_reducible first | refine Stp.go ?_ | (refine i_cT ?_ ?_; · first | assumption | decide | exact rfl) | (refine i_cF ?_ ?_; · first | assumption | decide | exact rfl) | (refine i_T ?_ ?_; · first | assumption | exact rfl) | (refine i_F ?_ ?_; · first | assumption | exact rfl) | (refine Sts.go ?_ ?_; · first | omega | decide) | refine Stu.go ?_) | refine j_i ?_) | (with_reducible refine c_gr (c3 _) ?_; refine fun _ _ => ?_) | (with_reducible first | refine i_c (fun h => ?_) (fun h => ?_) | refine i_i (fun h => ?_) (fun h => ?_))))
        · exact hj _ _ ⟨by rw [decide_eq_true (.inr (.inl h))], g1⟩
        · rename_i H2 g2
          refine hj _ _ ⟨?_, g1.trans g2⟩
          congr 1
          rw [Bool.eq_iff_iff, decide_eq_true_eq, h]
          simp [m1]
  · intro j hj
    have c1 := fun H => hK.valid s H (by omega)
    (repeat' (first | (first | (with_reducible first | refine Stp.go ?_ | (refine i_cT ?_ ?_; · first | assumption | decide | exact rfl) | (refine i_cF ?_ ?_; · first | assumption | decide | exact rfl) | (refine i_T ?_ ?_; · first | assumption | exact rfl) | (refine i_F ?_ ?_; · first | assumption | exact rfl) | (refine Sts.go ?_ ?_; · first | omega | decide) | refine Stu.go ?_) | refine j_i ?_) | with_reducible refine c_eq (c1 _) ?_ | (with_reducible first | refine i_c (fun h => ?_) (fun h => ?_) | refine i_i (fun h => ?_) (fun h => ?_))))
    all_goals exact hj _ _ ⟨by simp [*], rfl⟩



end Go.SV
