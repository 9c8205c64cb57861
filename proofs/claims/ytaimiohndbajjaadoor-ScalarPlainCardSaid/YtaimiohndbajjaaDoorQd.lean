/- Contracts: where a quoted text ends. Own text of the prover; nothing is assumed. -/
import Derived.Test.YtaimiohndbajjaaDoorQa
set_option maxRecDepth 100000
namespace Go.SV

variable {T : Nat → Option Entry}

/-- How many bytes there are up to the closing quote, behind the opening one. -/
def endF (q : UInt8) : List UInt8 → Option Nat
  | [] => none
  | [a] => if a = q then some 1 else none
  | a :: b :: l => if (q = 34 ∧ a = 92) ∨ (q = 39 ∧ a = 39 ∧ b = 39) then (endF q l).map (· + 2) else if a = q then some 1 else (endF q (b :: l)).map (· + 1)

def endS (s : List UInt8) : Option Nat := match s with
  | [] => none
  | q :: l => if q = 34 ∨ q = 39 then (endF q l).map (· + 1) else none
def endR (s : List UInt8) : AV := match endS s with
  | some n => .tup [.int .i64 (n : Nat), .int .i64 0]
  | none => .tup [.int .i64 0, .int .i64 10]

/-- One step, by its cases. -/
theorem endF_skip {q a : UInt8} {l : List UInt8} (h : (q = 34 ∧ a = 92) ∨ (q = 39 ∧ pre [39, 39] (a :: l) = true)) : endF q (a :: l) = (endF q (l.drop 1)).map (· + 2) := by
  cases l with
  | nil =>
    rcases h with ⟨rfl, rfl⟩ | ⟨_, h⟩
    · rfl
    · simp [pre] at h
  | cons b l =>
    rw [endF, if_pos]
    · rfl
    rcases h with h | ⟨h1, h2⟩
    · exact .inl h
    · simp only [pre, List.length_cons, List.length_nil, List.take_succ_cons, List.take_zero, beq_iff_eq, List.cons.injEq, and_true] at h2
      exact .inr ⟨h1, h2⟩
theorem endF_one {q a : UInt8} {l : List UInt8} (h1 : ¬ (q = 34 ∧ a = 92)) (h2 : ¬ (q = 39 ∧ pre [39, 39] (a :: l) = true)) (h : a = q) : endF q (a :: l) = some 1 := by
  cases l with
  | nil => rw [endF, if_pos h]
  | cons b l =>
    rw [endF, if_neg, if_pos h]
    rintro (h3 | ⟨h3, h4⟩)
    · exact h1 h3
    · exact h2 ⟨h3, by simp [pre, h4]⟩
theorem endF_next {q a : UInt8} {l : List UInt8} (h1 : ¬ (q = 34 ∧ a = 92)) (h2 : ¬ (q = 39 ∧ pre [39, 39] (a :: l) = true)) (h : ¬ a = q) : endF q (a :: l) = (endF q l).map (· + 1) := by
  cases l with
  | nil =>
    show (if a = q then some 1 else none) = none
    rw [if_neg h]
  | cons b l =>
    rw [endF, if_neg, if_neg h]
    rintro (h3 | ⟨h3, h4⟩)
    · exact h1 h3
    · exact h2 ⟨h3, by simp [pre, h4]⟩

theorem hasPrefixS_ok (hT : Has T) (s p : List UInt8) (H : AH) : Den.of T 28 [.str s, .str p] H = some (.bool (pre p s), H) := by
  refine eq_of (w28_ok hT ?_)
  unfold w28
  refine c_eq (hasPrefix_ok hT s p H) ?_
  exact ⟨rfl, rfl⟩

theorem map_map2 {x : Option Nat} (a b : Nat) : (x.map (· + a)).map (· + b) = x.map (· + (b + a)) := by
  cases x with
  | none => rfl
  | some n => simp only [Option.map_some]; congr 1; omega

theorem end_ok (hT : Has T) (s : List UInt8) (hs : s.length < 2 ^ 40) (H : AH) : Den.of T 12 [.str s] H = some (endR s, H) := by
  refine eq_of (w12_ok hT ?_)
  unfold w12
  cases s with
  | nil =>
    refine j1 (fun x H' => x = .bool true ∧ H = H') ?_ ?_
    · rintro _ _ ⟨rfl, rfl⟩
      refine i_T rfl ?_
      exact ⟨rfl, rfl⟩
    · intro j hj
      refine Stp.go ?_
      refine d_f ?_
      refine i_T rfl ?_
      exact hj _ _ ⟨rfl, rfl⟩
  | cons q l =>
    have eb : ∀ (a b : UInt8), ((a.toNat : Int) = (b.toNat : Int)) ↔ a = b := fun a b => ⟨fun e => UInt8.toNat_inj.1 (by omega), fun e => by rw [e]⟩
    have e34 : ∀ a : UInt8, ((a.toNat : Int) = 34) ↔ a = 34 := fun a => eb a 34
    have e39 : ∀ a : UInt8, ((a.toNat : Int) = 39) ↔ a = 39 := fun a => eb a 39
    have e92 : ∀ a : UInt8, ((a.toNat : Int) = 92) ↔ a = 92 := fun a => eb a 92
    refine j1 (fun x H' => x = .bool (decide (¬ (q = 34 ∨ q = 39))) ∧ H = H') ?_ ?_
    rotate_left
    · intro j hj
      refine Stp.go ?_
      refine d_f ?_
      refine i_F rfl ?_
      refine g_byte (b := q) (by decide) rfl ?_
      refine g_neq ?_
      refine d_t ?_
      refine i_not ?_
      refine i_c (fun h => ?_) (fun h => ?_)
      · refine hj _ _ ⟨?_, rfl⟩
        rw [decide_eq_false]
        exact fun hn => hn (.inl ((e34 q).1 h))
      · refine g_byte (b := q) (by decide) rfl ?_
        refine g_neq ?_
        refine hj _ _ ⟨?_, rfl⟩
        congr 1
        rw [Bool.eq_iff_iff]
        have h34 : ¬ q = 34 := fun e => h ((e34 q).2 e)
        by_cases h39 : q = 39
        · simp [h39]
        · have : ¬ ((q.toNat : Int) = 39) := fun e => h39 ((e39 q).1 e)
          simp [h34, h39, this]
    rintro _ _ ⟨rfl, rfl⟩
    refine i_c (fun h => ?_) (fun h => ?_)
    · exact ⟨by rw [endR, endS, if_neg h], rfl⟩
    have hq : q = 34 ∨ q = 39 := Decidable.not_not.1 h
    have hS : endS (q :: l) = (endF q l).map (· + 1) := by rw [endS, if_pos hq]
    have hlen : (q :: l).length = l.length + 1 := rfl
    refine l1 (fun m x H' => ∃ i : Nat, x = .int .i64 i ∧ 1 ≤ i ∧ i ≤ (q :: l).length + 1 ∧ H = H' ∧ m = (q :: l).length + 1 - i ∧ endS (q :: l) = (endF q ((q :: l).drop i)).map (· + i)) (l.length + 1) ⟨1, rfl, by decide, by omega, rfl, by omega, hS⟩ ?_
    rintro m _ _ ⟨i, rfl, hi1, hi2, rfl, hm, he⟩
    refine Stp.go ?_
    refine Stp.go ?_
    refine i_c (fun h2 => ?_) (fun h2 => ?_)
    rotate_left
    · rw [List.drop_eq_nil_of_le (by omega)] at he
      refine ⟨?_, rfl⟩
      rw [endR, he]; rfl
    have hlt : i < (q :: l).length := by omega
    have hg := List.getElem?_eq_getElem hlt
    have hd := List.drop_eq_getElem_cons hlt
    generalize (q :: l)[i] = c at hg hd
    have hdd : ((q :: l).drop (i + 1)).drop 1 = (q :: l).drop (i + 2) := by rw [List.drop_drop]
    refine j1 (fun x H' => ∃ k : Nat, x = .int .i64 k ∧ i ≤ k ∧ k ≤ (q :: l).length ∧ H = H' ∧ endS (q :: l) = (endF q ((q :: l).drop (k + 1))).map (· + (k + 1))) ?_ ?_
    · rintro _ _ ⟨k, rfl, hk1, hk2, rfl, hk⟩
      refine g_add64 (by omega) ?_
      exact ⟨(q :: l).length + 1 - (k + 1), by omega, k + 1, by congr 1, by omega, by omega, rfl, rfl, hk⟩
    intro j hj
    refine g_byte (b := q) (by decide) rfl ?_
    refine Stp.go ?_
    have eq34 : ((q.toNat : Int) == 34) = decide (q = 34) := by rw [Bool.eq_iff_iff, beq_iff_eq, decide_eq_true_iff, e34]
    rw [eq34]
    have skip : ((q = 34 ∧ c = 92) ∨ (q = 39 ∧ pre [39, 39] ((q :: l).drop i) = true)) → ∀ H', H = H' → gP (aBin .add (.int .i64 i) (.int .i64 1)) fun x => j x H' := by
      rintro hs H' rfl
      refine g_add64 (by omega) ?_
      refine hj _ _ ⟨i + 1, by congr 1, by omega, by omega, rfl, ?_⟩
      rw [he, hd]
      rw [hd] at hs
      rw [endF_skip hs, hdd, map_map2]
    refine j1 (fun x H' => x = .bool (decide (q = 34 ∧ c = 92)) ∧ H = H') ?_ ?_
    rotate_left
    · intro j2 hj2
      refine d_t ?_
      refine i_c (fun h3 => ?_) (fun h3 => ?_)
      · refine g_byte (b := c) (by omega) (by rw [Int.toNat_natCast]; exact hg) ?_
        refine Stp.go ?_
        refine hj2 _ _ ⟨?_, rfl⟩
        congr 1
        rw [Bool.eq_iff_iff, beq_iff_eq, e92, decide_eq_true_iff]
        simp [h3]
      · exact hj2 _ _ ⟨by rw [decide_eq_false]; exact fun e => h3 e.1, rfl⟩
    rintro _ _ ⟨rfl, rfl⟩
    refine i_c (fun h3 => skip (.inl h3) _ rfl) (fun h3 => ?_)
    refine j1 (fun x H' => x = .bool (decide (q = 39 ∧ pre [39, 39] ((q :: l).drop i) = true)) ∧ H = H') ?_ ?_
    rotate_left
    · intro j2 hj2
      refine Stp.go ?_
      refine d_t ?_
      refine i_not ?_
      refine i_c (fun h4 => ?_) (fun h4 => ?_)
      · refine hj2 _ _ ⟨?_, rfl⟩
        rw [decide_eq_false]
        rintro ⟨e, _⟩
        rw [h4] at e; cases e
      · have h39 : q = 39 := hq.resolve_left h4
        refine g_from (by omega) ?_
        rw [Int.toNat_natCast]
        refine c_eq (hasPrefixS_ok hT _ _ _) ?_
        refine hj2 _ _ ⟨?_, rfl⟩
        congr 1
        rw [Bool.eq_iff_iff, decide_eq_true_iff]
        simp [h39]
    rintro _ _ ⟨rfl, rfl⟩
    refine i_c (fun h4 => skip (.inr h4) _ rfl) (fun h4 => ?_)
    rw [hd] at h4
    refine g_byte (b := c) (by omega) (by rw [Int.toNat_natCast]; exact hg) ?_
    refine g_byte (b := q) (by decide) rfl ?_
    refine Stp.go ?_
    refine i_c (fun h5 => ?_) (fun h5 => ?_)
    · refine g_add64 (by omega) ?_
      refine ⟨?_, rfl⟩
      have h5' := (eb c q).1 h5
      rw [hd, endF_one h3 h4 h5'] at he
      rw [endR, he]
      simp only [Option.map_some]
      congr 3
      omega
    · refine hj _ _ ⟨i, rfl, by omega, by omega, rfl, ?_⟩
      rw [he, hd, endF_next h3 h4 (fun e => h5 ((eb c q).2 e)), map_map2]

end Go.SV
