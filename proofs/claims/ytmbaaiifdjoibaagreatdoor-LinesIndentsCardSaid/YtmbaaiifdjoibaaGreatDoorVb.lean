/- The law of indents, in the abstract machine. Own text of the prover; nothing is assumed. -/
import Derived.Test.YtmbaaiifdjoibaaGreatDoorVa
import Derived.Test.YtmbaaiifdjoibaaGreatDoorTc
set_option maxRecDepth 1000000
namespace Go.SV

/-- How many blanks a text begins with. -/
def indS : List UInt8 → Nat
  | [] => 0
  | a :: l => if a = 32 then indS l + 1 else 0
theorem indS_ne {a : UInt8} {l : List UInt8} (h : a ≠ 32) : indS (a :: l) = 0 := if_neg h
theorem indS_eq (l : List UInt8) : indS (32 :: l) = indS l + 1 := if_pos rfl
theorem indS_trim : ∀ l : List UInt8, (Lib.trimLeftB l 32).length + indS l = l.length := by
  intro l
  induction l with
  | nil => rfl
  | cons a l ih =>
    by_cases h : a = 32
    · subst h
      have e : Lib.trimLeftB (32 :: l) 32 = Lib.trimLeftB l 32 := by simp [Lib.trimLeftB]
      rw [e, indS_eq, List.length_cons]
      omega
    · have e : Lib.trimLeftB (a :: l) 32 = a :: l := by simp [Lib.trimLeftB, List.dropWhile, beq_eq_false_iff_ne.2 h]
      rw [e, indS_ne h]
      rfl
theorem indS_le (l : List UInt8) : indS l ≤ l.length := by have := indS_trim l; omega
theorem indS_at : ∀ l : List UInt8, l[indS l]? ≠ some 32 := by
  intro l
  induction l with
  | nil => simp
  | cons a l ih =>
    by_cases h : a = 32
    · subst h
      rw [indS_eq, List.getElem?_cons_succ]
      exact ih
    · rw [indS_ne h]
      simpa using h
theorem rep_one (c : UInt8) : ∀ n : Nat, Lib.repeatL [c] n = List.replicate n c := by
  intro n
  induction n with
  | zero => rfl
  | succ n ih => rw [Lib.repeatL, ih]; rfl
theorem indS_rep (n : Nat) (l : List UInt8) : indS (List.replicate n 32 ++ l) = n + indS l := by
  induction n with
  | zero => simp
  | succ n ih => rw [List.replicate_succ, List.cons_append, indS_eq, ih]; omega

variable {T : Nat → Option Entry}
theorem indent_ok (hT : Has T) (hV : KnowsV T) (s : List UInt8) (hs : s.length < 2 ^ 60) (H : AH) : Den.of T 5 [.str s] H = some (.int .i64 (indS s), H) := by
  refine eq_of (w5_ok hT ?_)
  unfold w5
  have h1 := indS_trim s
  refine Stp.go ?_
  refine c_eq (hV.tl s 32 H (by decide)) ?_
  refine Stp.go ?_
  refine g_sub64 (by omega) ?_
  refine ⟨?_, rfl⟩
  congr 1
  omega

theorem alive5 : endsTrue tableV 300 60 4 = true := by kernel_rfl

theorem lawIndents (s : List UInt8) (n : Int) (hn : 0 ≤ n ∧ n < 256) (_ : AH) (_ : True) : ∃ H', Den.of tableV 3 [.str s, .int .u8 n] AH.start = some (.bool true, H') ∧ True := by
  obtain ⟨H1, ha, _⟩ := run_true alive5
  have hT := tableV_has
  have hV := tableV_knowsV
  have main : ∃ v H', Den.of tableV 3 [.str s, .int .u8 n] AH.start = some (v, H') ∧ v = .bool true := by
    refine w3_ok hT ?_
    unfold w3
    refine c_eq ha ?_
    refine Stp.go ?_
    refine i_F rfl ?_
    refine Stp.go ?_
    refine Stp.go ?_
    refine i_c (fun h => rfl) (fun h => ?_)
    have hle := indS_le s
    refine c_eq (indent_ok hT hV s (by omega) H1) ?_
    obtain ⟨u, rfl⟩ := Int.eq_ofNat_of_zero_le hn.1
    refine g_cv64 (by omega) ?_
    refine g_rem (by decide) ?_
    have em : ((u : Int).tmod 40) = ((u % 40 : Nat) : Int) := by rw [Int.tmod_eq_emod_of_nonneg (by omega)]; norm_cast
    rw [em]
    have hm : u % 40 < 40 := Nat.mod_lt _ (by decide)
    generalize u % 40 = m at *
    refine c_eq (hV.rep [32] m H1 (by omega) (by decide)) ?_
    rw [rep_one]
    refine g_cat (by rw [List.length_replicate]; omega) ?_
    refine c_eq (indent_ok hT hV (List.replicate m 32 ++ s) (by rw [List.length_append, List.length_replicate]; omega) H1) ?_
    rw [indS_rep]
    refine g_add64 (by omega) ?_
    refine Stp.go ?_
    refine d_t ?_
    refine i_intT (by omega) ?_
    refine g_cat (by simp; omega) ?_
    refine c_eq (indent_ok hT hV ([120] ++ s) (by simp; omega) H1) ?_
    rw [show indS ([120] ++ s) = 0 from indS_ne (by decide)]
    refine Stp.go ?_
    refine d_t ?_
    refine i_intT rfl ?_
    refine g_cat (by simp; omega) ?_
    refine c_eq (indent_ok hT hV ([9] ++ s) (by simp; omega) H1) ?_
    rw [show indS ([9] ++ s) = 0 from indS_ne (by decide)]
    refine Stp.go ?_
    refine d_t ?_
    refine i_intT rfl ?_
    refine Stp.go ?_
    refine Stp.go ?_
    refine d_f ?_
    refine i_c (fun h2 => rfl) (fun h2 => ?_)
    have hlt : indS s < s.length := by omega
    have hg := List.getElem?_eq_getElem hlt
    have hne := indS_at s
    generalize s[indS s] = b at hg
    refine g_byte (b := b) (by omega) (by rw [Int.toNat_natCast]; exact hg) ?_
    refine Stp.go ?_
    have hb : ¬ ((b.toNat : Int) = 32) := fun e => hne (by rw [hg, show b = 32 from UInt8.toNat_inj.1 (by show b.toNat = 32; omega)])
    rw [beq_eq_false_iff_ne.2 hb]
    rfl
  obtain ⟨v, H', h1, rfl⟩ := main
  exact ⟨H', h1, trivial⟩

end Go.SV
