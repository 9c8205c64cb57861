/- The laws of how texts are written and read, beside the document's, in the abstract machine. Own text of the prover; nothing is assumed. -/
import Derived.Test.YtaimiohndbajjaaGreatDoorRg
import Derived.Test.YtaimiohndbajjaaGreatDoorQh
set_option maxRecDepth 100000
namespace Go.SV

variable {T : Nat → Option Entry}

theorem replK2_len : ∀ (k : Nat) (l : List UInt8), (Lib.replaceK [39, 39] [39] k l).length ≤ l.length := by
  intro k
  induction k with
  | zero => intro l; exact Nat.le_refl _
  | succ k ih =>
    intro l
    have hge := Lib.index_ge l [39, 39]
    by_cases h : Lib.index l [39, 39] = -1
    · rw [Lib.replaceK, if_pos (by simp [h])]
      exact Nat.le_refl _
    · rw [Lib.replaceK, if_neg (by simpa using h)]
      have room := Lib.index_room l [39, 39] (by omega)
      have hi := ih (l.drop ((Lib.index l [39, 39]).toNat + ([39, 39] : List UInt8).length))
      simp only [List.length_append, List.length_take, List.length_drop, List.length_cons, List.length_nil] at hi room ⊢
      omega
theorem usgT_len (s : List UInt8) : (usgT s).length ≤ s.length := by
  have h1 : (inner s).length ≤ s.length := by simp only [inner, List.length_drop, List.length_take]; omega
  refine Nat.le_trans ?_ h1
  unfold usgT Lib.replaceAll Lib.replace
  rw [if_neg (by decide)]
  exact replK2_len _ _

theorem unqDR_same (s : List UInt8) : unqDR s = unqR s := by
  have h := unqD_same s
  cases hu : unqS s with
  | none =>
    rw [hu] at h
    rw [unqDR, h, unqR_none hu]
  | some t =>
    rw [hu] at h
    rw [unqDR, h, unqR, hu]

theorem lawReads (hT : Has T) (hK : Knows T) (hB : KnowsB T) (hQ : KnowsT T) (hE : KnowsE T) (s : List UInt8) (hs : s.length < 2 ^ 63) (H : AH) (hp : 0 < H.toks.length) :
    ∃ H', Den.of T 4 [.str s] H = some (.bool true, H') ∧ Grow H H' := by
  refine gr_of (w4_ok hT ?_)
  unfold w4
  refine c_gr (alive2_ok hT hK hB hQ hE H hp) fun H1 g1 => ?_
  refine Stp.go ?_
  refine i_F rfl ?_
  refine Stp.go ?_
  refine Stp.go ?_
  refine i_c (fun h => ⟨rfl, g1⟩) (fun h => ?_)
  refine c_gb g1 (unquote_ok hT hK hB hQ hE s (by omega) H1 (g1.pos hp)) fun H2 g2 => ?_
  obtain ⟨t, e, hst⟩ : ∃ t e, unqR s = .tup [.str t, .int .i64 e] := by
    unfold unqR
    split
    · exact ⟨_, _, rfl⟩
    · exact ⟨_, _, rfl⟩
  rw [hst]
  refine g_ext0 ?_
  refine g_ext1 ?_
  refine c_gb g2 (runquote_ok hT s (by omega) H2 (g2.pos hp)) fun H3 g3 => ?_
  rw [unqDR_same, hst]
  refine g_ext0 ?_
  refine g_ext1 ?_
  have hlen : (usgT s).length ≤ s.length := usgT_len s
  have hr := repl_len (usgT s)
  have hc := count_le (usgT s)
  refine c_gb g3 (unsingle_ok hT hK hQ s (by omega) (by omega) (by omega) H3) fun H4 g4 => ?_
  obtain ⟨t2, e2, hst2⟩ : ∃ t e, usgR s = .tup [.str t, .int .i64 e] := by
    unfold usgR
    split
    · exact ⟨_, _, rfl⟩
    · exact ⟨_, _, rfl⟩
  rw [hst2]
  refine g_ext0 ?_
  refine g_ext1 ?_
  refine c_gb g4 (runsingle_ok hT s (by omega) H4 (g4.pos hp)) fun H5 g5 => ?_
  rw [usgD_same, hst2]
  refine g_ext0 ?_
  refine g_ext1 ?_
  refine c_eq (end_ok hT s (by omega) _) ?_
  obtain ⟨n, e3, hst3⟩ : ∃ t e, endR s = .tup [.int .i64 t, .int .i64 e] := by
    unfold endR
    split
    · exact ⟨_, _, rfl⟩
    · exact ⟨_, _, rfl⟩
  rw [hst3]
  refine g_ext0 ?_
  refine g_ext1 ?_
  refine c_eq (rend_ok hT s (by omega) _) ?_
  rw [hst3]
  refine g_ext0 ?_
  refine g_ext1 ?_
  refine g_seq ?_
  refine d_t ?_
  refine i_strT rfl ?_
  refine Stp.go ?_
  refine d_t ?_
  refine i_intT rfl ?_
  refine g_seq ?_
  refine d_t ?_
  refine i_strT rfl ?_
  refine Stp.go ?_
  refine d_t ?_
  refine i_intT rfl ?_
  refine Stp.go ?_
  refine d_t ?_
  refine i_intT rfl ?_
  refine Stp.go ?_
  exact ⟨by simp, g5⟩

end Go.SV
