/- The law that quoted texts come back, in the abstract machine. Own text of the prover; nothing is assumed. -/
import Derived.Test.YtaimiohndbajjaaDoorPt
set_option maxRecDepth 100000
namespace Go.SV

variable {T : Nat → Option Entry}

theorem lawBackS (hT : Has T) (hK : Knows T) (hB : KnowsB T) (hQ : KnowsT T) (s rest : List UInt8) (hs : s.length < 2 ^ 63) (hs2 : rest.length < 2 ^ 63) (H : AH) (hp : 0 < H.toks.length) :
    ∃ H', Den.of T 3 [.str s, .str rest] H = some (.bool true, H') ∧ Grow H H' := by
  refine gr_of (w3_ok hT ?_)
  unfold w3
  refine c_gr (alive2_ok hT hK hB hQ H hp) fun H1 g1 => ?_
  refine Stp.go ?_
  refine i_F rfl ?_
  refine j1 (fun x H' => x = .bool (decide (1000 < s.length ∨ 1000 < rest.length)) ∧ H1 = H') ?_ ?_
  rotate_left
  · intro j hj
    refine Stp.go ?_
    refine Stp.go ?_
    refine d_f ?_
    refine i_c (fun h => ?_) (fun h => ?_)
    · exact hj _ _ ⟨by rw [decide_eq_true (.inl (by omega))], rfl⟩
    · refine Stp.go ?_
      refine Stp.go ?_
      refine hj _ _ ⟨?_, rfl⟩
      congr 1
      rw [Bool.eq_iff_iff, decide_eq_true_iff, decide_eq_true_iff]
      omega
  rintro _ _ ⟨rfl, rfl⟩
  refine i_c (fun h => ⟨rfl, g1⟩) (fun h => ?_)
  have hl1 : s.length ≤ 1000 := by omega
  have hl2 : rest.length ≤ 1000 := by omega
  refine c_i (chars_ok hT s (by omega) H1 (g1.pos hp)) ?_
  rintro _ H2 ⟨⟨row, rfl, _⟩, g12⟩
  have g2 := g1.trans g12
  refine g_ext0 ?_
  refine g_ext1 ?_
  refine c_gb g2 (quote_ok hT hK hB s (by omega) H2 (g2.pos hp)) fun H3 g3 => ?_
  refine Stp.go ?_
  refine i_not ?_
  refine i_i (fun hv => ?_) (fun hv => ?_)
  rotate_left
  · rw [quoteS, hv]
    refine Stp.go ?_
    exact ⟨rfl, g3⟩
  obtain ⟨hu, huG⟩ := unq_quote hv
  have hql := quote_len s
  refine c_gb g3 (unquote_ok hT hK hB hQ (quoteS s) (by omega) (fun _ => huG) H3 (g3.pos hp)) fun H4 g4 => ?_
  have huR : unqR (quoteS s) = .tup [.str s, .int .i64 0] := by rw [unqR, hu]
  rw [huR]
  refine g_ext0 ?_
  refine g_ext1 ?_
  refine g_cat (by omega) ?_
  refine c_eq (end_ok hT _ (by rw [List.length_append]; omega) _) ?_
  rw [endR, end_quote hv]
  refine g_ext0 ?_
  refine g_ext1 ?_
  refine j1 (fun x H' => x = .bool false ∧ H4 = H') ?_ ?_
  rotate_left
  · intro j hj
    refine g_sne ?_
    refine d_f ?_
    refine i_F (by simp) ?_
    refine Stp.go ?_
    refine d_f ?_
    refine i_F rfl ?_
    refine Stp.go ?_
    refine g_neq ?_
    refine d_f ?_
    refine i_F (by simp) ?_
    refine Stp.go ?_
    exact hj _ _ ⟨rfl, rfl⟩
  rintro _ _ ⟨rfl, rfl⟩
  refine i_F rfl ?_
  have hcl := count_le s
  have hrl := repl_len s
  refine c_gb g4 (single_ok hT hK hQ s (by omega) (by omega) H4) fun H5 g5 => ?_
  by_cases hk : sglOk s = true
  rotate_left
  · rw [sglR, if_neg hk]
    refine g_ext0 ?_
    refine g_ext1 ?_
    refine Stp.go ?_
    refine i_T rfl ?_
    refine Stp.go ?_
    exact ⟨rfl, g5⟩
  rw [sglR, if_pos hk]
  refine g_ext0 ?_
  refine g_ext1 ?_
  refine Stp.go ?_
  refine i_F rfl ?_
  have hsl := sgl_len s
  refine c_gb g5 (unsingle_ok hT hK hQ (sglT s) (by omega) (by rw [usg_back]; omega) (by rw [usg_back]; omega) H5) fun H6 g6 => ?_
  rw [usgR_back hk]
  refine g_ext0 ?_
  refine g_ext1 ?_
  refine g_cat (by simp only [List.length_cons, List.length_nil]; omega) ?_
  refine g_cat (by simp only [List.length_append, List.length_cons, List.length_nil]; omega) ?_
  refine c_eq (end_ok hT _ (by simp only [List.length_append, List.length_cons, List.length_nil]; omega) _) ?_
  rw [endR, end_single]
  refine g_ext0 ?_
  refine g_ext1 ?_
  refine Stp.go ?_
  refine d_t ?_
  refine i_cT rfl ?_
  refine Stp.go ?_
  refine d_t ?_
  refine i_T rfl ?_
  refine Stp.go ?_
  refine Stp.go ?_
  refine d_t ?_
  refine i_cT rfl ?_
  refine Stp.go ?_
  exact ⟨rfl, g6⟩

end Go.SV
