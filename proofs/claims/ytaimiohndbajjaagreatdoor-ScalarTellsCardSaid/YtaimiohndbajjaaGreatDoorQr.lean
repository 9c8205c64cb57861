/- The laws of how texts are written and read, beside the document's, in the abstract machine. Own text of the prover; nothing is assumed. -/
import Derived.Test.YtaimiohndbajjaaGreatDoorRg
import Derived.Test.YtaimiohndbajjaaGreatDoorQh
set_option maxRecDepth 100000
namespace Go.SV

variable {T : Nat → Option Entry}

theorem lawTells (hT : Has T) (hK : Knows T) (hB : KnowsB T) (hQ : KnowsT T) (hE : KnowsE T) (s : List UInt8) (hs : s.length < 2 ^ 63) (H : AH) (hp : 0 < H.toks.length) :
    ∃ H', Den.of T 3 [.str s] H = some (.bool true, H') ∧ Grow H H' := by
  refine gr_of (w3_ok hT ?_)
  unfold w3
  refine c_gr (alive2_ok hT hK hB hQ hE H hp) fun H1 g1 => ?_
  refine Stp.go ?_
  refine i_F rfl ?_
  refine Stp.go ?_
  refine Stp.go ?_
  refine i_c (fun h => ⟨rfl, g1⟩) (fun h => ?_)
  have hr := repl_len s
  have hc := count_le s
  refine c_gb g1 (single_ok hT hK hQ s (by omega) (by omega) H1) fun H2 g2 => ?_
  obtain ⟨t, e, hst⟩ : ∃ t e, sglR s = .tup [.str t, .int .i64 e] := by
    unfold sglR
    split
    · exact ⟨_, _, rfl⟩
    · exact ⟨_, _, rfl⟩
  rw [hst]
  refine g_ext0 ?_
  refine g_ext1 ?_
  refine c_gb g2 (rsingle_ok hT s (by omega) H2 (g2.pos hp)) fun H3 g3 => ?_
  rw [hst]
  refine g_ext0 ?_
  refine g_ext1 ?_
  refine c_gb g3 (quote_ok hT hK hB s (by omega) H3 (g3.pos hp)) fun H4 g4 => ?_
  refine c_gb g4 (rquote_ok hT s (by omega) H4 (g4.pos hp)) fun H5 g5 => ?_
  refine g_seq ?_
  refine d_t ?_
  refine i_strT rfl ?_
  refine g_seq ?_
  refine d_t ?_
  refine i_strT rfl ?_
  refine Stp.go ?_
  refine d_t ?_
  refine i_intT rfl ?_
  refine c_gb g5 (plainT_ok hT hK s (by omega) H5) fun H6 g6 => ?_
  refine c_gb g6 (rplain2_ok hT s (by omega) H6 (g6.pos hp)) fun H7 g7 => ?_
  rw [plainD_same]
  refine g_eqb ?_
  refine ⟨?_, g7⟩
  cases plainT s <;> rfl

end Go.SV
