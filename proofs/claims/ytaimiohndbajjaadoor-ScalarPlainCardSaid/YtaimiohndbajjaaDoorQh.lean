/- Laws on texts, in the abstract machine: the answers that the document fixes; where quoted texts end. Own text of the prover; nothing is assumed. -/
import Derived.Test.YtaimiohndbajjaaDoorQg
set_option maxRecDepth 100000
namespace Go.SV

variable {T : Nat → Option Entry}

theorem al1 : unqR [34, 97, 92, 110, 92, 120, 52, 49, 34] = .tup [.str [97, 10, 65], .int .i64 0] := by kernel_rfl
theorem al2 : sglR [105, 116, 39, 115] = .tup [.str [39, 105, 116, 39, 39, 115, 39], .int .i64 0] := by kernel_rfl
theorem al3 : usgR [39, 105, 116, 39, 39, 115, 39] = .tup [.str [105, 116, 39, 115], .int .i64 0] := by
  have h1 : usgT [39, 105, 116, 39, 39, 115, 39] = [105, 116, 39, 115] := by kernel_rfl
  have h2 : sglOk [105, 116, 39, 115] = true := by kernel_rfl
  have h3 : sglT [105, 116, 39, 115] = [39, 105, 116, 39, 39, 115, 39] := by kernel_rfl
  rw [usgR, h1, if_pos ⟨by decide, h2, h3⟩]
theorem al4 : endR [39, 97, 39, 39, 98, 39, 32, 99] = .tup [.int .i64 6, .int .i64 0] := by kernel_rfl
theorem al5 : unqR [34, 92, 113, 34] = .tup [.str [], .int .i64 10] := by kernel_rfl
theorem al6 : quoteS [97, 10] = [34, 97, 92, 110, 34] := by kernel_rfl
theorem al7 : plainT [97, 32, 98] = true := by kernel_rfl
theorem al8 : plainT [97, 58, 32, 98] = false := by kernel_rfl
theorem al9 : (Lib.replaceAll [105, 116, 39, 115] [39] [39, 39]).length < 2 ^ 40 := by
  have : Lib.replaceAll [105, 116, 39, 115] [39] [39, 39] = [105, 116, 39, 39, 115] := by kernel_rfl
  rw [this]; decide

theorem alive2_ok (hT : Has T) (hK : Knows T) (hB : KnowsB T) (hQ : KnowsT T) (hE : KnowsE T) (H : AH) (hp : 0 < H.toks.length) :
    ∃ H', Den.of T 8 [] H = some (.bool true, H') ∧ Grow H H' := by
  refine gr_of (w8_ok hT ?_)
  unfold w8
  refine c_gr (unquote_ok hT hK hB hQ hE _ (by decide) H hp) fun H1 g1 => ?_
  rw [al1]
  refine g_ext0 ?_
  refine g_ext1 ?_
  refine c_gb g1 (single_ok hT hK hQ _ (by decide) al9 H1) fun H2 g2 => ?_
  rw [al2]
  refine g_ext0 ?_
  refine g_ext1 ?_
  refine c_gb g2 (unsingle_ok hT hK hQ _ (by decide) (by rw [show usgT [39, 105, 116, 39, 39, 115, 39] = [105, 116, 39, 115] by kernel_rfl]; decide) (by rw [show usgT [39, 105, 116, 39, 39, 115, 39] = [105, 116, 39, 115] by kernel_rfl]; exact al9) H2) fun H3 g3 => ?_
  rw [al3]
  refine g_ext0 ?_
  refine g_ext1 ?_
  refine c_eq (end_ok hT _ (by decide) _) ?_
  rw [al4]
  refine g_ext0 ?_
  refine g_ext1 ?_
  refine c_gb g3 (unquote_ok hT hK hB hQ hE _ (by decide) H3 (g3.pos hp)) fun H4 g4 => ?_
  rw [al5]
  refine g_ext0 ?_
  refine g_ext1 ?_
  refine c_gb g4 (quote_ok hT hK hB _ (by decide) H4 (g4.pos hp)) fun H5 g5 => ?_
  rw [al6]
  refine Stp.go ?_
  refine d_t ?_
  refine i_T rfl ?_
  refine Stp.go ?_
  refine d_t ?_
  refine i_T rfl ?_
  refine Stp.go ?_
  refine d_t ?_
  refine i_T rfl ?_
  refine Stp.go ?_
  refine d_t ?_
  refine i_T rfl ?_
  refine Stp.go ?_
  refine d_t ?_
  refine i_T rfl ?_
  refine Stp.go ?_
  refine d_t ?_
  refine i_T rfl ?_
  refine Stp.go ?_
  refine d_t ?_
  refine i_T rfl ?_
  refine Stp.go ?_
  refine d_t ?_
  refine i_T rfl ?_
  refine Stp.go ?_
  refine d_t ?_
  refine i_T rfl ?_
  refine Stp.go ?_
  refine d_t ?_
  refine i_T rfl ?_
  refine c_gb g5 (plainT_ok hT hK _ (by decide) H5) fun H6 g6 => ?_
  rw [al7]
  refine d_t ?_
  refine i_T rfl ?_
  refine c_gb g6 (plainT_ok hT hK _ (by decide) H6) fun H7 g7 => ?_
  rw [al8]
  refine Stp.go ?_
  exact ⟨rfl, g7⟩

/-! ### Ends -/
end Go.SV
