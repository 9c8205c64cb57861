/- Arguments of bytes. Own text of the prover; nothing is assumed. -/
import Derived.Test.YtmbaaiifdjoibaaGreatDoorQl
set_option maxRecDepth 100000
namespace Go.SV
open Go.Proofs Go.RowKit Go.ChangeShapes Go.WideShapes Go.ChangeAt

theorem reads_u8 : ReadsZ Tryz.prog 5 (fun n : Int => [.int .u8 n]) (fun n => 0 ≤ n ∧ n < 256) := by
  have h : ReadsZ Tryz.prog 5 (fun n : Int => [.int .u8 n]) _ := Reads.z (reads_int Tryz.underlying5)
  intro Hd enc W fuel cs x hx hz
  obtain ⟨n, hn, hr⟩ := h enc W fuel cs x hx hz
  refine ⟨n, ?_, hr⟩
  simp only [Lit.wf, Bool.and_eq_true, decide_eq_true_eq] at hn
  have h1 : IntKind.u8.min = 0 := by decide
  have h2 : IntKind.u8.max = 255 := by decide
  omega


end Go.SV
