/- The arguments of laws of rows of graphs. Own text of the prover; nothing is assumed. -/
import Derived.Test.YtkbkhdgjdikjiaaGreatDoorDb
set_option maxRecDepth 100000
namespace Go.SV
open Go.Proofs Go.RowKit Go.ChangeShapes Go.WideShapes Go.ChangeAt

theorem reads_gss : ∃ G : Option (List (Option (List NdD))) → Prop, (∀ o, G o → MemR (gssOf o)) ∧ ReadsZ Tryz.prog 24 (fun o => [gssF o]) G := by
  obtain ⟨G, hk, hG⟩ := reads_gs
  refine ⟨_, fun o h => memR_of hk ?_, readsZ_slice Tryz.underlying24 (by kernel_rfl) (by decide) hG (fun _ => rfl)⟩
  have hb : Tryz.prog.bytesOf 45 = 24 := by kernel_rfl
  intro l hl
  have := h l hl
  rw [hb] at this
  exact this

end Go.SV
