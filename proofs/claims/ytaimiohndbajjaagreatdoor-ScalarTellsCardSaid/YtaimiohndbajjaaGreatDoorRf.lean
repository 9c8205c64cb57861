/- Contracts: the document's words for quotes: what is read. Own text of the prover; nothing is assumed. -/
import Derived.Test.YtaimiohndbajjaaGreatDoorRe
set_option maxRecDepth 100000
namespace Go.SV

variable {T : Nat → Option Entry}

/-! ### Between double quotes -/
theorem AllR.app {A B : List Int} (ha : AllR A) (hb : AllR B) : AllR (A ++ B) := fun x hx => by
  rcases List.mem_append.1 hx with h | h
  · exact ha x h
  · exact hb x h
theorem AllR.one {r : Int} (h : vRune r = true) : AllR [r] := fun x hx => by simp at hx; rw [hx]; exact h
theorem Tok.rowI {H0 H : AH} {v : AV} {l : List Int} (h : Tok H0 H 1 v (l.map (AV.int .i64))) : RowOf 1 IsI v l := h.row (F2.map (AV.int .i64) (fun _ => rfl) l)

end Go.SV
