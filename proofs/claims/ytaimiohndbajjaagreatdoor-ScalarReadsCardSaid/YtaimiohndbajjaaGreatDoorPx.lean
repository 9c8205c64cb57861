/- Plain laws: what the document says of texts without quotes, in characters, is what is said in bytes. Own text of the prover; nothing is assumed. -/
import Derived.Test.YtaimiohndbajjaaGreatDoorPw
set_option maxRecDepth 100000
namespace Go.SV

/-! ### Two characters beside each other -/
/-! ### Ends -/
/-! ### The whole -/
end Go.SV
