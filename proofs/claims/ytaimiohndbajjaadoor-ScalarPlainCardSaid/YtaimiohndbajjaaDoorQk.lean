/- Texts between single quotes: plain laws; the law in the abstract machine. Own text of the prover; nothing is assumed. -/
import Derived.Test.YtaimiohndbajjaaDoorQg
import Derived.Test.YtaimiohndbajjaaDoorRd
set_option maxRecDepth 100000
namespace Go.SV

variable {T : Nat → Option Entry}

/-! ### Quotes doubled -/
/-! ### The law -/
end Go.SV
