/- Contracts: the document's characters of bytes. Own text of the prover; nothing is assumed. -/
import Derived.Test.YtaimiohndbajjaaDoorQa
import Derived.Test.YtaimiohndbajjaaDoorLe
import Derived.Lib.QuoteLoop
set_option maxRecDepth 100000
namespace Go.SV

variable {T : Nat → Option Entry}

/-! ### The code of bytes -/
/-! ### One character -/
end Go.SV
