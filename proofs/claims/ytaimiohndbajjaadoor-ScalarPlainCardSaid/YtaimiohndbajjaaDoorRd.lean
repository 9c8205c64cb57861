/- Contracts: the document's characters of a text, the whole. Own text of the prover; nothing is assumed. -/
import Derived.Test.YtaimiohndbajjaaDoorRc
set_option maxRecDepth 100000
namespace Go.SV

variable {T : Nat → Option Entry}

end Go.SV
