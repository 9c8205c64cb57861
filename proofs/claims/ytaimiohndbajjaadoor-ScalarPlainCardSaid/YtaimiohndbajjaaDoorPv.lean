/- Plain laws of quoted texts: what is read is a text, and is written without breaks. Own text of the prover; nothing is assumed. -/
import Derived.Test.YtaimiohndbajjaaDoorPt
set_option maxRecDepth 100000
namespace Go.SV

variable {T : Nat → Option Entry}

end Go.SV
