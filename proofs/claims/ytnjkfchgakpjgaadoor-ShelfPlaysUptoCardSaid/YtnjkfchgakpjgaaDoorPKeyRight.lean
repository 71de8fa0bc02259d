/- Right, of texts as long as they may be. -/
import Derived.Test.YtnjkfchgakpjgaaDoorPureKeysRight
namespace Go.Proofs.YtnjkfchgakpjgaaDoor.PKeyRight
open Go.RowKit Go.Proofs.YtnjkfchgakpjgaaDoor.Mc Go.Proofs.YtnjkfchgakpjgaaDoor.N Go.Proofs.YtnjkfchgakpjgaaDoor.Plain Go.Proofs.YtnjkfchgakpjgaaDoor.PureRune Go.Proofs.YtnjkfchgakpjgaaDoor.PureKeys
open Go.Proofs.YtnjkfchgakpjgaaDoor.PureKeysRight (right_eq decodeGo_tail)
set_option linter.unusedSimpArgs false
set_option linter.unusedVariables false
end Go.Proofs.YtnjkfchgakpjgaaDoor.PKeyRight
