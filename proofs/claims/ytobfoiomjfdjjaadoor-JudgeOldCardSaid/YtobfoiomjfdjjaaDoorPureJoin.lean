/- A text behind another one: whole runes stay as they are. -/
import Derived.Test.YtobfoiomjfdjjaaDoorPureHead
namespace Go.Proofs.YtobfoiomjfdjjaaDoor.PureJoin
open Go.RowKit Go.Proofs.YtobfoiomjfdjjaaDoor.Mc Go.Proofs.YtobfoiomjfdjjaaDoor.N Go.Proofs.YtobfoiomjfdjjaaDoor.Plain Go.Proofs.YtobfoiomjfdjjaaDoor.PureRune Go.Proofs.YtobfoiomjfdjjaaDoor.PureKeys Go.Proofs.YtobfoiomjfdjjaaDoor.PureHead
set_option linter.unusedSimpArgs false
set_option linter.unusedVariables false
end Go.Proofs.YtobfoiomjfdjjaaDoor.PureJoin
