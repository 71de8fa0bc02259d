/- The reference's rune at a place is the language's own. -/
import Derived.Test.YtobfoiomjfdjjaaDoorPlain
import Derived.Laws.BitsLemmas
import Derived.Lib.DecodeN
namespace Go.Proofs.YtobfoiomjfdjjaaDoor.PureRune
open Go.RowKit Go.Proofs.YtobfoiomjfdjjaaDoor.Mc Go.Proofs.YtobfoiomjfdjjaaDoor.N Go.Proofs.YtobfoiomjfdjjaaDoor.Plain
set_option linter.unusedSimpArgs false
set_option linter.unusedVariables false
end Go.Proofs.YtobfoiomjfdjjaaDoor.PureRune
