/- Right, of texts as long as they may be. -/
import Derived.Test.YtfdglmgblmoakaaDoorPureKeysRight
namespace Go.Proofs.YtfdglmgblmoakaaDoor.PKeyRight
open Go.RowKit Go.Proofs.YtfdglmgblmoakaaDoor.Mc Go.Proofs.YtfdglmgblmoakaaDoor.N Go.Proofs.YtfdglmgblmoakaaDoor.Plain Go.Proofs.YtfdglmgblmoakaaDoor.PureRune Go.Proofs.YtfdglmgblmoakaaDoor.PureKeys
open Go.Proofs.YtfdglmgblmoakaaDoor.PureKeysRight (right_eq decodeGo_tail)
set_option linter.unusedSimpArgs false
set_option linter.unusedVariables false
end Go.Proofs.YtfdglmgblmoakaaDoor.PKeyRight
