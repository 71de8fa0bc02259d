/- A text behind another one: whole runes stay as they are. -/
import Derived.Test.YthoimblkpcikdaaGreatDoorPureHead
namespace Go.Proofs.YthoimblkpcikdaaGreatDoor.PureJoin
open Go.RowKit Go.Proofs.YthoimblkpcikdaaGreatDoor.Mc Go.Proofs.YthoimblkpcikdaaGreatDoor.N Go.Proofs.YthoimblkpcikdaaGreatDoor.Plain Go.Proofs.YthoimblkpcikdaaGreatDoor.PureRune Go.Proofs.YthoimblkpcikdaaGreatDoor.PureKeys Go.Proofs.YthoimblkpcikdaaGreatDoor.PureHead
set_option linter.unusedSimpArgs false
set_option linter.unusedVariables false
end Go.Proofs.YthoimblkpcikdaaGreatDoor.PureJoin
