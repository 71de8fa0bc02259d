/- What is wrong with a batch: the reference's, at a list that nobody writes. -/
import Derived.Test.YthoimblkpcikdaaGreatDoorPBatch1
namespace Go.Proofs.YthoimblkpcikdaaGreatDoor.PBatch1x
open Go.RowKit Go.Proofs.YthoimblkpcikdaaGreatDoor.Mc Go.Proofs.YthoimblkpcikdaaGreatDoor.N Go.Proofs.YthoimblkpcikdaaGreatDoor.Plain Go.Proofs.YthoimblkpcikdaaGreatDoor.PureRune Go.Proofs.YthoimblkpcikdaaGreatDoor.PureKeys Go.Proofs.YthoimblkpcikdaaGreatDoor.PSort Go.Proofs.YthoimblkpcikdaaGreatDoor.PBatch1
set_option linter.unusedSimpArgs false
set_option linter.unusedVariables false
end Go.Proofs.YthoimblkpcikdaaGreatDoor.PBatch1x
