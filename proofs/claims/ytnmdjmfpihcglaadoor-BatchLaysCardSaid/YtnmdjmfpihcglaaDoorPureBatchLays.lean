/- BatchLays' plain law. -/
import Derived.Test.YtnmdjmfpihcglaaDoorPBatch2
import Derived.Test.YtnmdjmfpihcglaaDoorPureBatchRights
namespace Go.Proofs.YtnmdjmfpihcglaaDoor.PureBatchLays
open Go.RowKit Go.Proofs.YtnmdjmfpihcglaaDoor.Mc Go.Proofs.YtnmdjmfpihcglaaDoor.N Go.Proofs.YtnmdjmfpihcglaaDoor.Plain Go.Proofs.YtnmdjmfpihcglaaDoor.PBatch1 Go.Proofs.YtnmdjmfpihcglaaDoor.PBatch2
open Go.Proofs.YtnmdjmfpihcglaaDoor.PureBatchRights (alive)
set_option linter.unusedSimpArgs false
set_option linter.unusedVariables false
theorem law (x1 : List Wr) (g : gdT [.sl (.str (.bool (.str .nil)))] (x1)) : ∃ k, F4 k x1 = some true := by
  refine ⟨2000000, ?_⟩
  unfold F4
  have hw := PBook.writes_run 2000000 x1 12 (by omega) (by omega)
  have hs := sw_small x1 12
  generalize (x1.take 12).map PBook.sw = l at *
  rw [show F13 2000000 x1 12 = some l from hw, Option.bind_some, bytes_run _ _ hs (by omega), Option.bind_some, refbytes_run _ _ hs (by omega), Option.bind_some, alive, Option.bind_some, cond_true]
  simp
end Go.Proofs.YtnmdjmfpihcglaaDoor.PureBatchLays
