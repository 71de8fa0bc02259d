/- BatchReads' plain law. -/
import Derived.Test.YtnmdjmfpihcglaaDoorPBatch3
import Derived.Test.YtnmdjmfpihcglaaDoorPureBatchRights
namespace Go.Proofs.YtnmdjmfpihcglaaDoor.PureBatchReads
open Go.RowKit Go.Proofs.YtnmdjmfpihcglaaDoor.Mc Go.Proofs.YtnmdjmfpihcglaaDoor.N Go.Proofs.YtnmdjmfpihcglaaDoor.Plain Go.Proofs.YtnmdjmfpihcglaaDoor.PBatch1 Go.Proofs.YtnmdjmfpihcglaaDoor.PBatch2 Go.Proofs.YtnmdjmfpihcglaaDoor.PBatch3
open Go.Proofs.YtnmdjmfpihcglaaDoor.PureBatchRights (alive)
set_option linter.unusedSimpArgs false
set_option linter.unusedVariables false
theorem law (x1 : ByteArray) (g : gdT [.str] (x1)) : ∃ k, F5 k x1 = some true := by
  refine ⟨2000000, ?_⟩
  have hg : x1.size ≤ 9223372036854775807 := g
  unfold F5
  have hsm := bread_small x1
  have hby := fun h => bread_bytes (b := x1) h
  rw [read_run _ (by omega) x1 hg, Option.bind_some, refread_run _ (by omega) x1 hg, Option.bind_some, alive, Option.bind_some, Bool.not_true, cond_false]
  generalize bread x1 = r at *
  rw [show (r.2 != r.2) = false by simp, cond_false, PBook.sameW_run _ _ (by omega) (by omega), Option.bind_some, Bool.not_true, Option.bind_some, cond_false, bytes_run _ _ hsm.1 (by omega), Option.bind_some]
  by_cases h : r.2 = 0
  · obtain ⟨h1, h2⟩ := hby h
    rw [h, show ((0 : Int) != 0) = false from rfl, cond_false]
    unfold bout
    rw [if_pos h1]
    simp only []
    rw [h2, show ((0 : Int) == 0) = true from rfl, cond_true, BEq.rfl, cond_true, right_run _ _ (by omega), Option.bind_some, h1]
    rfl
  · rw [bne_iff_ne.2 h, cond_true]
end Go.Proofs.YtnmdjmfpihcglaaDoor.PureBatchReads
