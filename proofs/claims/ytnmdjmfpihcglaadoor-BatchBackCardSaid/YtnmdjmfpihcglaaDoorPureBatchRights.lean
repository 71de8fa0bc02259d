/- BatchRights' plain law. -/
import Derived.Test.YtnmdjmfpihcglaaDoorPBatch1
namespace Go.Proofs.YtnmdjmfpihcglaaDoor.PureBatchRights
open Go.RowKit Go.Proofs.YtnmdjmfpihcglaaDoor.Mc Go.Proofs.YtnmdjmfpihcglaaDoor.N Go.Proofs.YtnmdjmfpihcglaaDoor.Plain Go.Proofs.YtnmdjmfpihcglaaDoor.PBatch1
set_option linter.unusedSimpArgs false
set_option linter.unusedVariables false
theorem alive : F10 2000000 = some true := by kernel_rfl
theorem sum_mem : ∀ (ns : List Nat) (n : Nat), n ∈ ns → n ≤ ns.sum
  | [], _, h => by cases h
  | m :: ns, n, h => by
    rw [List.sum_cons]
    rcases List.mem_cons.1 h with rfl | h
    · omega
    · have := sum_mem ns n h; omega
theorem law (x1 : List Wr) (g : gdT [.sl (.str (.bool (.str .nil)))] (x1)) (b : blkT [.sl (.str (.bool (.str .nil)))] (x1) ≤ 1048576) : ∃ k, F3 k x1 = some true := by
  refine ⟨2000000, ?_⟩
  have b' : (x1.map fun z : Wr => z.1.size + (z.2.2.size + 0) + 1).sum ≤ 1048576 := b
  have hs : Small1 x1 := by
    intro w hw
    have := sum_mem _ _ (List.mem_map.2 ⟨w, hw, rfl⟩ : _ ∈ x1.map fun z : Wr => z.1.size + (z.2.2.size + 0) + 1)
    omega
  unfold F3
  rw [alive, Option.bind_some, cond_true, right_run _ _ (by omega), Option.bind_some, ref_run _ _ hs (by omega), Option.bind_some]
  simp
end Go.Proofs.YtnmdjmfpihcglaaDoor.PureBatchRights
