/- ViewNone's plain law. -/
import Derived.Test.YtnpgfcedmdnemaaDoorPView
namespace Go.Proofs.YtnpgfcedmdnemaaDoor.PureViewNone
open Go.RowKit Go.Proofs.YtnpgfcedmdnemaaDoor.Mc Go.Proofs.YtnpgfcedmdnemaaDoor.N Go.Proofs.YtnpgfcedmdnemaaDoor.Plain Go.Proofs.YtnpgfcedmdnemaaDoor.PView
theorem law (x1 : ByteArray) (x2 : List Aw) (g : gdT [.str, .sl (.str (.bool (.str (.int .u32 .nil))))] (x1, x2)) : ∃ k, F8 k x1 x2 = some true := by
  refine ⟨2000000, ?_⟩
  unfold F8
  rw [alive _ (Nat.le_refl _)]
  rfl
end Go.Proofs.YtnpgfcedmdnemaaDoor.PureViewNone
