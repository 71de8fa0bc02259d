/- Plain law: RollNone. -/
import Derived.Test.YtljbepjbecjpiaaN2
namespace Go.Proofs.Ytljbepjbecjpiaa.PureRollNone
open Go.RowKit Go.Proofs.Ytljbepjbecjpiaa.Mc Go.Proofs.Ytljbepjbecjpiaa.N
theorem law (a0 : Int) (_ : (Lit.int .i64 a0).wf = true) (a1 : Int) (_ : (Lit.int .u32 a1).wf = true) : ∃ k, F7 k a0 a1 = some true := ⟨100, by kernel_rfl⟩
end Go.Proofs.Ytljbepjbecjpiaa.PureRollNone
