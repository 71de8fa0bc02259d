/- Plain law: LayWrites. -/
import Derived.Test.YtcadbihgfahjjaaPureLay
namespace Go.Proofs.Ytcadbihgfahjjaa.PureLayWrites
open Go.RowKit Go.Proofs.Ytcadbihgfahjjaa.Mc Go.Proofs.Ytcadbihgfahjjaa.N Go.Proofs.Ytcadbihgfahjjaa.MLay Go.Proofs.Ytcadbihgfahjjaa.PureLay
theorem law (a0 : Int) (w0 : (Lit.int .u32 a0).wf = true) (a1 : ByteArray) (w1 : a1.size ≤ 140737488351232) : ∃ k, F3 k a0 a1 = some true := by
  obtain ⟨v, rfl, hv⟩ := u32 w0
  refine ⟨100, ?_⟩
  unfold F3
  rw [alive, Option.bind_some, cond_true, num10 (by omega) v hv, Option.bind_some, num11 (by omega) v hv, Option.bind_some, text12 (by omega) a1 w1, Option.bind_some, text13 (by omega) a1 w1, Option.bind_some]
  simp [F3_1]
end Go.Proofs.Ytcadbihgfahjjaa.PureLayWrites
