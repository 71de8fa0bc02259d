/- Plain law: LayLong. -/
import Derived.Test.YtcadbihgfahjjaaPureBack
namespace Go.Proofs.Ytcadbihgfahjjaa.PureLayLong
open Go.RowKit Go.Proofs.Ytcadbihgfahjjaa.Mc Go.Proofs.Ytcadbihgfahjjaa.N Go.Proofs.Ytcadbihgfahjjaa.MLay Go.Proofs.Ytcadbihgfahjjaa.PureLay Go.Proofs.Ytcadbihgfahjjaa.PureGet Go.Proofs.Ytcadbihgfahjjaa.PureInv Go.Proofs.Ytcadbihgfahjjaa.PureText Go.Proofs.Ytcadbihgfahjjaa.PureBack

theorem law (a0 : ByteArray) (w0 : a0.size ≤ 1048576) (a1 : Int) (_ : (Lit.int .i64 a1).wf = true) : ∃ k, F8 k a0 a1 = some true := by
  refine ⟨100, ?_⟩
  unfold F8
  have hl := nI_length (ln a0) (ln_lt a0)
  rw [text12 (by omega) a0 (by omega), Option.bind_some, text16 (by omega) _ _ _ (by rw [ByteArray.size_append, strOfNums_len]; omega), Option.bind_some, alive, Option.bind_some, mx_max]
  have := text_read ByteArray.empty ByteArray.empty a0 (by omega) a1
  simp only [ByteArray.empty_append, ByteArray.append_empty, ByteArray.size_empty, Int.natCast_zero] at this
  rw [this, cond_d]
  by_cases h : max a1 0 < a0.size
  · rw [if_pos h, if_pos h]; rfl
  · rw [if_neg h, if_neg h]; rfl
end Go.Proofs.Ytcadbihgfahjjaa.PureLayLong
