/- Plain law: KeysOrder. -/
import Derived.Test.YtlhcebhalhgmaaaDoorPureCmp
import Derived.Test.YtlhcebhalhgmaaaDoorPureKeysRight
namespace Go.Proofs.YtlhcebhalhgmaaaDoor.PureKeysOrder
open Go.RowKit Go.Proofs.YtlhcebhalhgmaaaDoor.Mc Go.Proofs.YtlhcebhalhgmaaaDoor.N Go.Proofs.YtlhcebhalhgmaaaDoor.Plain Go.Proofs.YtlhcebhalhgmaaaDoor.PureRune Go.Proofs.YtlhcebhalhgmaaaDoor.PureKeys Go.Proofs.YtlhcebhalhgmaaaDoor.PureCmp
set_option linter.unusedSimpArgs false
set_option linter.unusedVariables false
theorem cmp_bound : ∀ (A B : List Int), -1 ≤ cmp A B ∧ cmp A B ≤ 1
  | [], [] => by decide
  | [], _ :: _ => by simp [cmp]
  | _ :: _, [] => by simp [cmp]
  | x :: xs, y :: ys => by
    have := cmp_bound xs ys
    unfold cmp
    split
    · exact this
    · split <;> omega
theorem law (a0 : ByteArray) (h0 : a0.size ≤ 1048576) (a1 : ByteArray) (h1 : a1.size ≤ 1048576) : ∃ k, F7 k a0 a1 = some true := by
  obtain ⟨L, hL, hl⟩ := runes_ex a0 a0.size 0 (by omega)
  obtain ⟨M, hM, hm⟩ := runes_ex a1 a1.size 0 (by omega)
  refine ⟨2000000, ?_⟩
  have hb := cmp_bound (rs L) (rs M)
  unfold F7
  rw [PureKeysRight.alive, cmp_run _ (by omega) (by omega) hL hM (by omega) (by omega) (by omega) (by omega), refCmp_run _ (by omega) (by omega) hL hM (by omega) (by omega) (by omega) (by omega),
    common_run _ (by omega) (by omega) hL hM (by omega) (by omega) (by omega) (by omega), refCommon_run _ (by omega) (by omega) hL hM (by omega) (by omega) (by omega) (by omega),
    cmp_run _ (by omega) (by omega) hM hL (by omega) (by omega) (by omega) (by omega), common_run _ (by omega) (by omega) hM hL (by omega) (by omega) (by omega) (by omega)]
  simp only [Option.bind_some, cond_true, BEq.rfl]
  rw [w64 (by omega) (by omega), cmp_swap (rs L) (rs M), com_comm (rs M) (rs L), Int.zero_sub]
  simp
end Go.Proofs.YtlhcebhalhgmaaaDoor.PureKeysOrder
