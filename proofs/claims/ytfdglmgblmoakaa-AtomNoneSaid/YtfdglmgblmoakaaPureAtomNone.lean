/- AtomNone's plain law. -/
import Derived.Test.YtfdglmgblmoakaaPAtom
namespace Go.Proofs.Ytfdglmgblmoakaa.PureAtomNone
open Go.RowKit Go.Proofs.Ytfdglmgblmoakaa.Mc Go.Proofs.Ytfdglmgblmoakaa.N Go.Proofs.Ytfdglmgblmoakaa.Plain Go.Proofs.Ytfdglmgblmoakaa.PAtom
theorem law (x1 : List ByteArray) (g : gdT [.sl (.str .nil)] (x1)) : ∃ k, F4 k x1 = some true := by
  refine ⟨2000000, ?_⟩
  unfold F4
  rw [alive _ (Nat.le_refl _)]
  rfl
end Go.Proofs.Ytfdglmgblmoakaa.PureAtomNone
