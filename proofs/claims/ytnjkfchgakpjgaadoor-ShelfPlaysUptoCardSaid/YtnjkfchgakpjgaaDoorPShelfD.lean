/- a shelf, at the door seat -/
import Derived.Test.YtnjkfchgakpjgaaDoorPShelf
namespace Go.Proofs.YtnjkfchgakpjgaaDoor.PShelfD
open Go.RowKit Go.Proofs.YtnjkfchgakpjgaaDoor.Mc Go.Proofs.YtnjkfchgakpjgaaDoor.N Go.Proofs.YtnjkfchgakpjgaaDoor.Plain Go.Proofs.YtnjkfchgakpjgaaDoor.PureKeys Go.Proofs.YtnjkfchgakpjgaaDoor.PFd Go.Proofs.YtnjkfchgakpjgaaDoor.PAssoc Go.Proofs.YtnjkfchgakpjgaaDoor.PShelf
set_option linter.unusedSimpArgs false
set_option linter.unusedVariables false
theorem get_run (K : Nat) (es : Es) (k : ByteArray) : F12 K k es = some (gl es k) := by
  unfold F12
  exact get_of es k
theorem alive (K : Nat) (hK : 2000000 ≤ K) : F8 K = some true := by
  unfold F8 F17 F15
  rw [Option.bind_some, puts_run K _ _ (by omega), Option.bind_some, apply_run _ _ _ _ _ _ (by simp) (by simp; omega), Option.bind_some, get_run, two, Option.bind_some, two_len, Option.bind_some, top_run _ _ _ (by rw [two_len]; omega), two_top]
  simp
end Go.Proofs.YtnjkfchgakpjgaaDoor.PShelfD
