/- a shelf, at the plain seat -/
import Derived.Test.YtnjkfchgakpjgaaPShelf
namespace Go.Proofs.Ytnjkfchgakpjgaa.PShelfP
open Go.RowKit Go.Proofs.Ytnjkfchgakpjgaa.Mc Go.Proofs.Ytnjkfchgakpjgaa.N Go.Proofs.Ytnjkfchgakpjgaa.Plain Go.Proofs.Ytnjkfchgakpjgaa.PureKeys Go.Proofs.Ytnjkfchgakpjgaa.PFd Go.Proofs.Ytnjkfchgakpjgaa.PAssoc Go.Proofs.Ytnjkfchgakpjgaa.PShelf
set_option linter.unusedSimpArgs false
set_option linter.unusedVariables false
theorem get1_run (K : Nat) (es : Es) (k : ByteArray) : F4_1 K k es = some (gl es k) := by
  unfold F4_1
  exact get_of es k
theorem alive1 (K : Nat) (hK : 2000000 ≤ K) : F5 K = some true := by
  unfold F5 F11 F6
  rw [Option.bind_some, puts_run K _ _ (by omega), Option.bind_some, apply_run _ _ _ _ _ _ (by simp) (by simp; omega), Option.bind_some, show F4_1 K _ _ = _ from get1_run K _ _, two, Option.bind_some, two_len, Option.bind_some, top_run _ _ _ (by rw [two_len]; omega), two_top]
  simp
end Go.Proofs.Ytnjkfchgakpjgaa.PShelfP
