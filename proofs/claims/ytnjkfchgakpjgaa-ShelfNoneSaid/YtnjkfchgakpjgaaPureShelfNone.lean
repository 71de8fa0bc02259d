/- ShelfNone's plain law. -/
import Derived.Test.YtnjkfchgakpjgaaPShelfP
namespace Go.Proofs.Ytnjkfchgakpjgaa.PureShelfNone
open Go.Proofs.Ytnjkfchgakpjgaa.PShelfP (alive1)
open Go.RowKit Go.Proofs.Ytnjkfchgakpjgaa.Mc Go.Proofs.Ytnjkfchgakpjgaa.N Go.Proofs.Ytnjkfchgakpjgaa.Plain Go.Proofs.Ytnjkfchgakpjgaa.PAssoc
theorem law (x1 : ByteArray) (x2 : Int) (g : gdT [.str, .int .u32] (x1, x2)) : ∃ k, F3 k x1 x2 = some true := by
  refine ⟨2000000, ?_⟩
  unfold F3
  rw [show F4 2000000 x1 = some (ByteArray.empty, 0, 0, false) from rfl, Option.bind_some, alive1 _ (Nat.le_refl _), Option.bind_some]
  have hd : F10 2000000 x2 x2 = some () := by
    unfold F10 F14_2
    rw [Option.bind_some, loop_go (r := ()) (fun _ => ()) 0 rfl (by omega) (fun i hi => absurd hi (by omega)) rfl, Option.bind_some]
  rw [show F6_1 2000000 = some 0 from rfl, show F7 2000000 = some () from rfl, show F8 2000000 x2 = some () from rfl, show F9_1 2000000 x2 = some 0 from rfl, hd]
  rfl
end Go.Proofs.Ytnjkfchgakpjgaa.PureShelfNone
