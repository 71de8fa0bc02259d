/- Plain law: KeysRight. -/
import Derived.Test.YtnjkfchgakpjgaaDoorPureKeys
namespace Go.Proofs.YtnjkfchgakpjgaaDoor.PureKeysRight
open Go.RowKit Go.Proofs.YtnjkfchgakpjgaaDoor.Mc Go.Proofs.YtnjkfchgakpjgaaDoor.N Go.Proofs.YtnjkfchgakpjgaaDoor.Plain Go.Proofs.YtnjkfchgakpjgaaDoor.PureRune Go.Proofs.YtnjkfchgakpjgaaDoor.PureKeys
set_option linter.unusedSimpArgs false
set_option linter.unusedVariables false

theorem decodeGo_tail (s : ByteArray) (p : Nat) (h : p < s.size) : Lib.decodeGo (s.extract p s.size) = Utf8.decode s p := by
  unfold Lib.decodeGo
  rw [Lib.tail_size, if_neg (by omega), Lib.tail_decode, Nat.add_zero]

theorem right_eq (L : List (Nat × Nat)) : (okL 0 L && decide (0 < L.length)) = (L.all okR && (decide (1 ≤ L.length) && decide (L.length ≤ 12))) := by
  rw [okL_eq]
  cases L.all okR with
  | false => simp
  | true =>
    cases L with
    | nil => rfl
    | cons x L => simp
end Go.Proofs.YtnjkfchgakpjgaaDoor.PureKeysRight
