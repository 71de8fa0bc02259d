/-
  No cell of these rows narrows 'for every input' (looked for: loops, veiled, ifaces, maps, wideKeys, modest, calm, conditions, laid).
  DERIVED. THE GIVEN ROWS OF THIS SEAT. 6 by the template 'for every input the law returns true; each argument reads behind the call as it read before'; 0 by the template 'total and deterministic' (their statements: YtcadbihgfahjjaaTotals.lean).
  GIVEN WITH THE SEED: the statements are not yours to turn. If you find one false, say at which input.
  Laid BY PROGRAM, IN A SANDBOX (cutbox-rows.mjs): the forced cells as the released guide's own fill.sh prints them over the translation fd215edfaa860f4d… (all of the seat's roots in one cut). By AI agents, Wed Nov 11 2026. No macro, syntax, notation, axiom, sorry.
-/
import Derived.Test.YtcadbihgfahjjaaChecked
import GoSem.Claim
import GoSem.ClaimJoined
import GoSem.ClaimMapViews
import Derived.JoinedTies
import Derived.KernelRfl
namespace Go.Proofs.Ytcadbihgfahjjaa
/- THE CELL 'sum', in the pinned program and in every row, IS THE sha256 OF THE DUMP (.gsa) THAT YtcadbihgfahjjaaProg.lean LOADS. Nothing in Lean hashes anything: it is a label: what it is worth is what the hold of that sum in a sandbox is worth. -/
noncomputable def Try.pinned : Pinned := { name := "ytcadbihgfahjjaa", sum := "fd215edfaa860f4dbc1e5908070311ff91e2623c2d3b103c61002dacd6285ae8", checked := Try.checked }
namespace Rows
def none {H : Type} : Left H := { results := [], args := [] }

/-- 'cachepotlaw4.LayWrites': WHATEVER THE INPUT: true; the input reads as it did. -/
def layWritesSpec : ChangeSpec := { name := "layWrites", fn := fun _ => fun
  | [d1, d2] => { results := [.lit (.bool true)], args := [d1, d2] }
  | _ => none }
def layWritesRow : OpenClaim := { program := "ytcadbihgfahjjaa", sum := "fd215edfaa860f4dbc1e5908070311ff91e2623c2d3b103c61002dacd6285ae8", func := "cachepot/cachepotlaw4.LayWrites", spec := "layWrites", apart := false }
def LayWritesSaid : Prop := layWritesRow.holds Try.pinned (OpenSpec.ofChange layWritesSpec)

/-- ITS FALSE NEIGHBOUR: 'it returns false'. Refute it at one input. -/
def layWritesWrong : ChangeSpec := { name := "layWrites", fn := fun _ => fun
  | [d1, d2] => { results := [.lit (.bool false)], args := [d1, d2] }
  | _ => none }
def LayWritesWrongFalsely : Prop := layWritesRow.holds Try.pinned (OpenSpec.ofChange layWritesWrong)

/-- 'cachepotlaw4.LayNums': WHATEVER THE INPUT: true; the input reads as it did. -/
def layNumsSpec : ChangeSpec := { name := "layNums", fn := fun _ => fun
  | [d1, d2] => { results := [.lit (.bool true)], args := [d1, d2] }
  | _ => none }
def layNumsRow : OpenClaim := { program := "ytcadbihgfahjjaa", sum := "fd215edfaa860f4dbc1e5908070311ff91e2623c2d3b103c61002dacd6285ae8", func := "cachepot/cachepotlaw4.LayNums", spec := "layNums", apart := false }
def LayNumsSaid : Prop := layNumsRow.holds Try.pinned (OpenSpec.ofChange layNumsSpec)

/-- ITS FALSE NEIGHBOUR: 'it returns false'. Refute it at one input. -/
def layNumsWrong : ChangeSpec := { name := "layNums", fn := fun _ => fun
  | [d1, d2] => { results := [.lit (.bool false)], args := [d1, d2] }
  | _ => none }
def LayNumsWrongFalsely : Prop := layNumsRow.holds Try.pinned (OpenSpec.ofChange layNumsWrong)

/-- 'cachepotlaw4.LayTexts': WHATEVER THE INPUT: true; the input reads as it did. -/
def layTextsSpec : ChangeSpec := { name := "layTexts", fn := fun _ => fun
  | [d1, d2, d3] => { results := [.lit (.bool true)], args := [d1, d2, d3] }
  | _ => none }
def layTextsRow : OpenClaim := { program := "ytcadbihgfahjjaa", sum := "fd215edfaa860f4dbc1e5908070311ff91e2623c2d3b103c61002dacd6285ae8", func := "cachepot/cachepotlaw4.LayTexts", spec := "layTexts", apart := false }
def LayTextsSaid : Prop := layTextsRow.holds Try.pinned (OpenSpec.ofChange layTextsSpec)

/-- ITS FALSE NEIGHBOUR: 'it returns false'. Refute it at one input. -/
def layTextsWrong : ChangeSpec := { name := "layTexts", fn := fun _ => fun
  | [d1, d2, d3] => { results := [.lit (.bool false)], args := [d1, d2, d3] }
  | _ => none }
def LayTextsWrongFalsely : Prop := layTextsRow.holds Try.pinned (OpenSpec.ofChange layTextsWrong)

/-- 'cachepotlaw4.LayBack': WHATEVER THE INPUT: true; the input reads as it did. -/
def layBackSpec : ChangeSpec := { name := "layBack", fn := fun _ => fun
  | [d1, d2, d3, d4, d5] => { results := [.lit (.bool true)], args := [d1, d2, d3, d4, d5] }
  | _ => none }
def layBackRow : OpenClaim := { program := "ytcadbihgfahjjaa", sum := "fd215edfaa860f4dbc1e5908070311ff91e2623c2d3b103c61002dacd6285ae8", func := "cachepot/cachepotlaw4.LayBack", spec := "layBack", apart := false }
def LayBackSaid : Prop := layBackRow.holds Try.pinned (OpenSpec.ofChange layBackSpec)

/-- ITS FALSE NEIGHBOUR: 'it returns false'. Refute it at one input. -/
def layBackWrong : ChangeSpec := { name := "layBack", fn := fun _ => fun
  | [d1, d2, d3, d4, d5] => { results := [.lit (.bool false)], args := [d1, d2, d3, d4, d5] }
  | _ => none }
def LayBackWrongFalsely : Prop := layBackRow.holds Try.pinned (OpenSpec.ofChange layBackWrong)

/-- 'cachepotlaw4.LayOnce': WHATEVER THE INPUT: true; the input reads as it did. -/
def layOnceSpec : ChangeSpec := { name := "layOnce", fn := fun _ => fun
  | [d1, d2] => { results := [.lit (.bool true)], args := [d1, d2] }
  | _ => none }
def layOnceRow : OpenClaim := { program := "ytcadbihgfahjjaa", sum := "fd215edfaa860f4dbc1e5908070311ff91e2623c2d3b103c61002dacd6285ae8", func := "cachepot/cachepotlaw4.LayOnce", spec := "layOnce", apart := false }
def LayOnceSaid : Prop := layOnceRow.holds Try.pinned (OpenSpec.ofChange layOnceSpec)

/-- ITS FALSE NEIGHBOUR: 'it returns false'. Refute it at one input. -/
def layOnceWrong : ChangeSpec := { name := "layOnce", fn := fun _ => fun
  | [d1, d2] => { results := [.lit (.bool false)], args := [d1, d2] }
  | _ => none }
def LayOnceWrongFalsely : Prop := layOnceRow.holds Try.pinned (OpenSpec.ofChange layOnceWrong)

/-- 'cachepotlaw4.LayLong': WHATEVER THE INPUT: true; the input reads as it did. -/
def layLongSpec : ChangeSpec := { name := "layLong", fn := fun _ => fun
  | [d1, d2] => { results := [.lit (.bool true)], args := [d1, d2] }
  | _ => none }
def layLongRow : OpenClaim := { program := "ytcadbihgfahjjaa", sum := "fd215edfaa860f4dbc1e5908070311ff91e2623c2d3b103c61002dacd6285ae8", func := "cachepot/cachepotlaw4.LayLong", spec := "layLong", apart := false }
def LayLongSaid : Prop := layLongRow.holds Try.pinned (OpenSpec.ofChange layLongSpec)

/-- ITS FALSE NEIGHBOUR: 'it returns false'. Refute it at one input. -/
def layLongWrong : ChangeSpec := { name := "layLong", fn := fun _ => fun
  | [d1, d2] => { results := [.lit (.bool false)], args := [d1, d2] }
  | _ => none }
def LayLongWrongFalsely : Prop := layLongRow.holds Try.pinned (OpenSpec.ofChange layLongWrong)

/- THE SECOND FORM. 'bulk': how many values and letters a reading holds, each counted each time it is reached (what is shared counts as often as it is met; a slice's spare places count too). A statement '..UptoSaid' is the law's where the arguments, and the package variables that the reading takes, are together of bulk at most 1048576: NARROWER than '..Said'. Prove '..Said' where nothing that the law and all that it calls make is longer than what came in: it says more and counts as full. Else prove '..UptoSaid'. A law counts once. -/
mutual
def uptoBulk {H : Type} : DataW H → Nat
  | .lit (.string bytes) => bytes.length + 1
  | .lit _ => 1
  | .nil => 1
  | .ptr d => uptoBulk d + 1
  | .slice elems spare => uptoBulkAll elems + uptoBulkAll spare + 1
  | .agg parts => uptoBulkAll parts + 1
  | .iface _ d => uptoBulk d + 1
  | .map entries => uptoBulkEntries entries + 1
  | .held _ => 1
def uptoBulkAll {H : Type} : List (DataW H) → Nat
  | [] => 0
  | d :: r => uptoBulk d + uptoBulkAll r
def uptoBulkEntries {H : Type} : List (Lit × DataW H) → Nat
  | [] => 0
  | x :: r => uptoBulkEntry x + uptoBulkEntries r
def uptoBulkEntry {H : Type} : Lit × DataW H → Nat
  | (.string bytes, d) => bytes.length + uptoBulk d + 1
  | (_, d) => uptoBulk d + 1
 end
def uptoSmall : (H : Type) → List (DataW H) → Bool := fun _ ds => decide (uptoBulkAll ds ≤ 1048576)
def OpenSpec.upto (s : _root_.Go.ChangeSpec) : _root_.Go.OpenSpec := { _root_.Go.OpenSpec.ofChange s with cond := some uptoSmall }

/-- 'cachepotlaw4.LayWrites', WHERE WHAT IT READS IS OF BULK AT MOST 1048576: true; the input reads as it did. -/
def layWritesUptoRow : OpenClaim := { program := "ytcadbihgfahjjaa", sum := "fd215edfaa860f4dbc1e5908070311ff91e2623c2d3b103c61002dacd6285ae8", func := "cachepot/cachepotlaw4.LayWrites", spec := "layWrites", apart := false, narrowed := true }
def LayWritesUptoSaid : Prop := layWritesUptoRow.holds Try.pinned (OpenSpec.upto layWritesSpec)

/-- 'cachepotlaw4.LayNums', WHERE WHAT IT READS IS OF BULK AT MOST 1048576: true; the input reads as it did. -/
def layNumsUptoRow : OpenClaim := { program := "ytcadbihgfahjjaa", sum := "fd215edfaa860f4dbc1e5908070311ff91e2623c2d3b103c61002dacd6285ae8", func := "cachepot/cachepotlaw4.LayNums", spec := "layNums", apart := false, narrowed := true }
def LayNumsUptoSaid : Prop := layNumsUptoRow.holds Try.pinned (OpenSpec.upto layNumsSpec)

/-- 'cachepotlaw4.LayTexts', WHERE WHAT IT READS IS OF BULK AT MOST 1048576: true; the input reads as it did. -/
def layTextsUptoRow : OpenClaim := { program := "ytcadbihgfahjjaa", sum := "fd215edfaa860f4dbc1e5908070311ff91e2623c2d3b103c61002dacd6285ae8", func := "cachepot/cachepotlaw4.LayTexts", spec := "layTexts", apart := false, narrowed := true }
def LayTextsUptoSaid : Prop := layTextsUptoRow.holds Try.pinned (OpenSpec.upto layTextsSpec)

/-- 'cachepotlaw4.LayBack', WHERE WHAT IT READS IS OF BULK AT MOST 1048576: true; the input reads as it did. -/
def layBackUptoRow : OpenClaim := { program := "ytcadbihgfahjjaa", sum := "fd215edfaa860f4dbc1e5908070311ff91e2623c2d3b103c61002dacd6285ae8", func := "cachepot/cachepotlaw4.LayBack", spec := "layBack", apart := false, narrowed := true }
def LayBackUptoSaid : Prop := layBackUptoRow.holds Try.pinned (OpenSpec.upto layBackSpec)

/-- 'cachepotlaw4.LayOnce', WHERE WHAT IT READS IS OF BULK AT MOST 1048576: true; the input reads as it did. -/
def layOnceUptoRow : OpenClaim := { program := "ytcadbihgfahjjaa", sum := "fd215edfaa860f4dbc1e5908070311ff91e2623c2d3b103c61002dacd6285ae8", func := "cachepot/cachepotlaw4.LayOnce", spec := "layOnce", apart := false, narrowed := true }
def LayOnceUptoSaid : Prop := layOnceUptoRow.holds Try.pinned (OpenSpec.upto layOnceSpec)

/-- 'cachepotlaw4.LayLong', WHERE WHAT IT READS IS OF BULK AT MOST 1048576: true; the input reads as it did. -/
def layLongUptoRow : OpenClaim := { program := "ytcadbihgfahjjaa", sum := "fd215edfaa860f4dbc1e5908070311ff91e2623c2d3b103c61002dacd6285ae8", func := "cachepot/cachepotlaw4.LayLong", spec := "layLong", apart := false, narrowed := true }
def LayLongUptoSaid : Prop := layLongUptoRow.holds Try.pinned (OpenSpec.upto layLongSpec)

end Rows
end Go.Proofs.Ytcadbihgfahjjaa
