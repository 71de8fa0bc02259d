/-
  NARROWER THAN 'FOR EVERY INPUT', by the rows' own cells (each row's printed sentence says how): GroupCuts: laid · GroupJoins: laid · GroupBent: laid · GroupBack: laid · GroupTurned: laid · GroupParts: laid · GroupLacks: laid.
  DERIVED. THE GIVEN ROWS OF THIS SEAT. 7 by the template 'for every input the law returns true; each argument reads behind the call as it read before'; 0 by the template 'total and deterministic' (their statements: YtlnadpijicfceaaDoorTotals.lean).
  GIVEN WITH THE SEED: the statements are not yours to turn. If you find one false, say at which input.
  Laid BY PROGRAM, IN A SANDBOX (cutbox-rows.mjs): the forced cells as the released guide's own fill.sh prints them over the translation 616fb7a381e9c0c5… (all of the seat's roots in one cut). By AI agents, Wed Nov 11 2026. No macro, syntax, notation, axiom, sorry.
-/
import Derived.Test.YtlnadpijicfceaaDoorChecked
import GoSem.PinnedTables
import GoSem.Claim
import GoSem.ClaimJoined
import GoSem.ClaimMapViews
import Derived.JoinedTies
import Derived.KernelRfl
namespace Go.Proofs.YtlnadpijicfceaaDoor
/- THE CELL 'sum', in the pinned program and in every row, IS THE sha256 OF THE DUMP (.gsa) THAT YtlnadpijicfceaaDoorProg.lean LOADS. Nothing in Lean hashes anything: it is a label: what it is worth is what the hold of that sum in a sandbox is worth. -/
noncomputable def Tryd.pinned : Pinned := { name := "ytlnadpijicfceaadoor", sum := "616fb7a381e9c0c50c346b95c394326764dfc6e24d0cb248596feebea04eff36", checked := Tryd.checked }
namespace Rows
def none {H : Type} : Left H := { results := [], args := [] }

/- WHAT THE LISTED PACKAGE-LEVEL VARIABLES READ AS WHEN THE CALL BEGINS. Each datum BY PROGRAM (the guide's laid-datum.mjs) off the statement by which the dump's own 'gosem.cut.vars' lays the variable. In a bare row this is a premise. The card (YtlnadpijicfceaaDoorCards.lean) ties it to the program's text. -/
def laid_unicode_utf8_acceptRanges {H : Type} : DataW H := .agg [.agg [.lit (.int .u8 128), .lit (.int .u8 191)], .agg [.lit (.int .u8 160), .lit (.int .u8 191)], .agg [.lit (.int .u8 128), .lit (.int .u8 159)], .agg [.lit (.int .u8 144), .lit (.int .u8 191)], .agg [.lit (.int .u8 128), .lit (.int .u8 143)], .agg [.lit (.int .u8 0), .lit (.int .u8 0)], .agg [.lit (.int .u8 0), .lit (.int .u8 0)], .agg [.lit (.int .u8 0), .lit (.int .u8 0)], .agg [.lit (.int .u8 0), .lit (.int .u8 0)], .agg [.lit (.int .u8 0), .lit (.int .u8 0)], .agg [.lit (.int .u8 0), .lit (.int .u8 0)], .agg [.lit (.int .u8 0), .lit (.int .u8 0)], .agg [.lit (.int .u8 0), .lit (.int .u8 0)], .agg [.lit (.int .u8 0), .lit (.int .u8 0)], .agg [.lit (.int .u8 0), .lit (.int .u8 0)], .agg [.lit (.int .u8 0), .lit (.int .u8 0)]]
/-- One of Go's own tables, pinned by name: the form's constant. -/
def laid_unicode_utf8_first : DataW Unit := Go.Pinned.utf8First

/-- 'cachepotlaw10.GroupCuts': WHATEVER THE INPUT: true; the input reads as it did. -/
def groupCutsSpec : ChangeSpec := { name := "groupCuts", fn := fun _ => fun
  | [d1, d2, d3, d4] => { results := [.lit (.bool true)], args := [d1, d2, d3, d4] }
  | _ => none }
def groupCutsRow : OpenClaim := { program := "ytlnadpijicfceaadoor", sum := "616fb7a381e9c0c50c346b95c394326764dfc6e24d0cb248596feebea04eff36", func := "cachepot/cachepotlaw10.GroupCuts", spec := "groupCuts", inPlace := ["internal/abi.NoEscape"], named := ["unicode/utf8.first", "unicode/utf8.acceptRanges"], apart := false, laid := [("unicode/utf8.acceptRanges", laid_unicode_utf8_acceptRanges), ("unicode/utf8.first", laid_unicode_utf8_first)] }
def GroupCutsSaid : Prop := groupCutsRow.holds Tryd.pinned (OpenSpec.ofChange groupCutsSpec)

/-- ITS FALSE NEIGHBOUR: 'it returns false'. Refute it at one input. -/
def groupCutsWrong : ChangeSpec := { name := "groupCuts", fn := fun _ => fun
  | [d1, d2, d3, d4] => { results := [.lit (.bool false)], args := [d1, d2, d3, d4] }
  | _ => none }
def GroupCutsWrongFalsely : Prop := groupCutsRow.holds Tryd.pinned (OpenSpec.ofChange groupCutsWrong)

/-- 'cachepotlaw10.GroupJoins': WHATEVER THE INPUT: true; the input reads as it did. -/
def groupJoinsSpec : ChangeSpec := { name := "groupJoins", fn := fun _ => fun
  | [d] => { results := [.lit (.bool true)], args := [d] }
  | _ => none }
def groupJoinsRow : OpenClaim := { program := "ytlnadpijicfceaadoor", sum := "616fb7a381e9c0c50c346b95c394326764dfc6e24d0cb248596feebea04eff36", func := "cachepot/cachepotlaw10.GroupJoins", spec := "groupJoins", inPlace := ["internal/abi.NoEscape"], named := ["unicode/utf8.first", "unicode/utf8.acceptRanges"], apart := false, laid := [("unicode/utf8.acceptRanges", laid_unicode_utf8_acceptRanges), ("unicode/utf8.first", laid_unicode_utf8_first)] }
def GroupJoinsSaid : Prop := groupJoinsRow.holds Tryd.pinned (OpenSpec.ofChange groupJoinsSpec)

/-- ITS FALSE NEIGHBOUR: 'it returns false'. Refute it at one input. -/
def groupJoinsWrong : ChangeSpec := { name := "groupJoins", fn := fun _ => fun
  | [d] => { results := [.lit (.bool false)], args := [d] }
  | _ => none }
def GroupJoinsWrongFalsely : Prop := groupJoinsRow.holds Tryd.pinned (OpenSpec.ofChange groupJoinsWrong)

/-- 'cachepotlaw10.GroupBent': WHATEVER THE INPUT: true; the input reads as it did. -/
def groupBentSpec : ChangeSpec := { name := "groupBent", fn := fun _ => fun
  | [d1, d2, d3, d4, d5, d6] => { results := [.lit (.bool true)], args := [d1, d2, d3, d4, d5, d6] }
  | _ => none }
def groupBentRow : OpenClaim := { program := "ytlnadpijicfceaadoor", sum := "616fb7a381e9c0c50c346b95c394326764dfc6e24d0cb248596feebea04eff36", func := "cachepot/cachepotlaw10.GroupBent", spec := "groupBent", inPlace := ["internal/abi.NoEscape"], named := ["unicode/utf8.first", "unicode/utf8.acceptRanges"], apart := false, laid := [("unicode/utf8.acceptRanges", laid_unicode_utf8_acceptRanges), ("unicode/utf8.first", laid_unicode_utf8_first)] }
def GroupBentSaid : Prop := groupBentRow.holds Tryd.pinned (OpenSpec.ofChange groupBentSpec)

/-- ITS FALSE NEIGHBOUR: 'it returns false'. Refute it at one input. -/
def groupBentWrong : ChangeSpec := { name := "groupBent", fn := fun _ => fun
  | [d1, d2, d3, d4, d5, d6] => { results := [.lit (.bool false)], args := [d1, d2, d3, d4, d5, d6] }
  | _ => none }
def GroupBentWrongFalsely : Prop := groupBentRow.holds Tryd.pinned (OpenSpec.ofChange groupBentWrong)

/-- 'cachepotlaw10.GroupBack': WHATEVER THE INPUT: true; the input reads as it did. -/
def groupBackSpec : ChangeSpec := { name := "groupBack", fn := fun _ => fun
  | [d1, d2] => { results := [.lit (.bool true)], args := [d1, d2] }
  | _ => none }
def groupBackRow : OpenClaim := { program := "ytlnadpijicfceaadoor", sum := "616fb7a381e9c0c50c346b95c394326764dfc6e24d0cb248596feebea04eff36", func := "cachepot/cachepotlaw10.GroupBack", spec := "groupBack", inPlace := ["internal/abi.NoEscape"], named := ["unicode/utf8.first", "unicode/utf8.acceptRanges"], apart := false, laid := [("unicode/utf8.acceptRanges", laid_unicode_utf8_acceptRanges), ("unicode/utf8.first", laid_unicode_utf8_first)] }
def GroupBackSaid : Prop := groupBackRow.holds Tryd.pinned (OpenSpec.ofChange groupBackSpec)

/-- ITS FALSE NEIGHBOUR: 'it returns false'. Refute it at one input. -/
def groupBackWrong : ChangeSpec := { name := "groupBack", fn := fun _ => fun
  | [d1, d2] => { results := [.lit (.bool false)], args := [d1, d2] }
  | _ => none }
def GroupBackWrongFalsely : Prop := groupBackRow.holds Tryd.pinned (OpenSpec.ofChange groupBackWrong)

/-- 'cachepotlaw10.GroupTurned': WHATEVER THE INPUT: true; the input reads as it did. -/
def groupTurnedSpec : ChangeSpec := { name := "groupTurned", fn := fun _ => fun
  | [d1, d2, d3, d4, d5] => { results := [.lit (.bool true)], args := [d1, d2, d3, d4, d5] }
  | _ => none }
def groupTurnedRow : OpenClaim := { program := "ytlnadpijicfceaadoor", sum := "616fb7a381e9c0c50c346b95c394326764dfc6e24d0cb248596feebea04eff36", func := "cachepot/cachepotlaw10.GroupTurned", spec := "groupTurned", inPlace := ["internal/abi.NoEscape"], named := ["unicode/utf8.first", "unicode/utf8.acceptRanges"], apart := false, laid := [("unicode/utf8.acceptRanges", laid_unicode_utf8_acceptRanges), ("unicode/utf8.first", laid_unicode_utf8_first)] }
def GroupTurnedSaid : Prop := groupTurnedRow.holds Tryd.pinned (OpenSpec.ofChange groupTurnedSpec)

/-- ITS FALSE NEIGHBOUR: 'it returns false'. Refute it at one input. -/
def groupTurnedWrong : ChangeSpec := { name := "groupTurned", fn := fun _ => fun
  | [d1, d2, d3, d4, d5] => { results := [.lit (.bool false)], args := [d1, d2, d3, d4, d5] }
  | _ => none }
def GroupTurnedWrongFalsely : Prop := groupTurnedRow.holds Tryd.pinned (OpenSpec.ofChange groupTurnedWrong)

/-- 'cachepotlaw10.GroupParts': WHATEVER THE INPUT: true; the input reads as it did. -/
def groupPartsSpec : ChangeSpec := { name := "groupParts", fn := fun _ => fun
  | [d1, d2] => { results := [.lit (.bool true)], args := [d1, d2] }
  | _ => none }
def groupPartsRow : OpenClaim := { program := "ytlnadpijicfceaadoor", sum := "616fb7a381e9c0c50c346b95c394326764dfc6e24d0cb248596feebea04eff36", func := "cachepot/cachepotlaw10.GroupParts", spec := "groupParts", inPlace := ["internal/abi.NoEscape"], named := ["unicode/utf8.first", "unicode/utf8.acceptRanges"], apart := false, laid := [("unicode/utf8.acceptRanges", laid_unicode_utf8_acceptRanges), ("unicode/utf8.first", laid_unicode_utf8_first)] }
def GroupPartsSaid : Prop := groupPartsRow.holds Tryd.pinned (OpenSpec.ofChange groupPartsSpec)

/-- ITS FALSE NEIGHBOUR: 'it returns false'. Refute it at one input. -/
def groupPartsWrong : ChangeSpec := { name := "groupParts", fn := fun _ => fun
  | [d1, d2] => { results := [.lit (.bool false)], args := [d1, d2] }
  | _ => none }
def GroupPartsWrongFalsely : Prop := groupPartsRow.holds Tryd.pinned (OpenSpec.ofChange groupPartsWrong)

/-- 'cachepotlaw10.GroupLacks': WHATEVER THE INPUT: true; the input reads as it did. -/
def groupLacksSpec : ChangeSpec := { name := "groupLacks", fn := fun _ => fun
  | [d1, d2, d3] => { results := [.lit (.bool true)], args := [d1, d2, d3] }
  | _ => none }
def groupLacksRow : OpenClaim := { program := "ytlnadpijicfceaadoor", sum := "616fb7a381e9c0c50c346b95c394326764dfc6e24d0cb248596feebea04eff36", func := "cachepot/cachepotlaw10.GroupLacks", spec := "groupLacks", inPlace := ["internal/abi.NoEscape"], named := ["unicode/utf8.first", "unicode/utf8.acceptRanges"], apart := false, laid := [("unicode/utf8.acceptRanges", laid_unicode_utf8_acceptRanges), ("unicode/utf8.first", laid_unicode_utf8_first)] }
def GroupLacksSaid : Prop := groupLacksRow.holds Tryd.pinned (OpenSpec.ofChange groupLacksSpec)

/-- ITS FALSE NEIGHBOUR: 'it returns false'. Refute it at one input. -/
def groupLacksWrong : ChangeSpec := { name := "groupLacks", fn := fun _ => fun
  | [d1, d2, d3] => { results := [.lit (.bool false)], args := [d1, d2, d3] }
  | _ => none }
def GroupLacksWrongFalsely : Prop := groupLacksRow.holds Tryd.pinned (OpenSpec.ofChange groupLacksWrong)

/- THE SECOND FORM. 'bulk': how many values and letters a reading holds, each counted each time it is reached (what is shared counts as often as it is met; a slice's spare places count too). A statement '..UptoSaid' is the law's where the arguments, and the package variables that the reading takes, are together of bulk at most 1048576: NARROWER than '..Said'. Prove '..Said' where nothing that the law and all that it calls make is longer than what came in: it says more and counts as full. Else prove '..UptoSaid'. A law counts once. -/
mutual
def uptoBulk {H : Type} : DataW H → Nat
  | .lit (.string bytes) => bytes.length + 1
  | .lit _ => 1
  | .nil => 1
  | .ptr d => uptoBulk d + 1
  | .slice elems spare => uptoBulkAll elems + uptoBulkAll spare + 1
  | .agg parts => uptoBulkAll parts + 1
  | .iface _ d => uptoBulk d + 1
  | .map entries => uptoBulkEntries entries + 1
  | .held _ => 1
def uptoBulkAll {H : Type} : List (DataW H) → Nat
  | [] => 0
  | d :: r => uptoBulk d + uptoBulkAll r
def uptoBulkEntries {H : Type} : List (Lit × DataW H) → Nat
  | [] => 0
  | x :: r => uptoBulkEntry x + uptoBulkEntries r
def uptoBulkEntry {H : Type} : Lit × DataW H → Nat
  | (.string bytes, d) => bytes.length + uptoBulk d + 1
  | (_, d) => uptoBulk d + 1
 end
def uptoSmall : (H : Type) → List (DataW H) → Bool := fun _ ds => decide (uptoBulkAll ds ≤ 1048576)
def OpenSpec.upto (s : _root_.Go.ChangeSpec) : _root_.Go.OpenSpec := { _root_.Go.OpenSpec.ofChange s with cond := some uptoSmall }

/-- 'cachepotlaw10.GroupCuts', WHERE WHAT IT READS IS OF BULK AT MOST 1048576: true; the input reads as it did. -/
def groupCutsUptoRow : OpenClaim := { program := "ytlnadpijicfceaadoor", sum := "616fb7a381e9c0c50c346b95c394326764dfc6e24d0cb248596feebea04eff36", func := "cachepot/cachepotlaw10.GroupCuts", spec := "groupCuts", inPlace := ["internal/abi.NoEscape"], named := ["unicode/utf8.first", "unicode/utf8.acceptRanges"], apart := false, laid := [("unicode/utf8.acceptRanges", laid_unicode_utf8_acceptRanges), ("unicode/utf8.first", laid_unicode_utf8_first)], narrowed := true }
def GroupCutsUptoSaid : Prop := groupCutsUptoRow.holds Tryd.pinned (OpenSpec.upto groupCutsSpec)

/-- 'cachepotlaw10.GroupJoins', WHERE WHAT IT READS IS OF BULK AT MOST 1048576: true; the input reads as it did. -/
def groupJoinsUptoRow : OpenClaim := { program := "ytlnadpijicfceaadoor", sum := "616fb7a381e9c0c50c346b95c394326764dfc6e24d0cb248596feebea04eff36", func := "cachepot/cachepotlaw10.GroupJoins", spec := "groupJoins", inPlace := ["internal/abi.NoEscape"], named := ["unicode/utf8.first", "unicode/utf8.acceptRanges"], apart := false, laid := [("unicode/utf8.acceptRanges", laid_unicode_utf8_acceptRanges), ("unicode/utf8.first", laid_unicode_utf8_first)], narrowed := true }
def GroupJoinsUptoSaid : Prop := groupJoinsUptoRow.holds Tryd.pinned (OpenSpec.upto groupJoinsSpec)

/-- 'cachepotlaw10.GroupBent', WHERE WHAT IT READS IS OF BULK AT MOST 1048576: true; the input reads as it did. -/
def groupBentUptoRow : OpenClaim := { program := "ytlnadpijicfceaadoor", sum := "616fb7a381e9c0c50c346b95c394326764dfc6e24d0cb248596feebea04eff36", func := "cachepot/cachepotlaw10.GroupBent", spec := "groupBent", inPlace := ["internal/abi.NoEscape"], named := ["unicode/utf8.first", "unicode/utf8.acceptRanges"], apart := false, laid := [("unicode/utf8.acceptRanges", laid_unicode_utf8_acceptRanges), ("unicode/utf8.first", laid_unicode_utf8_first)], narrowed := true }
def GroupBentUptoSaid : Prop := groupBentUptoRow.holds Tryd.pinned (OpenSpec.upto groupBentSpec)

/-- 'cachepotlaw10.GroupBack', WHERE WHAT IT READS IS OF BULK AT MOST 1048576: true; the input reads as it did. -/
def groupBackUptoRow : OpenClaim := { program := "ytlnadpijicfceaadoor", sum := "616fb7a381e9c0c50c346b95c394326764dfc6e24d0cb248596feebea04eff36", func := "cachepot/cachepotlaw10.GroupBack", spec := "groupBack", inPlace := ["internal/abi.NoEscape"], named := ["unicode/utf8.first", "unicode/utf8.acceptRanges"], apart := false, laid := [("unicode/utf8.acceptRanges", laid_unicode_utf8_acceptRanges), ("unicode/utf8.first", laid_unicode_utf8_first)], narrowed := true }
def GroupBackUptoSaid : Prop := groupBackUptoRow.holds Tryd.pinned (OpenSpec.upto groupBackSpec)

/-- 'cachepotlaw10.GroupTurned', WHERE WHAT IT READS IS OF BULK AT MOST 1048576: true; the input reads as it did. -/
def groupTurnedUptoRow : OpenClaim := { program := "ytlnadpijicfceaadoor", sum := "616fb7a381e9c0c50c346b95c394326764dfc6e24d0cb248596feebea04eff36", func := "cachepot/cachepotlaw10.GroupTurned", spec := "groupTurned", inPlace := ["internal/abi.NoEscape"], named := ["unicode/utf8.first", "unicode/utf8.acceptRanges"], apart := false, laid := [("unicode/utf8.acceptRanges", laid_unicode_utf8_acceptRanges), ("unicode/utf8.first", laid_unicode_utf8_first)], narrowed := true }
def GroupTurnedUptoSaid : Prop := groupTurnedUptoRow.holds Tryd.pinned (OpenSpec.upto groupTurnedSpec)

/-- 'cachepotlaw10.GroupParts', WHERE WHAT IT READS IS OF BULK AT MOST 1048576: true; the input reads as it did. -/
def groupPartsUptoRow : OpenClaim := { program := "ytlnadpijicfceaadoor", sum := "616fb7a381e9c0c50c346b95c394326764dfc6e24d0cb248596feebea04eff36", func := "cachepot/cachepotlaw10.GroupParts", spec := "groupParts", inPlace := ["internal/abi.NoEscape"], named := ["unicode/utf8.first", "unicode/utf8.acceptRanges"], apart := false, laid := [("unicode/utf8.acceptRanges", laid_unicode_utf8_acceptRanges), ("unicode/utf8.first", laid_unicode_utf8_first)], narrowed := true }
def GroupPartsUptoSaid : Prop := groupPartsUptoRow.holds Tryd.pinned (OpenSpec.upto groupPartsSpec)

/-- 'cachepotlaw10.GroupLacks', WHERE WHAT IT READS IS OF BULK AT MOST 1048576: true; the input reads as it did. -/
def groupLacksUptoRow : OpenClaim := { program := "ytlnadpijicfceaadoor", sum := "616fb7a381e9c0c50c346b95c394326764dfc6e24d0cb248596feebea04eff36", func := "cachepot/cachepotlaw10.GroupLacks", spec := "groupLacks", inPlace := ["internal/abi.NoEscape"], named := ["unicode/utf8.first", "unicode/utf8.acceptRanges"], apart := false, laid := [("unicode/utf8.acceptRanges", laid_unicode_utf8_acceptRanges), ("unicode/utf8.first", laid_unicode_utf8_first)], narrowed := true }
def GroupLacksUptoSaid : Prop := groupLacksUptoRow.holds Tryd.pinned (OpenSpec.upto groupLacksSpec)

end Rows
end Go.Proofs.YtlnadpijicfceaaDoor
