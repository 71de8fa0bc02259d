/-
  NARROWER THAN 'FOR EVERY INPUT', by the rows' own cells (each row's printed sentence says how): ViewStages: laid · ViewRefuses: laid · ViewReads: laid · ViewFull: laid · ViewPlays: laid · ViewNone: laid.
  DERIVED. THE GIVEN ROWS OF THIS SEAT. 6 by the template 'for every input the law returns true; each argument reads behind the call as it read before'; 0 by the template 'total and deterministic' (their statements: YtnpgfcedmdnemaaDoorTotals.lean).
  GIVEN WITH THE SEED: the statements are not yours to turn. If you find one false, say at which input.
  Laid BY PROGRAM, IN A SANDBOX (cutbox-rows.mjs): the forced cells as the released guide's own fill.sh prints them over the translation da20ce58eb012518… (all of the seat's roots in one cut). By AI agents, Wed Nov 11 2026. No macro, syntax, notation, axiom, sorry.
-/
import Derived.Test.YtnpgfcedmdnemaaDoorChecked
import GoSem.PinnedTables
import GoSem.Claim
import GoSem.ClaimJoined
import GoSem.ClaimMapViews
import Derived.JoinedTies
import Derived.KernelRfl
namespace Go.Proofs.YtnpgfcedmdnemaaDoor
/- THE CELL 'sum', in the pinned program and in every row, IS THE sha256 OF THE DUMP (.gsa) THAT YtnpgfcedmdnemaaDoorProg.lean LOADS. Nothing in Lean hashes anything: it is a label: what it is worth is what the hold of that sum in a sandbox is worth. -/
noncomputable def Tryd.pinned : Pinned := { name := "ytnpgfcedmdnemaadoor", sum := "da20ce58eb012518278582d5e4639e9b848db5faa08cc9f472dcdc3eb6f8bf52", checked := Tryd.checked }
namespace Rows
def none {H : Type} : Left H := { results := [], args := [] }

/- WHAT THE LISTED PACKAGE-LEVEL VARIABLES READ AS WHEN THE CALL BEGINS. Each datum BY PROGRAM (the guide's laid-datum.mjs) off the statement by which the dump's own 'gosem.cut.vars' lays the variable. In a bare row this is a premise. The card (YtnpgfcedmdnemaaDoorCards.lean) ties it to the program's text. -/
def laid_cachepot_cachepothand_names {H : Type} : DataW H := .agg [.lit (.string [97]), .lit (.string [98]), .lit (.string [99]), .lit (.string [97, 98]), .lit (.string [107, 49]), .lit (.string [107, 50]), .lit (.string [107, 51]), .lit (.string [195, 169]), .lit (.string [195, 169, 97]), .lit (.string [240, 159, 152, 128]), .lit (.string [42]), .lit (.string [122, 122])]
def laid_unicode_utf8_acceptRanges {H : Type} : DataW H := .agg [.agg [.lit (.int .u8 128), .lit (.int .u8 191)], .agg [.lit (.int .u8 160), .lit (.int .u8 191)], .agg [.lit (.int .u8 128), .lit (.int .u8 159)], .agg [.lit (.int .u8 144), .lit (.int .u8 191)], .agg [.lit (.int .u8 128), .lit (.int .u8 143)], .agg [.lit (.int .u8 0), .lit (.int .u8 0)], .agg [.lit (.int .u8 0), .lit (.int .u8 0)], .agg [.lit (.int .u8 0), .lit (.int .u8 0)], .agg [.lit (.int .u8 0), .lit (.int .u8 0)], .agg [.lit (.int .u8 0), .lit (.int .u8 0)], .agg [.lit (.int .u8 0), .lit (.int .u8 0)], .agg [.lit (.int .u8 0), .lit (.int .u8 0)], .agg [.lit (.int .u8 0), .lit (.int .u8 0)], .agg [.lit (.int .u8 0), .lit (.int .u8 0)], .agg [.lit (.int .u8 0), .lit (.int .u8 0)], .agg [.lit (.int .u8 0), .lit (.int .u8 0)]]
/-- One of Go's own tables, pinned by name: the form's constant. -/
def laid_unicode_utf8_first : DataW Unit := Go.Pinned.utf8First

/-- 'cachepotlaw22.ViewStages': WHATEVER THE INPUT: true; the input reads as it did. -/
def viewStagesSpec : ChangeSpec := { name := "viewStages", fn := fun _ => fun
  | [d] => { results := [.lit (.bool true)], args := [d] }
  | _ => none }
def viewStagesRow : OpenClaim := { program := "ytnpgfcedmdnemaadoor", sum := "da20ce58eb012518278582d5e4639e9b848db5faa08cc9f472dcdc3eb6f8bf52", func := "cachepot/cachepotlaw22.ViewStages", spec := "viewStages", inPlace := ["internal/bytealg.abigen_runtime_cmpstring"], unfollowed := true, recurses := true, named := ["unicode/utf8.first", "unicode/utf8.acceptRanges", "cachepot/cachepothand.names"], apart := false, laid := [("cachepot/cachepothand.names", laid_cachepot_cachepothand_names), ("unicode/utf8.acceptRanges", laid_unicode_utf8_acceptRanges), ("unicode/utf8.first", laid_unicode_utf8_first)] }
def ViewStagesSaid : Prop := viewStagesRow.holds Tryd.pinned (OpenSpec.ofChange viewStagesSpec)

/-- ITS FALSE NEIGHBOUR: 'it returns false'. Refute it at one input. -/
def viewStagesWrong : ChangeSpec := { name := "viewStages", fn := fun _ => fun
  | [d] => { results := [.lit (.bool false)], args := [d] }
  | _ => none }
def ViewStagesWrongFalsely : Prop := viewStagesRow.holds Tryd.pinned (OpenSpec.ofChange viewStagesWrong)

/-- 'cachepotlaw22.ViewRefuses': WHATEVER THE INPUT: true; the input reads as it did. -/
def viewRefusesSpec : ChangeSpec := { name := "viewRefuses", fn := fun _ => fun
  | [d1, d2] => { results := [.lit (.bool true)], args := [d1, d2] }
  | _ => none }
def viewRefusesRow : OpenClaim := { program := "ytnpgfcedmdnemaadoor", sum := "da20ce58eb012518278582d5e4639e9b848db5faa08cc9f472dcdc3eb6f8bf52", func := "cachepot/cachepotlaw22.ViewRefuses", spec := "viewRefuses", inPlace := ["internal/bytealg.abigen_runtime_cmpstring"], unfollowed := true, recurses := true, named := ["unicode/utf8.first", "unicode/utf8.acceptRanges"], apart := false, laid := [("unicode/utf8.acceptRanges", laid_unicode_utf8_acceptRanges), ("unicode/utf8.first", laid_unicode_utf8_first)] }
def ViewRefusesSaid : Prop := viewRefusesRow.holds Tryd.pinned (OpenSpec.ofChange viewRefusesSpec)

/-- ITS FALSE NEIGHBOUR: 'it returns false'. Refute it at one input. -/
def viewRefusesWrong : ChangeSpec := { name := "viewRefuses", fn := fun _ => fun
  | [d1, d2] => { results := [.lit (.bool false)], args := [d1, d2] }
  | _ => none }
def ViewRefusesWrongFalsely : Prop := viewRefusesRow.holds Tryd.pinned (OpenSpec.ofChange viewRefusesWrong)

/-- 'cachepotlaw22.ViewReads': WHATEVER THE INPUT: true; the input reads as it did. -/
def viewReadsSpec : ChangeSpec := { name := "viewReads", fn := fun _ => fun
  | [d1, d2] => { results := [.lit (.bool true)], args := [d1, d2] }
  | _ => none }
def viewReadsRow : OpenClaim := { program := "ytnpgfcedmdnemaadoor", sum := "da20ce58eb012518278582d5e4639e9b848db5faa08cc9f472dcdc3eb6f8bf52", func := "cachepot/cachepotlaw22.ViewReads", spec := "viewReads", inPlace := ["internal/bytealg.abigen_runtime_cmpstring"], unfollowed := true, recurses := true, named := ["unicode/utf8.first", "unicode/utf8.acceptRanges"], apart := false, laid := [("unicode/utf8.acceptRanges", laid_unicode_utf8_acceptRanges), ("unicode/utf8.first", laid_unicode_utf8_first)] }
def ViewReadsSaid : Prop := viewReadsRow.holds Tryd.pinned (OpenSpec.ofChange viewReadsSpec)

/-- ITS FALSE NEIGHBOUR: 'it returns false'. Refute it at one input. -/
def viewReadsWrong : ChangeSpec := { name := "viewReads", fn := fun _ => fun
  | [d1, d2] => { results := [.lit (.bool false)], args := [d1, d2] }
  | _ => none }
def ViewReadsWrongFalsely : Prop := viewReadsRow.holds Tryd.pinned (OpenSpec.ofChange viewReadsWrong)

/-- 'cachepotlaw22.ViewFull': WHATEVER THE INPUT: true; the input reads as it did. -/
def viewFullSpec : ChangeSpec := { name := "viewFull", fn := fun _ => fun
  | [d1, d2] => { results := [.lit (.bool true)], args := [d1, d2] }
  | _ => none }
def viewFullRow : OpenClaim := { program := "ytnpgfcedmdnemaadoor", sum := "da20ce58eb012518278582d5e4639e9b848db5faa08cc9f472dcdc3eb6f8bf52", func := "cachepot/cachepotlaw22.ViewFull", spec := "viewFull", inPlace := ["internal/bytealg.abigen_runtime_cmpstring"], unfollowed := true, recurses := true, named := ["unicode/utf8.first", "unicode/utf8.acceptRanges"], apart := false, laid := [("unicode/utf8.acceptRanges", laid_unicode_utf8_acceptRanges), ("unicode/utf8.first", laid_unicode_utf8_first)] }
def ViewFullSaid : Prop := viewFullRow.holds Tryd.pinned (OpenSpec.ofChange viewFullSpec)

/-- ITS FALSE NEIGHBOUR: 'it returns false'. Refute it at one input. -/
def viewFullWrong : ChangeSpec := { name := "viewFull", fn := fun _ => fun
  | [d1, d2] => { results := [.lit (.bool false)], args := [d1, d2] }
  | _ => none }
def ViewFullWrongFalsely : Prop := viewFullRow.holds Tryd.pinned (OpenSpec.ofChange viewFullWrong)

/-- 'cachepotlaw22.ViewPlays': WHATEVER THE INPUT: true; the input reads as it did. -/
def viewPlaysSpec : ChangeSpec := { name := "viewPlays", fn := fun _ => fun
  | [d] => { results := [.lit (.bool true)], args := [d] }
  | _ => none }
def viewPlaysRow : OpenClaim := { program := "ytnpgfcedmdnemaadoor", sum := "da20ce58eb012518278582d5e4639e9b848db5faa08cc9f472dcdc3eb6f8bf52", func := "cachepot/cachepotlaw22.ViewPlays", spec := "viewPlays", inPlace := ["internal/bytealg.abigen_runtime_cmpstring"], unfollowed := true, recurses := true, named := ["unicode/utf8.first", "unicode/utf8.acceptRanges", "cachepot/cachepothand.names"], apart := false, laid := [("cachepot/cachepothand.names", laid_cachepot_cachepothand_names), ("unicode/utf8.acceptRanges", laid_unicode_utf8_acceptRanges), ("unicode/utf8.first", laid_unicode_utf8_first)] }
def ViewPlaysSaid : Prop := viewPlaysRow.holds Tryd.pinned (OpenSpec.ofChange viewPlaysSpec)

/-- ITS FALSE NEIGHBOUR: 'it returns false'. Refute it at one input. -/
def viewPlaysWrong : ChangeSpec := { name := "viewPlays", fn := fun _ => fun
  | [d] => { results := [.lit (.bool false)], args := [d] }
  | _ => none }
def ViewPlaysWrongFalsely : Prop := viewPlaysRow.holds Tryd.pinned (OpenSpec.ofChange viewPlaysWrong)

/-- 'cachepotlaw22.ViewNone': WHATEVER THE INPUT: true; the input reads as it did. -/
def viewNoneSpec : ChangeSpec := { name := "viewNone", fn := fun _ => fun
  | [d1, d2] => { results := [.lit (.bool true)], args := [d1, d2] }
  | _ => none }
def viewNoneRow : OpenClaim := { program := "ytnpgfcedmdnemaadoor", sum := "da20ce58eb012518278582d5e4639e9b848db5faa08cc9f472dcdc3eb6f8bf52", func := "cachepot/cachepotlaw22.ViewNone", spec := "viewNone", inPlace := ["internal/bytealg.abigen_runtime_cmpstring"], unfollowed := true, recurses := true, named := ["unicode/utf8.first", "unicode/utf8.acceptRanges"], apart := false, laid := [("unicode/utf8.acceptRanges", laid_unicode_utf8_acceptRanges), ("unicode/utf8.first", laid_unicode_utf8_first)] }
def ViewNoneSaid : Prop := viewNoneRow.holds Tryd.pinned (OpenSpec.ofChange viewNoneSpec)

/-- ITS FALSE NEIGHBOUR: 'it returns false'. Refute it at one input. -/
def viewNoneWrong : ChangeSpec := { name := "viewNone", fn := fun _ => fun
  | [d1, d2] => { results := [.lit (.bool false)], args := [d1, d2] }
  | _ => none }
def ViewNoneWrongFalsely : Prop := viewNoneRow.holds Tryd.pinned (OpenSpec.ofChange viewNoneWrong)

/- THE SECOND FORM. 'bulk': how many values and letters a reading holds, each counted each time it is reached (what is shared counts as often as it is met; a slice's spare places count too). A statement '..UptoSaid' is the law's where the arguments, and the package variables that the reading takes, are together of bulk at most 1048576: NARROWER than '..Said'. Prove '..Said' where nothing that the law and all that it calls make is longer than what came in: it says more and counts as full. Else prove '..UptoSaid'. A law counts once. -/
mutual
def uptoBulk {H : Type} : DataW H → Nat
  | .lit (.string bytes) => bytes.length + 1
  | .lit _ => 1
  | .nil => 1
  | .ptr d => uptoBulk d + 1
  | .slice elems spare => uptoBulkAll elems + uptoBulkAll spare + 1
  | .agg parts => uptoBulkAll parts + 1
  | .iface _ d => uptoBulk d + 1
  | .map entries => uptoBulkEntries entries + 1
  | .held _ => 1
def uptoBulkAll {H : Type} : List (DataW H) → Nat
  | [] => 0
  | d :: r => uptoBulk d + uptoBulkAll r
def uptoBulkEntries {H : Type} : List (Lit × DataW H) → Nat
  | [] => 0
  | x :: r => uptoBulkEntry x + uptoBulkEntries r
def uptoBulkEntry {H : Type} : Lit × DataW H → Nat
  | (.string bytes, d) => bytes.length + uptoBulk d + 1
  | (_, d) => uptoBulk d + 1
 end
def uptoSmall : (H : Type) → List (DataW H) → Bool := fun _ ds => decide (uptoBulkAll ds ≤ 1048576)
def OpenSpec.upto (s : _root_.Go.ChangeSpec) : _root_.Go.OpenSpec := { _root_.Go.OpenSpec.ofChange s with cond := some uptoSmall }

/-- 'cachepotlaw22.ViewStages', WHERE WHAT IT READS IS OF BULK AT MOST 1048576: true; the input reads as it did. -/
def viewStagesUptoRow : OpenClaim := { program := "ytnpgfcedmdnemaadoor", sum := "da20ce58eb012518278582d5e4639e9b848db5faa08cc9f472dcdc3eb6f8bf52", func := "cachepot/cachepotlaw22.ViewStages", spec := "viewStages", inPlace := ["internal/bytealg.abigen_runtime_cmpstring"], unfollowed := true, recurses := true, named := ["unicode/utf8.first", "unicode/utf8.acceptRanges", "cachepot/cachepothand.names"], apart := false, laid := [("cachepot/cachepothand.names", laid_cachepot_cachepothand_names), ("unicode/utf8.acceptRanges", laid_unicode_utf8_acceptRanges), ("unicode/utf8.first", laid_unicode_utf8_first)], narrowed := true }
def ViewStagesUptoSaid : Prop := viewStagesUptoRow.holds Tryd.pinned (OpenSpec.upto viewStagesSpec)

/-- 'cachepotlaw22.ViewRefuses', WHERE WHAT IT READS IS OF BULK AT MOST 1048576: true; the input reads as it did. -/
def viewRefusesUptoRow : OpenClaim := { program := "ytnpgfcedmdnemaadoor", sum := "da20ce58eb012518278582d5e4639e9b848db5faa08cc9f472dcdc3eb6f8bf52", func := "cachepot/cachepotlaw22.ViewRefuses", spec := "viewRefuses", inPlace := ["internal/bytealg.abigen_runtime_cmpstring"], unfollowed := true, recurses := true, named := ["unicode/utf8.first", "unicode/utf8.acceptRanges"], apart := false, laid := [("unicode/utf8.acceptRanges", laid_unicode_utf8_acceptRanges), ("unicode/utf8.first", laid_unicode_utf8_first)], narrowed := true }
def ViewRefusesUptoSaid : Prop := viewRefusesUptoRow.holds Tryd.pinned (OpenSpec.upto viewRefusesSpec)

/-- 'cachepotlaw22.ViewReads', WHERE WHAT IT READS IS OF BULK AT MOST 1048576: true; the input reads as it did. -/
def viewReadsUptoRow : OpenClaim := { program := "ytnpgfcedmdnemaadoor", sum := "da20ce58eb012518278582d5e4639e9b848db5faa08cc9f472dcdc3eb6f8bf52", func := "cachepot/cachepotlaw22.ViewReads", spec := "viewReads", inPlace := ["internal/bytealg.abigen_runtime_cmpstring"], unfollowed := true, recurses := true, named := ["unicode/utf8.first", "unicode/utf8.acceptRanges"], apart := false, laid := [("unicode/utf8.acceptRanges", laid_unicode_utf8_acceptRanges), ("unicode/utf8.first", laid_unicode_utf8_first)], narrowed := true }
def ViewReadsUptoSaid : Prop := viewReadsUptoRow.holds Tryd.pinned (OpenSpec.upto viewReadsSpec)

/-- 'cachepotlaw22.ViewFull', WHERE WHAT IT READS IS OF BULK AT MOST 1048576: true; the input reads as it did. -/
def viewFullUptoRow : OpenClaim := { program := "ytnpgfcedmdnemaadoor", sum := "da20ce58eb012518278582d5e4639e9b848db5faa08cc9f472dcdc3eb6f8bf52", func := "cachepot/cachepotlaw22.ViewFull", spec := "viewFull", inPlace := ["internal/bytealg.abigen_runtime_cmpstring"], unfollowed := true, recurses := true, named := ["unicode/utf8.first", "unicode/utf8.acceptRanges"], apart := false, laid := [("unicode/utf8.acceptRanges", laid_unicode_utf8_acceptRanges), ("unicode/utf8.first", laid_unicode_utf8_first)], narrowed := true }
def ViewFullUptoSaid : Prop := viewFullUptoRow.holds Tryd.pinned (OpenSpec.upto viewFullSpec)

/-- 'cachepotlaw22.ViewPlays', WHERE WHAT IT READS IS OF BULK AT MOST 1048576: true; the input reads as it did. -/
def viewPlaysUptoRow : OpenClaim := { program := "ytnpgfcedmdnemaadoor", sum := "da20ce58eb012518278582d5e4639e9b848db5faa08cc9f472dcdc3eb6f8bf52", func := "cachepot/cachepotlaw22.ViewPlays", spec := "viewPlays", inPlace := ["internal/bytealg.abigen_runtime_cmpstring"], unfollowed := true, recurses := true, named := ["unicode/utf8.first", "unicode/utf8.acceptRanges", "cachepot/cachepothand.names"], apart := false, laid := [("cachepot/cachepothand.names", laid_cachepot_cachepothand_names), ("unicode/utf8.acceptRanges", laid_unicode_utf8_acceptRanges), ("unicode/utf8.first", laid_unicode_utf8_first)], narrowed := true }
def ViewPlaysUptoSaid : Prop := viewPlaysUptoRow.holds Tryd.pinned (OpenSpec.upto viewPlaysSpec)

/-- 'cachepotlaw22.ViewNone', WHERE WHAT IT READS IS OF BULK AT MOST 1048576: true; the input reads as it did. -/
def viewNoneUptoRow : OpenClaim := { program := "ytnpgfcedmdnemaadoor", sum := "da20ce58eb012518278582d5e4639e9b848db5faa08cc9f472dcdc3eb6f8bf52", func := "cachepot/cachepotlaw22.ViewNone", spec := "viewNone", inPlace := ["internal/bytealg.abigen_runtime_cmpstring"], unfollowed := true, recurses := true, named := ["unicode/utf8.first", "unicode/utf8.acceptRanges"], apart := false, laid := [("unicode/utf8.acceptRanges", laid_unicode_utf8_acceptRanges), ("unicode/utf8.first", laid_unicode_utf8_first)], narrowed := true }
def ViewNoneUptoSaid : Prop := viewNoneUptoRow.holds Tryd.pinned (OpenSpec.upto viewNoneSpec)

end Rows
end Go.Proofs.YtnpgfcedmdnemaaDoor
