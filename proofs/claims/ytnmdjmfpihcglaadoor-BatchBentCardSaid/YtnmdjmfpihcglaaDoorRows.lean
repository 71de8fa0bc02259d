/-
  NARROWER THAN 'FOR EVERY INPUT', by the rows' own cells (each row's printed sentence says how): BatchRights: laid · BatchLays: laid · BatchReads: laid · BatchBent: laid · BatchFinds: laid · BatchMakes: laid · BatchBack: laid.
  DERIVED. THE GIVEN ROWS OF THIS SEAT. 7 by the template 'for every input the law returns true; each argument reads behind the call as it read before'; 0 by the template 'total and deterministic' (their statements: YtnmdjmfpihcglaaDoorTotals.lean).
  GIVEN WITH THE SEED: the statements are not yours to turn. If you find one false, say at which input.
  Laid BY PROGRAM, IN A SANDBOX (cutbox-rows.mjs): the forced cells as the released guide's own fill.sh prints them over the translation aba306f8273d7be7… (all of the seat's roots in one cut). By AI agents, Wed Nov 11 2026. No macro, syntax, notation, axiom, sorry.
-/
import Derived.Test.YtnmdjmfpihcglaaDoorChecked
import GoSem.PinnedTables
import GoSem.Claim
import GoSem.ClaimJoined
import GoSem.ClaimMapViews
import Derived.JoinedTies
import Derived.KernelRfl
namespace Go.Proofs.YtnmdjmfpihcglaaDoor
/- THE CELL 'sum', in the pinned program and in every row, IS THE sha256 OF THE DUMP (.gsa) THAT YtnmdjmfpihcglaaDoorProg.lean LOADS. Nothing in Lean hashes anything: it is a label: what it is worth is what the hold of that sum in a sandbox is worth. -/
noncomputable def Tryd.pinned : Pinned := { name := "ytnmdjmfpihcglaadoor", sum := "aba306f8273d7be76f013f4b6db56e9209092ba7e584022ef86d820b099bd177", checked := Tryd.checked }
namespace Rows
def none {H : Type} : Left H := { results := [], args := [] }

/- WHAT THE LISTED PACKAGE-LEVEL VARIABLES READ AS WHEN THE CALL BEGINS. Each datum BY PROGRAM (the guide's laid-datum.mjs) off the statement by which the dump's own 'gosem.cut.vars' lays the variable. In a bare row this is a premise. The card (YtnmdjmfpihcglaaDoorCards.lean) ties it to the program's text. -/
def laid_unicode_utf8_acceptRanges {H : Type} : DataW H := .agg [.agg [.lit (.int .u8 128), .lit (.int .u8 191)], .agg [.lit (.int .u8 160), .lit (.int .u8 191)], .agg [.lit (.int .u8 128), .lit (.int .u8 159)], .agg [.lit (.int .u8 144), .lit (.int .u8 191)], .agg [.lit (.int .u8 128), .lit (.int .u8 143)], .agg [.lit (.int .u8 0), .lit (.int .u8 0)], .agg [.lit (.int .u8 0), .lit (.int .u8 0)], .agg [.lit (.int .u8 0), .lit (.int .u8 0)], .agg [.lit (.int .u8 0), .lit (.int .u8 0)], .agg [.lit (.int .u8 0), .lit (.int .u8 0)], .agg [.lit (.int .u8 0), .lit (.int .u8 0)], .agg [.lit (.int .u8 0), .lit (.int .u8 0)], .agg [.lit (.int .u8 0), .lit (.int .u8 0)], .agg [.lit (.int .u8 0), .lit (.int .u8 0)], .agg [.lit (.int .u8 0), .lit (.int .u8 0)], .agg [.lit (.int .u8 0), .lit (.int .u8 0)]]
/-- One of Go's own tables, pinned by name: the form's constant. -/
def laid_unicode_utf8_first : DataW Unit := Go.Pinned.utf8First

/-- 'cachepotlaw5.BatchRights': WHATEVER THE INPUT: true; the input reads as it did. -/
def batchRightsSpec : ChangeSpec := { name := "batchRights", fn := fun _ => fun
  | [d] => { results := [.lit (.bool true)], args := [d] }
  | _ => none }
def batchRightsRow : OpenClaim := { program := "ytnmdjmfpihcglaadoor", sum := "aba306f8273d7be76f013f4b6db56e9209092ba7e584022ef86d820b099bd177", func := "cachepot/cachepotlaw5.BatchRights", spec := "batchRights", inPlace := ["internal/abi.NoEscape"], named := ["unicode/utf8.first", "unicode/utf8.acceptRanges"], apart := false, laid := [("unicode/utf8.acceptRanges", laid_unicode_utf8_acceptRanges), ("unicode/utf8.first", laid_unicode_utf8_first)] }
def BatchRightsSaid : Prop := batchRightsRow.holds Tryd.pinned (OpenSpec.ofChange batchRightsSpec)

/-- ITS FALSE NEIGHBOUR: 'it returns false'. Refute it at one input. -/
def batchRightsWrong : ChangeSpec := { name := "batchRights", fn := fun _ => fun
  | [d] => { results := [.lit (.bool false)], args := [d] }
  | _ => none }
def BatchRightsWrongFalsely : Prop := batchRightsRow.holds Tryd.pinned (OpenSpec.ofChange batchRightsWrong)

/-- 'cachepotlaw5.BatchLays': WHATEVER THE INPUT: true; the input reads as it did. -/
def batchLaysSpec : ChangeSpec := { name := "batchLays", fn := fun _ => fun
  | [d] => { results := [.lit (.bool true)], args := [d] }
  | _ => none }
def batchLaysRow : OpenClaim := { program := "ytnmdjmfpihcglaadoor", sum := "aba306f8273d7be76f013f4b6db56e9209092ba7e584022ef86d820b099bd177", func := "cachepot/cachepotlaw5.BatchLays", spec := "batchLays", inPlace := ["internal/abi.NoEscape"], named := ["unicode/utf8.first", "unicode/utf8.acceptRanges"], apart := false, laid := [("unicode/utf8.acceptRanges", laid_unicode_utf8_acceptRanges), ("unicode/utf8.first", laid_unicode_utf8_first)] }
def BatchLaysSaid : Prop := batchLaysRow.holds Tryd.pinned (OpenSpec.ofChange batchLaysSpec)

/-- ITS FALSE NEIGHBOUR: 'it returns false'. Refute it at one input. -/
def batchLaysWrong : ChangeSpec := { name := "batchLays", fn := fun _ => fun
  | [d] => { results := [.lit (.bool false)], args := [d] }
  | _ => none }
def BatchLaysWrongFalsely : Prop := batchLaysRow.holds Tryd.pinned (OpenSpec.ofChange batchLaysWrong)

/-- 'cachepotlaw5.BatchReads': WHATEVER THE INPUT: true; the input reads as it did. -/
def batchReadsSpec : ChangeSpec := { name := "batchReads", fn := fun _ => fun
  | [d] => { results := [.lit (.bool true)], args := [d] }
  | _ => none }
def batchReadsRow : OpenClaim := { program := "ytnmdjmfpihcglaadoor", sum := "aba306f8273d7be76f013f4b6db56e9209092ba7e584022ef86d820b099bd177", func := "cachepot/cachepotlaw5.BatchReads", spec := "batchReads", inPlace := ["internal/abi.NoEscape"], named := ["unicode/utf8.first", "unicode/utf8.acceptRanges"], apart := false, laid := [("unicode/utf8.acceptRanges", laid_unicode_utf8_acceptRanges), ("unicode/utf8.first", laid_unicode_utf8_first)] }
def BatchReadsSaid : Prop := batchReadsRow.holds Tryd.pinned (OpenSpec.ofChange batchReadsSpec)

/-- ITS FALSE NEIGHBOUR: 'it returns false'. Refute it at one input. -/
def batchReadsWrong : ChangeSpec := { name := "batchReads", fn := fun _ => fun
  | [d] => { results := [.lit (.bool false)], args := [d] }
  | _ => none }
def BatchReadsWrongFalsely : Prop := batchReadsRow.holds Tryd.pinned (OpenSpec.ofChange batchReadsWrong)

/-- 'cachepotlaw5.BatchBent': WHATEVER THE INPUT: true; the input reads as it did. -/
def batchBentSpec : ChangeSpec := { name := "batchBent", fn := fun _ => fun
  | [d1, d2, d3, d4] => { results := [.lit (.bool true)], args := [d1, d2, d3, d4] }
  | _ => none }
def batchBentRow : OpenClaim := { program := "ytnmdjmfpihcglaadoor", sum := "aba306f8273d7be76f013f4b6db56e9209092ba7e584022ef86d820b099bd177", func := "cachepot/cachepotlaw5.BatchBent", spec := "batchBent", inPlace := ["internal/abi.NoEscape"], named := ["unicode/utf8.first", "unicode/utf8.acceptRanges"], apart := false, laid := [("unicode/utf8.acceptRanges", laid_unicode_utf8_acceptRanges), ("unicode/utf8.first", laid_unicode_utf8_first)] }
def BatchBentSaid : Prop := batchBentRow.holds Tryd.pinned (OpenSpec.ofChange batchBentSpec)

/-- ITS FALSE NEIGHBOUR: 'it returns false'. Refute it at one input. -/
def batchBentWrong : ChangeSpec := { name := "batchBent", fn := fun _ => fun
  | [d1, d2, d3, d4] => { results := [.lit (.bool false)], args := [d1, d2, d3, d4] }
  | _ => none }
def BatchBentWrongFalsely : Prop := batchBentRow.holds Tryd.pinned (OpenSpec.ofChange batchBentWrong)

/-- 'cachepotlaw5.BatchFinds': WHATEVER THE INPUT: true; the input reads as it did. -/
def batchFindsSpec : ChangeSpec := { name := "batchFinds", fn := fun _ => fun
  | [d1, d2, d3] => { results := [.lit (.bool true)], args := [d1, d2, d3] }
  | _ => none }
def batchFindsRow : OpenClaim := { program := "ytnmdjmfpihcglaadoor", sum := "aba306f8273d7be76f013f4b6db56e9209092ba7e584022ef86d820b099bd177", func := "cachepot/cachepotlaw5.BatchFinds", spec := "batchFinds", inPlace := ["internal/abi.NoEscape", "internal/bytealg.abigen_runtime_cmpstring"], unfollowed := true, recurses := true, named := ["unicode/utf8.first", "unicode/utf8.acceptRanges"], apart := false, laid := [("unicode/utf8.acceptRanges", laid_unicode_utf8_acceptRanges), ("unicode/utf8.first", laid_unicode_utf8_first)] }
def BatchFindsSaid : Prop := batchFindsRow.holds Tryd.pinned (OpenSpec.ofChange batchFindsSpec)

/-- ITS FALSE NEIGHBOUR: 'it returns false'. Refute it at one input. -/
def batchFindsWrong : ChangeSpec := { name := "batchFinds", fn := fun _ => fun
  | [d1, d2, d3] => { results := [.lit (.bool false)], args := [d1, d2, d3] }
  | _ => none }
def BatchFindsWrongFalsely : Prop := batchFindsRow.holds Tryd.pinned (OpenSpec.ofChange batchFindsWrong)

/-- 'cachepotlaw5.BatchMakes': WHATEVER THE INPUT: true; the input reads as it did. -/
def batchMakesSpec : ChangeSpec := { name := "batchMakes", fn := fun _ => fun
  | [d] => { results := [.lit (.bool true)], args := [d] }
  | _ => none }
def batchMakesRow : OpenClaim := { program := "ytnmdjmfpihcglaadoor", sum := "aba306f8273d7be76f013f4b6db56e9209092ba7e584022ef86d820b099bd177", func := "cachepot/cachepotlaw5.BatchMakes", spec := "batchMakes", inPlace := ["internal/bytealg.abigen_runtime_cmpstring", "internal/abi.NoEscape"], unfollowed := true, recurses := true, named := ["unicode/utf8.first", "unicode/utf8.acceptRanges"], apart := false, laid := [("unicode/utf8.acceptRanges", laid_unicode_utf8_acceptRanges), ("unicode/utf8.first", laid_unicode_utf8_first)] }
def BatchMakesSaid : Prop := batchMakesRow.holds Tryd.pinned (OpenSpec.ofChange batchMakesSpec)

/-- ITS FALSE NEIGHBOUR: 'it returns false'. Refute it at one input. -/
def batchMakesWrong : ChangeSpec := { name := "batchMakes", fn := fun _ => fun
  | [d] => { results := [.lit (.bool false)], args := [d] }
  | _ => none }
def BatchMakesWrongFalsely : Prop := batchMakesRow.holds Tryd.pinned (OpenSpec.ofChange batchMakesWrong)

/-- 'cachepotlaw5.BatchBack': WHATEVER THE INPUT: true; the input reads as it did. -/
def batchBackSpec : ChangeSpec := { name := "batchBack", fn := fun _ => fun
  | [d] => { results := [.lit (.bool true)], args := [d] }
  | _ => none }
def batchBackRow : OpenClaim := { program := "ytnmdjmfpihcglaadoor", sum := "aba306f8273d7be76f013f4b6db56e9209092ba7e584022ef86d820b099bd177", func := "cachepot/cachepotlaw5.BatchBack", spec := "batchBack", inPlace := ["internal/abi.NoEscape", "internal/bytealg.abigen_runtime_cmpstring"], unfollowed := true, recurses := true, named := ["unicode/utf8.first", "unicode/utf8.acceptRanges"], apart := false, laid := [("unicode/utf8.acceptRanges", laid_unicode_utf8_acceptRanges), ("unicode/utf8.first", laid_unicode_utf8_first)] }
def BatchBackSaid : Prop := batchBackRow.holds Tryd.pinned (OpenSpec.ofChange batchBackSpec)

/-- ITS FALSE NEIGHBOUR: 'it returns false'. Refute it at one input. -/
def batchBackWrong : ChangeSpec := { name := "batchBack", fn := fun _ => fun
  | [d] => { results := [.lit (.bool false)], args := [d] }
  | _ => none }
def BatchBackWrongFalsely : Prop := batchBackRow.holds Tryd.pinned (OpenSpec.ofChange batchBackWrong)

/- THE SECOND FORM. 'bulk': how many values and letters a reading holds, each counted each time it is reached (what is shared counts as often as it is met; a slice's spare places count too). A statement '..UptoSaid' is the law's where the arguments, and the package variables that the reading takes, are together of bulk at most 1048576: NARROWER than '..Said'. Prove '..Said' where nothing that the law and all that it calls make is longer than what came in: it says more and counts as full. Else prove '..UptoSaid'. A law counts once. -/
mutual
def uptoBulk {H : Type} : DataW H → Nat
  | .lit (.string bytes) => bytes.length + 1
  | .lit _ => 1
  | .nil => 1
  | .ptr d => uptoBulk d + 1
  | .slice elems spare => uptoBulkAll elems + uptoBulkAll spare + 1
  | .agg parts => uptoBulkAll parts + 1
  | .iface _ d => uptoBulk d + 1
  | .map entries => uptoBulkEntries entries + 1
  | .held _ => 1
def uptoBulkAll {H : Type} : List (DataW H) → Nat
  | [] => 0
  | d :: r => uptoBulk d + uptoBulkAll r
def uptoBulkEntries {H : Type} : List (Lit × DataW H) → Nat
  | [] => 0
  | x :: r => uptoBulkEntry x + uptoBulkEntries r
def uptoBulkEntry {H : Type} : Lit × DataW H → Nat
  | (.string bytes, d) => bytes.length + uptoBulk d + 1
  | (_, d) => uptoBulk d + 1
 end
def uptoSmall : (H : Type) → List (DataW H) → Bool := fun _ ds => decide (uptoBulkAll ds ≤ 1048576)
def OpenSpec.upto (s : _root_.Go.ChangeSpec) : _root_.Go.OpenSpec := { _root_.Go.OpenSpec.ofChange s with cond := some uptoSmall }

/-- 'cachepotlaw5.BatchRights', WHERE WHAT IT READS IS OF BULK AT MOST 1048576: true; the input reads as it did. -/
def batchRightsUptoRow : OpenClaim := { program := "ytnmdjmfpihcglaadoor", sum := "aba306f8273d7be76f013f4b6db56e9209092ba7e584022ef86d820b099bd177", func := "cachepot/cachepotlaw5.BatchRights", spec := "batchRights", inPlace := ["internal/abi.NoEscape"], named := ["unicode/utf8.first", "unicode/utf8.acceptRanges"], apart := false, laid := [("unicode/utf8.acceptRanges", laid_unicode_utf8_acceptRanges), ("unicode/utf8.first", laid_unicode_utf8_first)], narrowed := true }
def BatchRightsUptoSaid : Prop := batchRightsUptoRow.holds Tryd.pinned (OpenSpec.upto batchRightsSpec)

/-- 'cachepotlaw5.BatchLays', WHERE WHAT IT READS IS OF BULK AT MOST 1048576: true; the input reads as it did. -/
def batchLaysUptoRow : OpenClaim := { program := "ytnmdjmfpihcglaadoor", sum := "aba306f8273d7be76f013f4b6db56e9209092ba7e584022ef86d820b099bd177", func := "cachepot/cachepotlaw5.BatchLays", spec := "batchLays", inPlace := ["internal/abi.NoEscape"], named := ["unicode/utf8.first", "unicode/utf8.acceptRanges"], apart := false, laid := [("unicode/utf8.acceptRanges", laid_unicode_utf8_acceptRanges), ("unicode/utf8.first", laid_unicode_utf8_first)], narrowed := true }
def BatchLaysUptoSaid : Prop := batchLaysUptoRow.holds Tryd.pinned (OpenSpec.upto batchLaysSpec)

/-- 'cachepotlaw5.BatchReads', WHERE WHAT IT READS IS OF BULK AT MOST 1048576: true; the input reads as it did. -/
def batchReadsUptoRow : OpenClaim := { program := "ytnmdjmfpihcglaadoor", sum := "aba306f8273d7be76f013f4b6db56e9209092ba7e584022ef86d820b099bd177", func := "cachepot/cachepotlaw5.BatchReads", spec := "batchReads", inPlace := ["internal/abi.NoEscape"], named := ["unicode/utf8.first", "unicode/utf8.acceptRanges"], apart := false, laid := [("unicode/utf8.acceptRanges", laid_unicode_utf8_acceptRanges), ("unicode/utf8.first", laid_unicode_utf8_first)], narrowed := true }
def BatchReadsUptoSaid : Prop := batchReadsUptoRow.holds Tryd.pinned (OpenSpec.upto batchReadsSpec)

/-- 'cachepotlaw5.BatchBent', WHERE WHAT IT READS IS OF BULK AT MOST 1048576: true; the input reads as it did. -/
def batchBentUptoRow : OpenClaim := { program := "ytnmdjmfpihcglaadoor", sum := "aba306f8273d7be76f013f4b6db56e9209092ba7e584022ef86d820b099bd177", func := "cachepot/cachepotlaw5.BatchBent", spec := "batchBent", inPlace := ["internal/abi.NoEscape"], named := ["unicode/utf8.first", "unicode/utf8.acceptRanges"], apart := false, laid := [("unicode/utf8.acceptRanges", laid_unicode_utf8_acceptRanges), ("unicode/utf8.first", laid_unicode_utf8_first)], narrowed := true }
def BatchBentUptoSaid : Prop := batchBentUptoRow.holds Tryd.pinned (OpenSpec.upto batchBentSpec)

/-- 'cachepotlaw5.BatchFinds', WHERE WHAT IT READS IS OF BULK AT MOST 1048576: true; the input reads as it did. -/
def batchFindsUptoRow : OpenClaim := { program := "ytnmdjmfpihcglaadoor", sum := "aba306f8273d7be76f013f4b6db56e9209092ba7e584022ef86d820b099bd177", func := "cachepot/cachepotlaw5.BatchFinds", spec := "batchFinds", inPlace := ["internal/abi.NoEscape", "internal/bytealg.abigen_runtime_cmpstring"], unfollowed := true, recurses := true, named := ["unicode/utf8.first", "unicode/utf8.acceptRanges"], apart := false, laid := [("unicode/utf8.acceptRanges", laid_unicode_utf8_acceptRanges), ("unicode/utf8.first", laid_unicode_utf8_first)], narrowed := true }
def BatchFindsUptoSaid : Prop := batchFindsUptoRow.holds Tryd.pinned (OpenSpec.upto batchFindsSpec)

/-- 'cachepotlaw5.BatchMakes', WHERE WHAT IT READS IS OF BULK AT MOST 1048576: true; the input reads as it did. -/
def batchMakesUptoRow : OpenClaim := { program := "ytnmdjmfpihcglaadoor", sum := "aba306f8273d7be76f013f4b6db56e9209092ba7e584022ef86d820b099bd177", func := "cachepot/cachepotlaw5.BatchMakes", spec := "batchMakes", inPlace := ["internal/bytealg.abigen_runtime_cmpstring", "internal/abi.NoEscape"], unfollowed := true, recurses := true, named := ["unicode/utf8.first", "unicode/utf8.acceptRanges"], apart := false, laid := [("unicode/utf8.acceptRanges", laid_unicode_utf8_acceptRanges), ("unicode/utf8.first", laid_unicode_utf8_first)], narrowed := true }
def BatchMakesUptoSaid : Prop := batchMakesUptoRow.holds Tryd.pinned (OpenSpec.upto batchMakesSpec)

/-- 'cachepotlaw5.BatchBack', WHERE WHAT IT READS IS OF BULK AT MOST 1048576: true; the input reads as it did. -/
def batchBackUptoRow : OpenClaim := { program := "ytnmdjmfpihcglaadoor", sum := "aba306f8273d7be76f013f4b6db56e9209092ba7e584022ef86d820b099bd177", func := "cachepot/cachepotlaw5.BatchBack", spec := "batchBack", inPlace := ["internal/abi.NoEscape", "internal/bytealg.abigen_runtime_cmpstring"], unfollowed := true, recurses := true, named := ["unicode/utf8.first", "unicode/utf8.acceptRanges"], apart := false, laid := [("unicode/utf8.acceptRanges", laid_unicode_utf8_acceptRanges), ("unicode/utf8.first", laid_unicode_utf8_first)], narrowed := true }
def BatchBackUptoSaid : Prop := batchBackUptoRow.holds Tryd.pinned (OpenSpec.upto batchBackSpec)

end Rows
end Go.Proofs.YtnmdjmfpihcglaaDoor
