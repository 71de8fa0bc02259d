/-
  NARROWER THAN 'FOR EVERY INPUT', by the rows' own cells (each row's printed sentence says how): KeysRight: laid · KeysHeads: laid · KeysBytes: laid · KeysJoins: laid · KeysOrder: laid · KeysChain: laid · KeysSorts: laid.
  DERIVED. THE GIVEN ROWS OF THIS SEAT. 7 by the template 'for every input the law returns true; each argument reads behind the call as it read before'; 0 by the template 'total and deterministic' (their statements: YtlhcebhalhgmaaaDoorTotals.lean).
  GIVEN WITH THE SEED: the statements are not yours to turn. If you find one false, say at which input.
  Laid BY PROGRAM, IN A SANDBOX (cutbox-rows.mjs): the forced cells as the released guide's own fill.sh prints them over the translation a4783fbffb79a420… (all of the seat's roots in one cut). By AI agents, Wed Nov 11 2026. No macro, syntax, notation, axiom, sorry.
-/
import Derived.Test.YtlhcebhalhgmaaaDoorChecked
import GoSem.PinnedTables
import GoSem.Claim
import GoSem.ClaimJoined
import GoSem.ClaimMapViews
import Derived.JoinedTies
import Derived.KernelRfl
namespace Go.Proofs.YtlhcebhalhgmaaaDoor
/- THE CELL 'sum', in the pinned program and in every row, IS THE sha256 OF THE DUMP (.gsa) THAT YtlhcebhalhgmaaaDoorProg.lean LOADS. Nothing in Lean hashes anything: it is a label: what it is worth is what the hold of that sum in a sandbox is worth. -/
noncomputable def Tryd.pinned : Pinned := { name := "ytlhcebhalhgmaaadoor", sum := "a4783fbffb79a420c7e6ec2cdc15193df3893b48deaae64938db7fc97a050e30", checked := Tryd.checked }
namespace Rows
def none {H : Type} : Left H := { results := [], args := [] }

/- WHAT THE LISTED PACKAGE-LEVEL VARIABLES READ AS WHEN THE CALL BEGINS. Each datum BY PROGRAM (the guide's laid-datum.mjs) off the statement by which the dump's own 'gosem.cut.vars' lays the variable. In a bare row this is a premise. The card (YtlhcebhalhgmaaaDoorCards.lean) ties it to the program's text. -/
def laid_unicode_utf8_acceptRanges {H : Type} : DataW H := .agg [.agg [.lit (.int .u8 128), .lit (.int .u8 191)], .agg [.lit (.int .u8 160), .lit (.int .u8 191)], .agg [.lit (.int .u8 128), .lit (.int .u8 159)], .agg [.lit (.int .u8 144), .lit (.int .u8 191)], .agg [.lit (.int .u8 128), .lit (.int .u8 143)], .agg [.lit (.int .u8 0), .lit (.int .u8 0)], .agg [.lit (.int .u8 0), .lit (.int .u8 0)], .agg [.lit (.int .u8 0), .lit (.int .u8 0)], .agg [.lit (.int .u8 0), .lit (.int .u8 0)], .agg [.lit (.int .u8 0), .lit (.int .u8 0)], .agg [.lit (.int .u8 0), .lit (.int .u8 0)], .agg [.lit (.int .u8 0), .lit (.int .u8 0)], .agg [.lit (.int .u8 0), .lit (.int .u8 0)], .agg [.lit (.int .u8 0), .lit (.int .u8 0)], .agg [.lit (.int .u8 0), .lit (.int .u8 0)], .agg [.lit (.int .u8 0), .lit (.int .u8 0)]]
/-- One of Go's own tables, pinned by name: the form's constant. -/
def laid_unicode_utf8_first : DataW Unit := Go.Pinned.utf8First

/-- 'cachepotlaw2.KeysRight': WHATEVER THE INPUT: true; the input reads as it did. -/
def keysRightSpec : ChangeSpec := { name := "keysRight", fn := fun _ => fun
  | [d] => { results := [.lit (.bool true)], args := [d] }
  | _ => none }
def keysRightRow : OpenClaim := { program := "ytlhcebhalhgmaaadoor", sum := "a4783fbffb79a420c7e6ec2cdc15193df3893b48deaae64938db7fc97a050e30", func := "cachepot/cachepotlaw2.KeysRight", spec := "keysRight", named := ["unicode/utf8.first", "unicode/utf8.acceptRanges"], apart := false, laid := [("unicode/utf8.acceptRanges", laid_unicode_utf8_acceptRanges), ("unicode/utf8.first", laid_unicode_utf8_first)] }
def KeysRightSaid : Prop := keysRightRow.holds Tryd.pinned (OpenSpec.ofChange keysRightSpec)

/-- ITS FALSE NEIGHBOUR: 'it returns false'. Refute it at one input. -/
def keysRightWrong : ChangeSpec := { name := "keysRight", fn := fun _ => fun
  | [d] => { results := [.lit (.bool false)], args := [d] }
  | _ => none }
def KeysRightWrongFalsely : Prop := keysRightRow.holds Tryd.pinned (OpenSpec.ofChange keysRightWrong)

/-- 'cachepotlaw2.KeysHeads': WHATEVER THE INPUT: true; the input reads as it did. -/
def keysHeadsSpec : ChangeSpec := { name := "keysHeads", fn := fun _ => fun
  | [d1, d2] => { results := [.lit (.bool true)], args := [d1, d2] }
  | _ => none }
def keysHeadsRow : OpenClaim := { program := "ytlhcebhalhgmaaadoor", sum := "a4783fbffb79a420c7e6ec2cdc15193df3893b48deaae64938db7fc97a050e30", func := "cachepot/cachepotlaw2.KeysHeads", spec := "keysHeads", named := ["unicode/utf8.first", "unicode/utf8.acceptRanges"], apart := false, laid := [("unicode/utf8.acceptRanges", laid_unicode_utf8_acceptRanges), ("unicode/utf8.first", laid_unicode_utf8_first)] }
def KeysHeadsSaid : Prop := keysHeadsRow.holds Tryd.pinned (OpenSpec.ofChange keysHeadsSpec)

/-- ITS FALSE NEIGHBOUR: 'it returns false'. Refute it at one input. -/
def keysHeadsWrong : ChangeSpec := { name := "keysHeads", fn := fun _ => fun
  | [d1, d2] => { results := [.lit (.bool false)], args := [d1, d2] }
  | _ => none }
def KeysHeadsWrongFalsely : Prop := keysHeadsRow.holds Tryd.pinned (OpenSpec.ofChange keysHeadsWrong)

/-- 'cachepotlaw2.KeysBytes': WHATEVER THE INPUT: true; the input reads as it did. -/
def keysBytesSpec : ChangeSpec := { name := "keysBytes", fn := fun _ => fun
  | [d1, d2, d3] => { results := [.lit (.bool true)], args := [d1, d2, d3] }
  | _ => none }
def keysBytesRow : OpenClaim := { program := "ytlhcebhalhgmaaadoor", sum := "a4783fbffb79a420c7e6ec2cdc15193df3893b48deaae64938db7fc97a050e30", func := "cachepot/cachepotlaw2.KeysBytes", spec := "keysBytes", named := ["unicode/utf8.first", "unicode/utf8.acceptRanges"], apart := false, laid := [("unicode/utf8.acceptRanges", laid_unicode_utf8_acceptRanges), ("unicode/utf8.first", laid_unicode_utf8_first)] }
def KeysBytesSaid : Prop := keysBytesRow.holds Tryd.pinned (OpenSpec.ofChange keysBytesSpec)

/-- ITS FALSE NEIGHBOUR: 'it returns false'. Refute it at one input. -/
def keysBytesWrong : ChangeSpec := { name := "keysBytes", fn := fun _ => fun
  | [d1, d2, d3] => { results := [.lit (.bool false)], args := [d1, d2, d3] }
  | _ => none }
def KeysBytesWrongFalsely : Prop := keysBytesRow.holds Tryd.pinned (OpenSpec.ofChange keysBytesWrong)

/-- 'cachepotlaw2.KeysJoins': WHATEVER THE INPUT: true; the input reads as it did. -/
def keysJoinsSpec : ChangeSpec := { name := "keysJoins", fn := fun _ => fun
  | [d1, d2] => { results := [.lit (.bool true)], args := [d1, d2] }
  | _ => none }
def keysJoinsRow : OpenClaim := { program := "ytlhcebhalhgmaaadoor", sum := "a4783fbffb79a420c7e6ec2cdc15193df3893b48deaae64938db7fc97a050e30", func := "cachepot/cachepotlaw2.KeysJoins", spec := "keysJoins", named := ["unicode/utf8.first", "unicode/utf8.acceptRanges"], apart := false, laid := [("unicode/utf8.acceptRanges", laid_unicode_utf8_acceptRanges), ("unicode/utf8.first", laid_unicode_utf8_first)] }
def KeysJoinsSaid : Prop := keysJoinsRow.holds Tryd.pinned (OpenSpec.ofChange keysJoinsSpec)

/-- ITS FALSE NEIGHBOUR: 'it returns false'. Refute it at one input. -/
def keysJoinsWrong : ChangeSpec := { name := "keysJoins", fn := fun _ => fun
  | [d1, d2] => { results := [.lit (.bool false)], args := [d1, d2] }
  | _ => none }
def KeysJoinsWrongFalsely : Prop := keysJoinsRow.holds Tryd.pinned (OpenSpec.ofChange keysJoinsWrong)

/-- 'cachepotlaw2.KeysOrder': WHATEVER THE INPUT: true; the input reads as it did. -/
def keysOrderSpec : ChangeSpec := { name := "keysOrder", fn := fun _ => fun
  | [d1, d2] => { results := [.lit (.bool true)], args := [d1, d2] }
  | _ => none }
def keysOrderRow : OpenClaim := { program := "ytlhcebhalhgmaaadoor", sum := "a4783fbffb79a420c7e6ec2cdc15193df3893b48deaae64938db7fc97a050e30", func := "cachepot/cachepotlaw2.KeysOrder", spec := "keysOrder", named := ["unicode/utf8.first", "unicode/utf8.acceptRanges"], apart := false, laid := [("unicode/utf8.acceptRanges", laid_unicode_utf8_acceptRanges), ("unicode/utf8.first", laid_unicode_utf8_first)] }
def KeysOrderSaid : Prop := keysOrderRow.holds Tryd.pinned (OpenSpec.ofChange keysOrderSpec)

/-- ITS FALSE NEIGHBOUR: 'it returns false'. Refute it at one input. -/
def keysOrderWrong : ChangeSpec := { name := "keysOrder", fn := fun _ => fun
  | [d1, d2] => { results := [.lit (.bool false)], args := [d1, d2] }
  | _ => none }
def KeysOrderWrongFalsely : Prop := keysOrderRow.holds Tryd.pinned (OpenSpec.ofChange keysOrderWrong)

/-- 'cachepotlaw2.KeysChain': WHATEVER THE INPUT: true; the input reads as it did. -/
def keysChainSpec : ChangeSpec := { name := "keysChain", fn := fun _ => fun
  | [d1, d2, d3] => { results := [.lit (.bool true)], args := [d1, d2, d3] }
  | _ => none }
def keysChainRow : OpenClaim := { program := "ytlhcebhalhgmaaadoor", sum := "a4783fbffb79a420c7e6ec2cdc15193df3893b48deaae64938db7fc97a050e30", func := "cachepot/cachepotlaw2.KeysChain", spec := "keysChain", named := ["unicode/utf8.first", "unicode/utf8.acceptRanges"], apart := false, laid := [("unicode/utf8.acceptRanges", laid_unicode_utf8_acceptRanges), ("unicode/utf8.first", laid_unicode_utf8_first)] }
def KeysChainSaid : Prop := keysChainRow.holds Tryd.pinned (OpenSpec.ofChange keysChainSpec)

/-- ITS FALSE NEIGHBOUR: 'it returns false'. Refute it at one input. -/
def keysChainWrong : ChangeSpec := { name := "keysChain", fn := fun _ => fun
  | [d1, d2, d3] => { results := [.lit (.bool false)], args := [d1, d2, d3] }
  | _ => none }
def KeysChainWrongFalsely : Prop := keysChainRow.holds Tryd.pinned (OpenSpec.ofChange keysChainWrong)

/-- 'cachepotlaw2.KeysSorts': WHATEVER THE INPUT: true; the input reads as it did. -/
def keysSortsSpec : ChangeSpec := { name := "keysSorts", fn := fun _ => fun
  | [d] => { results := [.lit (.bool true)], args := [d] }
  | _ => none }
def keysSortsRow : OpenClaim := { program := "ytlhcebhalhgmaaadoor", sum := "a4783fbffb79a420c7e6ec2cdc15193df3893b48deaae64938db7fc97a050e30", func := "cachepot/cachepotlaw2.KeysSorts", spec := "keysSorts", inPlace := ["internal/bytealg.abigen_runtime_cmpstring"], unfollowed := true, recurses := true, named := ["unicode/utf8.first", "unicode/utf8.acceptRanges"], apart := false, laid := [("unicode/utf8.acceptRanges", laid_unicode_utf8_acceptRanges), ("unicode/utf8.first", laid_unicode_utf8_first)] }
def KeysSortsSaid : Prop := keysSortsRow.holds Tryd.pinned (OpenSpec.ofChange keysSortsSpec)

/-- ITS FALSE NEIGHBOUR: 'it returns false'. Refute it at one input. -/
def keysSortsWrong : ChangeSpec := { name := "keysSorts", fn := fun _ => fun
  | [d] => { results := [.lit (.bool false)], args := [d] }
  | _ => none }
def KeysSortsWrongFalsely : Prop := keysSortsRow.holds Tryd.pinned (OpenSpec.ofChange keysSortsWrong)

/- THE SECOND FORM. 'bulk': how many values and letters a reading holds, each counted each time it is reached (what is shared counts as often as it is met; a slice's spare places count too). A statement '..UptoSaid' is the law's where the arguments, and the package variables that the reading takes, are together of bulk at most 1048576: NARROWER than '..Said'. Prove '..Said' where nothing that the law and all that it calls make is longer than what came in: it says more and counts as full. Else prove '..UptoSaid'. A law counts once. -/
mutual
def uptoBulk {H : Type} : DataW H → Nat
  | .lit (.string bytes) => bytes.length + 1
  | .lit _ => 1
  | .nil => 1
  | .ptr d => uptoBulk d + 1
  | .slice elems spare => uptoBulkAll elems + uptoBulkAll spare + 1
  | .agg parts => uptoBulkAll parts + 1
  | .iface _ d => uptoBulk d + 1
  | .map entries => uptoBulkEntries entries + 1
  | .held _ => 1
def uptoBulkAll {H : Type} : List (DataW H) → Nat
  | [] => 0
  | d :: r => uptoBulk d + uptoBulkAll r
def uptoBulkEntries {H : Type} : List (Lit × DataW H) → Nat
  | [] => 0
  | x :: r => uptoBulkEntry x + uptoBulkEntries r
def uptoBulkEntry {H : Type} : Lit × DataW H → Nat
  | (.string bytes, d) => bytes.length + uptoBulk d + 1
  | (_, d) => uptoBulk d + 1
 end
def uptoSmall : (H : Type) → List (DataW H) → Bool := fun _ ds => decide (uptoBulkAll ds ≤ 1048576)
def OpenSpec.upto (s : _root_.Go.ChangeSpec) : _root_.Go.OpenSpec := { _root_.Go.OpenSpec.ofChange s with cond := some uptoSmall }

/-- 'cachepotlaw2.KeysRight', WHERE WHAT IT READS IS OF BULK AT MOST 1048576: true; the input reads as it did. -/
def keysRightUptoRow : OpenClaim := { program := "ytlhcebhalhgmaaadoor", sum := "a4783fbffb79a420c7e6ec2cdc15193df3893b48deaae64938db7fc97a050e30", func := "cachepot/cachepotlaw2.KeysRight", spec := "keysRight", named := ["unicode/utf8.first", "unicode/utf8.acceptRanges"], apart := false, laid := [("unicode/utf8.acceptRanges", laid_unicode_utf8_acceptRanges), ("unicode/utf8.first", laid_unicode_utf8_first)], narrowed := true }
def KeysRightUptoSaid : Prop := keysRightUptoRow.holds Tryd.pinned (OpenSpec.upto keysRightSpec)

/-- 'cachepotlaw2.KeysHeads', WHERE WHAT IT READS IS OF BULK AT MOST 1048576: true; the input reads as it did. -/
def keysHeadsUptoRow : OpenClaim := { program := "ytlhcebhalhgmaaadoor", sum := "a4783fbffb79a420c7e6ec2cdc15193df3893b48deaae64938db7fc97a050e30", func := "cachepot/cachepotlaw2.KeysHeads", spec := "keysHeads", named := ["unicode/utf8.first", "unicode/utf8.acceptRanges"], apart := false, laid := [("unicode/utf8.acceptRanges", laid_unicode_utf8_acceptRanges), ("unicode/utf8.first", laid_unicode_utf8_first)], narrowed := true }
def KeysHeadsUptoSaid : Prop := keysHeadsUptoRow.holds Tryd.pinned (OpenSpec.upto keysHeadsSpec)

/-- 'cachepotlaw2.KeysBytes', WHERE WHAT IT READS IS OF BULK AT MOST 1048576: true; the input reads as it did. -/
def keysBytesUptoRow : OpenClaim := { program := "ytlhcebhalhgmaaadoor", sum := "a4783fbffb79a420c7e6ec2cdc15193df3893b48deaae64938db7fc97a050e30", func := "cachepot/cachepotlaw2.KeysBytes", spec := "keysBytes", named := ["unicode/utf8.first", "unicode/utf8.acceptRanges"], apart := false, laid := [("unicode/utf8.acceptRanges", laid_unicode_utf8_acceptRanges), ("unicode/utf8.first", laid_unicode_utf8_first)], narrowed := true }
def KeysBytesUptoSaid : Prop := keysBytesUptoRow.holds Tryd.pinned (OpenSpec.upto keysBytesSpec)

/-- 'cachepotlaw2.KeysJoins', WHERE WHAT IT READS IS OF BULK AT MOST 1048576: true; the input reads as it did. -/
def keysJoinsUptoRow : OpenClaim := { program := "ytlhcebhalhgmaaadoor", sum := "a4783fbffb79a420c7e6ec2cdc15193df3893b48deaae64938db7fc97a050e30", func := "cachepot/cachepotlaw2.KeysJoins", spec := "keysJoins", named := ["unicode/utf8.first", "unicode/utf8.acceptRanges"], apart := false, laid := [("unicode/utf8.acceptRanges", laid_unicode_utf8_acceptRanges), ("unicode/utf8.first", laid_unicode_utf8_first)], narrowed := true }
def KeysJoinsUptoSaid : Prop := keysJoinsUptoRow.holds Tryd.pinned (OpenSpec.upto keysJoinsSpec)

/-- 'cachepotlaw2.KeysOrder', WHERE WHAT IT READS IS OF BULK AT MOST 1048576: true; the input reads as it did. -/
def keysOrderUptoRow : OpenClaim := { program := "ytlhcebhalhgmaaadoor", sum := "a4783fbffb79a420c7e6ec2cdc15193df3893b48deaae64938db7fc97a050e30", func := "cachepot/cachepotlaw2.KeysOrder", spec := "keysOrder", named := ["unicode/utf8.first", "unicode/utf8.acceptRanges"], apart := false, laid := [("unicode/utf8.acceptRanges", laid_unicode_utf8_acceptRanges), ("unicode/utf8.first", laid_unicode_utf8_first)], narrowed := true }
def KeysOrderUptoSaid : Prop := keysOrderUptoRow.holds Tryd.pinned (OpenSpec.upto keysOrderSpec)

/-- 'cachepotlaw2.KeysChain', WHERE WHAT IT READS IS OF BULK AT MOST 1048576: true; the input reads as it did. -/
def keysChainUptoRow : OpenClaim := { program := "ytlhcebhalhgmaaadoor", sum := "a4783fbffb79a420c7e6ec2cdc15193df3893b48deaae64938db7fc97a050e30", func := "cachepot/cachepotlaw2.KeysChain", spec := "keysChain", named := ["unicode/utf8.first", "unicode/utf8.acceptRanges"], apart := false, laid := [("unicode/utf8.acceptRanges", laid_unicode_utf8_acceptRanges), ("unicode/utf8.first", laid_unicode_utf8_first)], narrowed := true }
def KeysChainUptoSaid : Prop := keysChainUptoRow.holds Tryd.pinned (OpenSpec.upto keysChainSpec)

/-- 'cachepotlaw2.KeysSorts', WHERE WHAT IT READS IS OF BULK AT MOST 1048576: true; the input reads as it did. -/
def keysSortsUptoRow : OpenClaim := { program := "ytlhcebhalhgmaaadoor", sum := "a4783fbffb79a420c7e6ec2cdc15193df3893b48deaae64938db7fc97a050e30", func := "cachepot/cachepotlaw2.KeysSorts", spec := "keysSorts", inPlace := ["internal/bytealg.abigen_runtime_cmpstring"], unfollowed := true, recurses := true, named := ["unicode/utf8.first", "unicode/utf8.acceptRanges"], apart := false, laid := [("unicode/utf8.acceptRanges", laid_unicode_utf8_acceptRanges), ("unicode/utf8.first", laid_unicode_utf8_first)], narrowed := true }
def KeysSortsUptoSaid : Prop := keysSortsUptoRow.holds Tryd.pinned (OpenSpec.upto keysSortsSpec)

end Rows
end Go.Proofs.YtlhcebhalhgmaaaDoor
