/-
  NARROWER THAN 'FOR EVERY INPUT', by the rows' own cells (each row's printed sentence says how): ChainKeeps: laid · ChainRaw: laid · ChainLinks: laid · ChainOrder: laid · ChainFloor: laid.
  DERIVED. THE GIVEN ROWS OF THIS SEAT. 5 by the template 'for every input the law returns true; each argument reads behind the call as it read before'; 0 by the template 'total and deterministic' (their statements: YthoimblkpcikdaaGreatDoorTotals.lean).
  GIVEN WITH THE SEED: the statements are not yours to turn. If you find one false, say at which input.
  Laid BY PROGRAM, IN A SANDBOX (cutbox-rows.mjs): the forced cells as the released guide's own fill.sh prints them over the translation a0de840a9c3cc3bf… (all of the seat's roots in one cut). By AI agents, Wed Nov 11 2026. No macro, syntax, notation, axiom, sorry.
-/
import Derived.Test.YthoimblkpcikdaaGreatDoorChecked
import GoSem.PinnedTables
import GoSem.Claim
import GoSem.ClaimJoined
import GoSem.ClaimMapViews
import Derived.JoinedTies
import Derived.KernelRfl
namespace Go.Proofs.YthoimblkpcikdaaGreatDoor
/- THE CELL 'sum', in the pinned program and in every row, IS THE sha256 OF THE DUMP (.gsa) THAT YthoimblkpcikdaaGreatDoorProg.lean LOADS. Nothing in Lean hashes anything: it is a label: what it is worth is what the hold of that sum in a sandbox is worth. -/
noncomputable def Tryz.pinned : Pinned := { name := "ythoimblkpcikdaagreatdoor", sum := "a0de840a9c3cc3bf5baf6e4ecaa98d66a0948e7e8d1aba4f2ee6eb4449a34c77", checked := Tryz.checked }
namespace Rows
def none {H : Type} : Left H := { results := [], args := [] }

/- WHAT THE LISTED PACKAGE-LEVEL VARIABLES READ AS WHEN THE CALL BEGINS. Each datum BY PROGRAM (the guide's laid-datum.mjs) off the statement by which the dump's own 'gosem.cut.vars' lays the variable. In a bare row this is a premise. The card (YthoimblkpcikdaaGreatDoorCards.lean) ties it to the program's text. -/
def laid_cachepot_cachepothand_names {H : Type} : DataW H := .agg [.lit (.string [97]), .lit (.string [98]), .lit (.string [99]), .lit (.string [97, 98]), .lit (.string [107, 49]), .lit (.string [107, 50]), .lit (.string [107, 51]), .lit (.string [195, 169]), .lit (.string [195, 169, 97]), .lit (.string [240, 159, 152, 128]), .lit (.string [42]), .lit (.string [122, 122])]
def laid_unicode_utf8_acceptRanges {H : Type} : DataW H := .agg [.agg [.lit (.int .u8 128), .lit (.int .u8 191)], .agg [.lit (.int .u8 160), .lit (.int .u8 191)], .agg [.lit (.int .u8 128), .lit (.int .u8 159)], .agg [.lit (.int .u8 144), .lit (.int .u8 191)], .agg [.lit (.int .u8 128), .lit (.int .u8 143)], .agg [.lit (.int .u8 0), .lit (.int .u8 0)], .agg [.lit (.int .u8 0), .lit (.int .u8 0)], .agg [.lit (.int .u8 0), .lit (.int .u8 0)], .agg [.lit (.int .u8 0), .lit (.int .u8 0)], .agg [.lit (.int .u8 0), .lit (.int .u8 0)], .agg [.lit (.int .u8 0), .lit (.int .u8 0)], .agg [.lit (.int .u8 0), .lit (.int .u8 0)], .agg [.lit (.int .u8 0), .lit (.int .u8 0)], .agg [.lit (.int .u8 0), .lit (.int .u8 0)], .agg [.lit (.int .u8 0), .lit (.int .u8 0)], .agg [.lit (.int .u8 0), .lit (.int .u8 0)]]
/-- One of Go's own tables, pinned by name: the form's constant. -/
def laid_unicode_utf8_first : DataW Unit := Go.Pinned.utf8First

/-- 'cachepotlaw14.ChainKeeps': WHATEVER THE INPUT: true; the input reads as it did. -/
def chainKeepsSpec : ChangeSpec := { name := "chainKeeps", fn := fun _ => fun
  | [d1, d2, d3, d4] => { results := [.lit (.bool true)], args := [d1, d2, d3, d4] }
  | _ => none }
def chainKeepsRow : OpenClaim := { program := "ythoimblkpcikdaagreatdoor", sum := "a0de840a9c3cc3bf5baf6e4ecaa98d66a0948e7e8d1aba4f2ee6eb4449a34c77", func := "cachepot/cachepotlaw14.ChainKeeps", spec := "chainKeeps", inPlace := ["internal/abi.NoEscape"], unfollowed := true, recurses := true, named := ["cachepot/cachepothand.names", "unicode/utf8.first", "unicode/utf8.acceptRanges"], apart := false, laid := [("cachepot/cachepothand.names", laid_cachepot_cachepothand_names), ("unicode/utf8.acceptRanges", laid_unicode_utf8_acceptRanges), ("unicode/utf8.first", laid_unicode_utf8_first)] }
def ChainKeepsSaid : Prop := chainKeepsRow.holds Tryz.pinned (OpenSpec.ofChange chainKeepsSpec)

/-- ITS FALSE NEIGHBOUR: 'it returns false'. Refute it at one input. -/
def chainKeepsWrong : ChangeSpec := { name := "chainKeeps", fn := fun _ => fun
  | [d1, d2, d3, d4] => { results := [.lit (.bool false)], args := [d1, d2, d3, d4] }
  | _ => none }
def ChainKeepsWrongFalsely : Prop := chainKeepsRow.holds Tryz.pinned (OpenSpec.ofChange chainKeepsWrong)

/-- 'cachepotlaw14.ChainRaw': WHATEVER THE INPUT: true; the input reads as it did. -/
def chainRawSpec : ChangeSpec := { name := "chainRaw", fn := fun _ => fun
  | [d1, d2, d3] => { results := [.lit (.bool true)], args := [d1, d2, d3] }
  | _ => none }
def chainRawRow : OpenClaim := { program := "ythoimblkpcikdaagreatdoor", sum := "a0de840a9c3cc3bf5baf6e4ecaa98d66a0948e7e8d1aba4f2ee6eb4449a34c77", func := "cachepot/cachepotlaw14.ChainRaw", spec := "chainRaw", inPlace := ["internal/abi.NoEscape"], unfollowed := true, recurses := true, named := ["cachepot/cachepothand.names", "unicode/utf8.first", "unicode/utf8.acceptRanges"], apart := false, laid := [("cachepot/cachepothand.names", laid_cachepot_cachepothand_names), ("unicode/utf8.acceptRanges", laid_unicode_utf8_acceptRanges), ("unicode/utf8.first", laid_unicode_utf8_first)] }
def ChainRawSaid : Prop := chainRawRow.holds Tryz.pinned (OpenSpec.ofChange chainRawSpec)

/-- ITS FALSE NEIGHBOUR: 'it returns false'. Refute it at one input. -/
def chainRawWrong : ChangeSpec := { name := "chainRaw", fn := fun _ => fun
  | [d1, d2, d3] => { results := [.lit (.bool false)], args := [d1, d2, d3] }
  | _ => none }
def ChainRawWrongFalsely : Prop := chainRawRow.holds Tryz.pinned (OpenSpec.ofChange chainRawWrong)

/-- 'cachepotlaw14.ChainLinks': WHATEVER THE INPUT: true; the input reads as it did. -/
def chainLinksSpec : ChangeSpec := { name := "chainLinks", fn := fun _ => fun
  | [d1, d2, d3] => { results := [.lit (.bool true)], args := [d1, d2, d3] }
  | _ => none }
def chainLinksRow : OpenClaim := { program := "ythoimblkpcikdaagreatdoor", sum := "a0de840a9c3cc3bf5baf6e4ecaa98d66a0948e7e8d1aba4f2ee6eb4449a34c77", func := "cachepot/cachepotlaw14.ChainLinks", spec := "chainLinks", inPlace := ["internal/abi.NoEscape"], unfollowed := true, recurses := true, named := ["cachepot/cachepothand.names", "unicode/utf8.first", "unicode/utf8.acceptRanges"], apart := false, laid := [("cachepot/cachepothand.names", laid_cachepot_cachepothand_names), ("unicode/utf8.acceptRanges", laid_unicode_utf8_acceptRanges), ("unicode/utf8.first", laid_unicode_utf8_first)] }
def ChainLinksSaid : Prop := chainLinksRow.holds Tryz.pinned (OpenSpec.ofChange chainLinksSpec)

/-- ITS FALSE NEIGHBOUR: 'it returns false'. Refute it at one input. -/
def chainLinksWrong : ChangeSpec := { name := "chainLinks", fn := fun _ => fun
  | [d1, d2, d3] => { results := [.lit (.bool false)], args := [d1, d2, d3] }
  | _ => none }
def ChainLinksWrongFalsely : Prop := chainLinksRow.holds Tryz.pinned (OpenSpec.ofChange chainLinksWrong)

/-- 'cachepotlaw14.ChainOrder': WHATEVER THE INPUT: true; the input reads as it did. -/
def chainOrderSpec : ChangeSpec := { name := "chainOrder", fn := fun _ => fun
  | [d1, d2, d3] => { results := [.lit (.bool true)], args := [d1, d2, d3] }
  | _ => none }
def chainOrderRow : OpenClaim := { program := "ythoimblkpcikdaagreatdoor", sum := "a0de840a9c3cc3bf5baf6e4ecaa98d66a0948e7e8d1aba4f2ee6eb4449a34c77", func := "cachepot/cachepotlaw14.ChainOrder", spec := "chainOrder", inPlace := ["internal/abi.NoEscape"], unfollowed := true, recurses := true, named := ["cachepot/cachepothand.names", "unicode/utf8.first", "unicode/utf8.acceptRanges"], apart := false, laid := [("cachepot/cachepothand.names", laid_cachepot_cachepothand_names), ("unicode/utf8.acceptRanges", laid_unicode_utf8_acceptRanges), ("unicode/utf8.first", laid_unicode_utf8_first)] }
def ChainOrderSaid : Prop := chainOrderRow.holds Tryz.pinned (OpenSpec.ofChange chainOrderSpec)

/-- ITS FALSE NEIGHBOUR: 'it returns false'. Refute it at one input. -/
def chainOrderWrong : ChangeSpec := { name := "chainOrder", fn := fun _ => fun
  | [d1, d2, d3] => { results := [.lit (.bool false)], args := [d1, d2, d3] }
  | _ => none }
def ChainOrderWrongFalsely : Prop := chainOrderRow.holds Tryz.pinned (OpenSpec.ofChange chainOrderWrong)

/-- 'cachepotlaw14.ChainFloor': WHATEVER THE INPUT: true; the input reads as it did. -/
def chainFloorSpec : ChangeSpec := { name := "chainFloor", fn := fun _ => fun
  | [d1, d2, d3, d4] => { results := [.lit (.bool true)], args := [d1, d2, d3, d4] }
  | _ => none }
def chainFloorRow : OpenClaim := { program := "ythoimblkpcikdaagreatdoor", sum := "a0de840a9c3cc3bf5baf6e4ecaa98d66a0948e7e8d1aba4f2ee6eb4449a34c77", func := "cachepot/cachepotlaw14.ChainFloor", spec := "chainFloor", inPlace := ["internal/abi.NoEscape"], unfollowed := true, recurses := true, named := ["cachepot/cachepothand.names", "unicode/utf8.first", "unicode/utf8.acceptRanges"], apart := false, laid := [("cachepot/cachepothand.names", laid_cachepot_cachepothand_names), ("unicode/utf8.acceptRanges", laid_unicode_utf8_acceptRanges), ("unicode/utf8.first", laid_unicode_utf8_first)] }
def ChainFloorSaid : Prop := chainFloorRow.holds Tryz.pinned (OpenSpec.ofChange chainFloorSpec)

/-- ITS FALSE NEIGHBOUR: 'it returns false'. Refute it at one input. -/
def chainFloorWrong : ChangeSpec := { name := "chainFloor", fn := fun _ => fun
  | [d1, d2, d3, d4] => { results := [.lit (.bool false)], args := [d1, d2, d3, d4] }
  | _ => none }
def ChainFloorWrongFalsely : Prop := chainFloorRow.holds Tryz.pinned (OpenSpec.ofChange chainFloorWrong)

/- THE SECOND FORM. 'bulk': how many values and letters a reading holds, each counted each time it is reached (what is shared counts as often as it is met; a slice's spare places count too). A statement '..UptoSaid' is the law's where the arguments, and the package variables that the reading takes, are together of bulk at most 1048576: NARROWER than '..Said'. Prove '..Said' where nothing that the law and all that it calls make is longer than what came in: it says more and counts as full. Else prove '..UptoSaid'. A law counts once. -/
mutual
def uptoBulk {H : Type} : DataW H → Nat
  | .lit (.string bytes) => bytes.length + 1
  | .lit _ => 1
  | .nil => 1
  | .ptr d => uptoBulk d + 1
  | .slice elems spare => uptoBulkAll elems + uptoBulkAll spare + 1
  | .agg parts => uptoBulkAll parts + 1
  | .iface _ d => uptoBulk d + 1
  | .map entries => uptoBulkEntries entries + 1
  | .held _ => 1
def uptoBulkAll {H : Type} : List (DataW H) → Nat
  | [] => 0
  | d :: r => uptoBulk d + uptoBulkAll r
def uptoBulkEntries {H : Type} : List (Lit × DataW H) → Nat
  | [] => 0
  | x :: r => uptoBulkEntry x + uptoBulkEntries r
def uptoBulkEntry {H : Type} : Lit × DataW H → Nat
  | (.string bytes, d) => bytes.length + uptoBulk d + 1
  | (_, d) => uptoBulk d + 1
 end
def uptoSmall : (H : Type) → List (DataW H) → Bool := fun _ ds => decide (uptoBulkAll ds ≤ 1048576)
def OpenSpec.upto (s : _root_.Go.ChangeSpec) : _root_.Go.OpenSpec := { _root_.Go.OpenSpec.ofChange s with cond := some uptoSmall }

/-- 'cachepotlaw14.ChainKeeps', WHERE WHAT IT READS IS OF BULK AT MOST 1048576: true; the input reads as it did. -/
def chainKeepsUptoRow : OpenClaim := { program := "ythoimblkpcikdaagreatdoor", sum := "a0de840a9c3cc3bf5baf6e4ecaa98d66a0948e7e8d1aba4f2ee6eb4449a34c77", func := "cachepot/cachepotlaw14.ChainKeeps", spec := "chainKeeps", inPlace := ["internal/abi.NoEscape"], unfollowed := true, recurses := true, named := ["cachepot/cachepothand.names", "unicode/utf8.first", "unicode/utf8.acceptRanges"], apart := false, laid := [("cachepot/cachepothand.names", laid_cachepot_cachepothand_names), ("unicode/utf8.acceptRanges", laid_unicode_utf8_acceptRanges), ("unicode/utf8.first", laid_unicode_utf8_first)], narrowed := true }
def ChainKeepsUptoSaid : Prop := chainKeepsUptoRow.holds Tryz.pinned (OpenSpec.upto chainKeepsSpec)

/-- 'cachepotlaw14.ChainRaw', WHERE WHAT IT READS IS OF BULK AT MOST 1048576: true; the input reads as it did. -/
def chainRawUptoRow : OpenClaim := { program := "ythoimblkpcikdaagreatdoor", sum := "a0de840a9c3cc3bf5baf6e4ecaa98d66a0948e7e8d1aba4f2ee6eb4449a34c77", func := "cachepot/cachepotlaw14.ChainRaw", spec := "chainRaw", inPlace := ["internal/abi.NoEscape"], unfollowed := true, recurses := true, named := ["cachepot/cachepothand.names", "unicode/utf8.first", "unicode/utf8.acceptRanges"], apart := false, laid := [("cachepot/cachepothand.names", laid_cachepot_cachepothand_names), ("unicode/utf8.acceptRanges", laid_unicode_utf8_acceptRanges), ("unicode/utf8.first", laid_unicode_utf8_first)], narrowed := true }
def ChainRawUptoSaid : Prop := chainRawUptoRow.holds Tryz.pinned (OpenSpec.upto chainRawSpec)

/-- 'cachepotlaw14.ChainLinks', WHERE WHAT IT READS IS OF BULK AT MOST 1048576: true; the input reads as it did. -/
def chainLinksUptoRow : OpenClaim := { program := "ythoimblkpcikdaagreatdoor", sum := "a0de840a9c3cc3bf5baf6e4ecaa98d66a0948e7e8d1aba4f2ee6eb4449a34c77", func := "cachepot/cachepotlaw14.ChainLinks", spec := "chainLinks", inPlace := ["internal/abi.NoEscape"], unfollowed := true, recurses := true, named := ["cachepot/cachepothand.names", "unicode/utf8.first", "unicode/utf8.acceptRanges"], apart := false, laid := [("cachepot/cachepothand.names", laid_cachepot_cachepothand_names), ("unicode/utf8.acceptRanges", laid_unicode_utf8_acceptRanges), ("unicode/utf8.first", laid_unicode_utf8_first)], narrowed := true }
def ChainLinksUptoSaid : Prop := chainLinksUptoRow.holds Tryz.pinned (OpenSpec.upto chainLinksSpec)

/-- 'cachepotlaw14.ChainOrder', WHERE WHAT IT READS IS OF BULK AT MOST 1048576: true; the input reads as it did. -/
def chainOrderUptoRow : OpenClaim := { program := "ythoimblkpcikdaagreatdoor", sum := "a0de840a9c3cc3bf5baf6e4ecaa98d66a0948e7e8d1aba4f2ee6eb4449a34c77", func := "cachepot/cachepotlaw14.ChainOrder", spec := "chainOrder", inPlace := ["internal/abi.NoEscape"], unfollowed := true, recurses := true, named := ["cachepot/cachepothand.names", "unicode/utf8.first", "unicode/utf8.acceptRanges"], apart := false, laid := [("cachepot/cachepothand.names", laid_cachepot_cachepothand_names), ("unicode/utf8.acceptRanges", laid_unicode_utf8_acceptRanges), ("unicode/utf8.first", laid_unicode_utf8_first)], narrowed := true }
def ChainOrderUptoSaid : Prop := chainOrderUptoRow.holds Tryz.pinned (OpenSpec.upto chainOrderSpec)

/-- 'cachepotlaw14.ChainFloor', WHERE WHAT IT READS IS OF BULK AT MOST 1048576: true; the input reads as it did. -/
def chainFloorUptoRow : OpenClaim := { program := "ythoimblkpcikdaagreatdoor", sum := "a0de840a9c3cc3bf5baf6e4ecaa98d66a0948e7e8d1aba4f2ee6eb4449a34c77", func := "cachepot/cachepotlaw14.ChainFloor", spec := "chainFloor", inPlace := ["internal/abi.NoEscape"], unfollowed := true, recurses := true, named := ["cachepot/cachepothand.names", "unicode/utf8.first", "unicode/utf8.acceptRanges"], apart := false, laid := [("cachepot/cachepothand.names", laid_cachepot_cachepothand_names), ("unicode/utf8.acceptRanges", laid_unicode_utf8_acceptRanges), ("unicode/utf8.first", laid_unicode_utf8_first)], narrowed := true }
def ChainFloorUptoSaid : Prop := chainFloorUptoRow.holds Tryz.pinned (OpenSpec.upto chainFloorSpec)

end Rows
end Go.Proofs.YthoimblkpcikdaaGreatDoor
