/-
  NARROWER THAN 'FOR EVERY INPUT', by the rows' own cells (each row's printed sentence says how): GlobSets: laid · GlobCounts: laid · GlobStars: laid · GlobQuotes: laid.
  DERIVED. THE GIVEN ROWS OF THIS SEAT. 4 by the template 'for every input the law returns true; each argument reads behind the call as it read before'; 0 by the template 'total and deterministic' (their statements: YtodhjfdlbbpbpaaDoorTotals.lean).
  GIVEN WITH THE SEED: the statements are not yours to turn. If you find one false, say at which input.
  Laid BY PROGRAM, IN A SANDBOX (cutbox-rows.mjs): the forced cells as the released guide's own fill.sh prints them over the translation 5b72c346cc8959a5… (all of the seat's roots in one cut). By AI agents, Wed Nov 11 2026. No macro, syntax, notation, axiom, sorry.
-/
import Derived.Test.YtodhjfdlbbpbpaaDoorChecked
import GoSem.PinnedTables
import GoSem.Claim
import GoSem.ClaimJoined
import GoSem.ClaimMapViews
import Derived.JoinedTies
import Derived.KernelRfl
namespace Go.Proofs.YtodhjfdlbbpbpaaDoor
/- THE CELL 'sum', in the pinned program and in every row, IS THE sha256 OF THE DUMP (.gsa) THAT YtodhjfdlbbpbpaaDoorProg.lean LOADS. Nothing in Lean hashes anything: it is a label: what it is worth is what the hold of that sum in a sandbox is worth. -/
noncomputable def Tryd.pinned : Pinned := { name := "ytodhjfdlbbpbpaadoor", sum := "5b72c346cc8959a56740492d507bc954260151bfd637d503895e3aff8137ca0e", checked := Tryd.checked }
namespace Rows
def none {H : Type} : Left H := { results := [], args := [] }

/- WHAT THE LISTED PACKAGE-LEVEL VARIABLES READ AS WHEN THE CALL BEGINS. Each datum BY PROGRAM (the guide's laid-datum.mjs) off the statement by which the dump's own 'gosem.cut.vars' lays the variable. In a bare row this is a premise. The card (YtodhjfdlbbpbpaaDoorCards.lean) ties it to the program's text. -/
def laid_unicode_utf8_acceptRanges {H : Type} : DataW H := .agg [.agg [.lit (.int .u8 128), .lit (.int .u8 191)], .agg [.lit (.int .u8 160), .lit (.int .u8 191)], .agg [.lit (.int .u8 128), .lit (.int .u8 159)], .agg [.lit (.int .u8 144), .lit (.int .u8 191)], .agg [.lit (.int .u8 128), .lit (.int .u8 143)], .agg [.lit (.int .u8 0), .lit (.int .u8 0)], .agg [.lit (.int .u8 0), .lit (.int .u8 0)], .agg [.lit (.int .u8 0), .lit (.int .u8 0)], .agg [.lit (.int .u8 0), .lit (.int .u8 0)], .agg [.lit (.int .u8 0), .lit (.int .u8 0)], .agg [.lit (.int .u8 0), .lit (.int .u8 0)], .agg [.lit (.int .u8 0), .lit (.int .u8 0)], .agg [.lit (.int .u8 0), .lit (.int .u8 0)], .agg [.lit (.int .u8 0), .lit (.int .u8 0)], .agg [.lit (.int .u8 0), .lit (.int .u8 0)], .agg [.lit (.int .u8 0), .lit (.int .u8 0)]]
/-- One of Go's own tables, pinned by name: the form's constant. -/
def laid_unicode_utf8_first : DataW Unit := Go.Pinned.utf8First

/-- 'cachepotlaw3.GlobSets': WHATEVER THE INPUT: true; the input reads as it did. -/
def globSetsSpec : ChangeSpec := { name := "globSets", fn := fun _ => fun
  | [d1, d2, d3] => { results := [.lit (.bool true)], args := [d1, d2, d3] }
  | _ => none }
def globSetsRow : OpenClaim := { program := "ytodhjfdlbbpbpaadoor", sum := "5b72c346cc8959a56740492d507bc954260151bfd637d503895e3aff8137ca0e", func := "cachepot/cachepotlaw3.GlobSets", spec := "globSets", inPlace := ["internal/abi.NoEscape"], named := ["unicode/utf8.first", "unicode/utf8.acceptRanges"], apart := false, laid := [("unicode/utf8.acceptRanges", laid_unicode_utf8_acceptRanges), ("unicode/utf8.first", laid_unicode_utf8_first)] }
def GlobSetsSaid : Prop := globSetsRow.holds Tryd.pinned (OpenSpec.ofChange globSetsSpec)

/-- ITS FALSE NEIGHBOUR: 'it returns false'. Refute it at one input. -/
def globSetsWrong : ChangeSpec := { name := "globSets", fn := fun _ => fun
  | [d1, d2, d3] => { results := [.lit (.bool false)], args := [d1, d2, d3] }
  | _ => none }
def GlobSetsWrongFalsely : Prop := globSetsRow.holds Tryd.pinned (OpenSpec.ofChange globSetsWrong)

/-- 'cachepotlaw3.GlobCounts': WHATEVER THE INPUT: true; the input reads as it did. -/
def globCountsSpec : ChangeSpec := { name := "globCounts", fn := fun _ => fun
  | [d1, d2] => { results := [.lit (.bool true)], args := [d1, d2] }
  | _ => none }
def globCountsRow : OpenClaim := { program := "ytodhjfdlbbpbpaadoor", sum := "5b72c346cc8959a56740492d507bc954260151bfd637d503895e3aff8137ca0e", func := "cachepot/cachepotlaw3.GlobCounts", spec := "globCounts", inPlace := ["internal/abi.NoEscape"], named := ["unicode/utf8.first", "unicode/utf8.acceptRanges"], apart := false, laid := [("unicode/utf8.acceptRanges", laid_unicode_utf8_acceptRanges), ("unicode/utf8.first", laid_unicode_utf8_first)] }
def GlobCountsSaid : Prop := globCountsRow.holds Tryd.pinned (OpenSpec.ofChange globCountsSpec)

/-- ITS FALSE NEIGHBOUR: 'it returns false'. Refute it at one input. -/
def globCountsWrong : ChangeSpec := { name := "globCounts", fn := fun _ => fun
  | [d1, d2] => { results := [.lit (.bool false)], args := [d1, d2] }
  | _ => none }
def GlobCountsWrongFalsely : Prop := globCountsRow.holds Tryd.pinned (OpenSpec.ofChange globCountsWrong)

/-- 'cachepotlaw3.GlobStars': WHATEVER THE INPUT: true; the input reads as it did. -/
def globStarsSpec : ChangeSpec := { name := "globStars", fn := fun _ => fun
  | [d1, d2, d3] => { results := [.lit (.bool true)], args := [d1, d2, d3] }
  | _ => none }
def globStarsRow : OpenClaim := { program := "ytodhjfdlbbpbpaadoor", sum := "5b72c346cc8959a56740492d507bc954260151bfd637d503895e3aff8137ca0e", func := "cachepot/cachepotlaw3.GlobStars", spec := "globStars", inPlace := ["internal/abi.NoEscape"], named := ["unicode/utf8.first", "unicode/utf8.acceptRanges"], apart := false, laid := [("unicode/utf8.acceptRanges", laid_unicode_utf8_acceptRanges), ("unicode/utf8.first", laid_unicode_utf8_first)] }
def GlobStarsSaid : Prop := globStarsRow.holds Tryd.pinned (OpenSpec.ofChange globStarsSpec)

/-- ITS FALSE NEIGHBOUR: 'it returns false'. Refute it at one input. -/
def globStarsWrong : ChangeSpec := { name := "globStars", fn := fun _ => fun
  | [d1, d2, d3] => { results := [.lit (.bool false)], args := [d1, d2, d3] }
  | _ => none }
def GlobStarsWrongFalsely : Prop := globStarsRow.holds Tryd.pinned (OpenSpec.ofChange globStarsWrong)

/-- 'cachepotlaw3.GlobQuotes': WHATEVER THE INPUT: true; the input reads as it did. -/
def globQuotesSpec : ChangeSpec := { name := "globQuotes", fn := fun _ => fun
  | [d1, d2] => { results := [.lit (.bool true)], args := [d1, d2] }
  | _ => none }
def globQuotesRow : OpenClaim := { program := "ytodhjfdlbbpbpaadoor", sum := "5b72c346cc8959a56740492d507bc954260151bfd637d503895e3aff8137ca0e", func := "cachepot/cachepotlaw3.GlobQuotes", spec := "globQuotes", inPlace := ["internal/abi.NoEscape"], named := ["unicode/utf8.first", "unicode/utf8.acceptRanges"], apart := false, laid := [("unicode/utf8.acceptRanges", laid_unicode_utf8_acceptRanges), ("unicode/utf8.first", laid_unicode_utf8_first)] }
def GlobQuotesSaid : Prop := globQuotesRow.holds Tryd.pinned (OpenSpec.ofChange globQuotesSpec)

/-- ITS FALSE NEIGHBOUR: 'it returns false'. Refute it at one input. -/
def globQuotesWrong : ChangeSpec := { name := "globQuotes", fn := fun _ => fun
  | [d1, d2] => { results := [.lit (.bool false)], args := [d1, d2] }
  | _ => none }
def GlobQuotesWrongFalsely : Prop := globQuotesRow.holds Tryd.pinned (OpenSpec.ofChange globQuotesWrong)

/- THE SECOND FORM. 'bulk': how many values and letters a reading holds, each counted each time it is reached (what is shared counts as often as it is met; a slice's spare places count too). A statement '..UptoSaid' is the law's where the arguments, and the package variables that the reading takes, are together of bulk at most 1048576: NARROWER than '..Said'. Prove '..Said' where nothing that the law and all that it calls make is longer than what came in: it says more and counts as full. Else prove '..UptoSaid'. A law counts once. -/
mutual
def uptoBulk {H : Type} : DataW H → Nat
  | .lit (.string bytes) => bytes.length + 1
  | .lit _ => 1
  | .nil => 1
  | .ptr d => uptoBulk d + 1
  | .slice elems spare => uptoBulkAll elems + uptoBulkAll spare + 1
  | .agg parts => uptoBulkAll parts + 1
  | .iface _ d => uptoBulk d + 1
  | .map entries => uptoBulkEntries entries + 1
  | .held _ => 1
def uptoBulkAll {H : Type} : List (DataW H) → Nat
  | [] => 0
  | d :: r => uptoBulk d + uptoBulkAll r
def uptoBulkEntries {H : Type} : List (Lit × DataW H) → Nat
  | [] => 0
  | x :: r => uptoBulkEntry x + uptoBulkEntries r
def uptoBulkEntry {H : Type} : Lit × DataW H → Nat
  | (.string bytes, d) => bytes.length + uptoBulk d + 1
  | (_, d) => uptoBulk d + 1
 end
def uptoSmall : (H : Type) → List (DataW H) → Bool := fun _ ds => decide (uptoBulkAll ds ≤ 1048576)
def OpenSpec.upto (s : _root_.Go.ChangeSpec) : _root_.Go.OpenSpec := { _root_.Go.OpenSpec.ofChange s with cond := some uptoSmall }

/-- 'cachepotlaw3.GlobSets', WHERE WHAT IT READS IS OF BULK AT MOST 1048576: true; the input reads as it did. -/
def globSetsUptoRow : OpenClaim := { program := "ytodhjfdlbbpbpaadoor", sum := "5b72c346cc8959a56740492d507bc954260151bfd637d503895e3aff8137ca0e", func := "cachepot/cachepotlaw3.GlobSets", spec := "globSets", inPlace := ["internal/abi.NoEscape"], named := ["unicode/utf8.first", "unicode/utf8.acceptRanges"], apart := false, laid := [("unicode/utf8.acceptRanges", laid_unicode_utf8_acceptRanges), ("unicode/utf8.first", laid_unicode_utf8_first)], narrowed := true }
def GlobSetsUptoSaid : Prop := globSetsUptoRow.holds Tryd.pinned (OpenSpec.upto globSetsSpec)

/-- 'cachepotlaw3.GlobCounts', WHERE WHAT IT READS IS OF BULK AT MOST 1048576: true; the input reads as it did. -/
def globCountsUptoRow : OpenClaim := { program := "ytodhjfdlbbpbpaadoor", sum := "5b72c346cc8959a56740492d507bc954260151bfd637d503895e3aff8137ca0e", func := "cachepot/cachepotlaw3.GlobCounts", spec := "globCounts", inPlace := ["internal/abi.NoEscape"], named := ["unicode/utf8.first", "unicode/utf8.acceptRanges"], apart := false, laid := [("unicode/utf8.acceptRanges", laid_unicode_utf8_acceptRanges), ("unicode/utf8.first", laid_unicode_utf8_first)], narrowed := true }
def GlobCountsUptoSaid : Prop := globCountsUptoRow.holds Tryd.pinned (OpenSpec.upto globCountsSpec)

/-- 'cachepotlaw3.GlobStars', WHERE WHAT IT READS IS OF BULK AT MOST 1048576: true; the input reads as it did. -/
def globStarsUptoRow : OpenClaim := { program := "ytodhjfdlbbpbpaadoor", sum := "5b72c346cc8959a56740492d507bc954260151bfd637d503895e3aff8137ca0e", func := "cachepot/cachepotlaw3.GlobStars", spec := "globStars", inPlace := ["internal/abi.NoEscape"], named := ["unicode/utf8.first", "unicode/utf8.acceptRanges"], apart := false, laid := [("unicode/utf8.acceptRanges", laid_unicode_utf8_acceptRanges), ("unicode/utf8.first", laid_unicode_utf8_first)], narrowed := true }
def GlobStarsUptoSaid : Prop := globStarsUptoRow.holds Tryd.pinned (OpenSpec.upto globStarsSpec)

/-- 'cachepotlaw3.GlobQuotes', WHERE WHAT IT READS IS OF BULK AT MOST 1048576: true; the input reads as it did. -/
def globQuotesUptoRow : OpenClaim := { program := "ytodhjfdlbbpbpaadoor", sum := "5b72c346cc8959a56740492d507bc954260151bfd637d503895e3aff8137ca0e", func := "cachepot/cachepotlaw3.GlobQuotes", spec := "globQuotes", inPlace := ["internal/abi.NoEscape"], named := ["unicode/utf8.first", "unicode/utf8.acceptRanges"], apart := false, laid := [("unicode/utf8.acceptRanges", laid_unicode_utf8_acceptRanges), ("unicode/utf8.first", laid_unicode_utf8_first)], narrowed := true }
def GlobQuotesUptoSaid : Prop := globQuotesUptoRow.holds Tryd.pinned (OpenSpec.upto globQuotesSpec)

end Rows
end Go.Proofs.YtodhjfdlbbpbpaaDoor
