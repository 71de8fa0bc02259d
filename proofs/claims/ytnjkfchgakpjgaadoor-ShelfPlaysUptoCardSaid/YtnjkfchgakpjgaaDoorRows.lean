/-
  NARROWER THAN 'FOR EVERY INPUT', by the rows' own cells (each row's printed sentence says how): ShelfLast: laid · ShelfDrops: laid · ShelfTop: laid · ShelfPlays: laid.
  DERIVED. THE GIVEN ROWS OF THIS SEAT. 4 by the template 'for every input the law returns true; each argument reads behind the call as it read before'; 0 by the template 'total and deterministic' (their statements: YtnjkfchgakpjgaaDoorTotals.lean).
  GIVEN WITH THE SEED: the statements are not yours to turn. If you find one false, say at which input.
  Laid BY PROGRAM, IN A SANDBOX (cutbox-rows.mjs): the forced cells as the released guide's own fill.sh prints them over the translation 80883ef4e98516c4… (all of the seat's roots in one cut). By AI agents, Wed Nov 11 2026. No macro, syntax, notation, axiom, sorry.
-/
import Derived.Test.YtnjkfchgakpjgaaDoorChecked
import GoSem.Claim
import GoSem.ClaimJoined
import GoSem.ClaimMapViews
import Derived.JoinedTies
import Derived.KernelRfl
namespace Go.Proofs.YtnjkfchgakpjgaaDoor
/- THE CELL 'sum', in the pinned program and in every row, IS THE sha256 OF THE DUMP (.gsa) THAT YtnjkfchgakpjgaaDoorProg.lean LOADS. Nothing in Lean hashes anything: it is a label: what it is worth is what the hold of that sum in a sandbox is worth. -/
noncomputable def Tryd.pinned : Pinned := { name := "ytnjkfchgakpjgaadoor", sum := "80883ef4e98516c4a239c43dd0800e27e85c4c98dad2b340e35f61a78440e254", checked := Tryd.checked }
namespace Rows
def none {H : Type} : Left H := { results := [], args := [] }

/- WHAT THE LISTED PACKAGE-LEVEL VARIABLES READ AS WHEN THE CALL BEGINS. Each datum BY PROGRAM (the guide's laid-datum.mjs) off the statement by which the dump's own 'gosem.cut.vars' lays the variable. In a bare row this is a premise. The card (YtnjkfchgakpjgaaDoorCards.lean) ties it to the program's text. -/
def laid_cachepot_cachepothand_names {H : Type} : DataW H := .agg [.lit (.string [97]), .lit (.string [98]), .lit (.string [99]), .lit (.string [97, 98]), .lit (.string [107, 49]), .lit (.string [107, 50]), .lit (.string [107, 51]), .lit (.string [195, 169]), .lit (.string [195, 169, 97]), .lit (.string [240, 159, 152, 128]), .lit (.string [42]), .lit (.string [122, 122])]

/-- 'cachepotlaw15.ShelfLast': WHATEVER THE INPUT: true; the input reads as it did. -/
def shelfLastSpec : ChangeSpec := { name := "shelfLast", fn := fun _ => fun
  | [d1, d2, d3] => { results := [.lit (.bool true)], args := [d1, d2, d3] }
  | _ => none }
def shelfLastRow : OpenClaim := { program := "ytnjkfchgakpjgaadoor", sum := "80883ef4e98516c4a239c43dd0800e27e85c4c98dad2b340e35f61a78440e254", func := "cachepot/cachepotlaw15.ShelfLast", spec := "shelfLast", inPlace := ["internal/bytealg.abigen_runtime_cmpstring"], unfollowed := true, recurses := true, named := ["cachepot/cachepothand.names"], apart := false, laid := [("cachepot/cachepothand.names", laid_cachepot_cachepothand_names)] }
def ShelfLastSaid : Prop := shelfLastRow.holds Tryd.pinned (OpenSpec.ofChange shelfLastSpec)

/-- ITS FALSE NEIGHBOUR: 'it returns false'. Refute it at one input. -/
def shelfLastWrong : ChangeSpec := { name := "shelfLast", fn := fun _ => fun
  | [d1, d2, d3] => { results := [.lit (.bool false)], args := [d1, d2, d3] }
  | _ => none }
def ShelfLastWrongFalsely : Prop := shelfLastRow.holds Tryd.pinned (OpenSpec.ofChange shelfLastWrong)

/-- 'cachepotlaw15.ShelfDrops': WHATEVER THE INPUT: true; the input reads as it did. -/
def shelfDropsSpec : ChangeSpec := { name := "shelfDrops", fn := fun _ => fun
  | [d1, d2, d3] => { results := [.lit (.bool true)], args := [d1, d2, d3] }
  | _ => none }
def shelfDropsRow : OpenClaim := { program := "ytnjkfchgakpjgaadoor", sum := "80883ef4e98516c4a239c43dd0800e27e85c4c98dad2b340e35f61a78440e254", func := "cachepot/cachepotlaw15.ShelfDrops", spec := "shelfDrops", inPlace := ["internal/bytealg.abigen_runtime_cmpstring"], unfollowed := true, recurses := true, named := ["cachepot/cachepothand.names"], apart := false, laid := [("cachepot/cachepothand.names", laid_cachepot_cachepothand_names)] }
def ShelfDropsSaid : Prop := shelfDropsRow.holds Tryd.pinned (OpenSpec.ofChange shelfDropsSpec)

/-- ITS FALSE NEIGHBOUR: 'it returns false'. Refute it at one input. -/
def shelfDropsWrong : ChangeSpec := { name := "shelfDrops", fn := fun _ => fun
  | [d1, d2, d3] => { results := [.lit (.bool false)], args := [d1, d2, d3] }
  | _ => none }
def ShelfDropsWrongFalsely : Prop := shelfDropsRow.holds Tryd.pinned (OpenSpec.ofChange shelfDropsWrong)

/-- 'cachepotlaw15.ShelfTop': WHATEVER THE INPUT: true; the input reads as it did. -/
def shelfTopSpec : ChangeSpec := { name := "shelfTop", fn := fun _ => fun
  | [d1, d2] => { results := [.lit (.bool true)], args := [d1, d2] }
  | _ => none }
def shelfTopRow : OpenClaim := { program := "ytnjkfchgakpjgaadoor", sum := "80883ef4e98516c4a239c43dd0800e27e85c4c98dad2b340e35f61a78440e254", func := "cachepot/cachepotlaw15.ShelfTop", spec := "shelfTop", inPlace := ["internal/bytealg.abigen_runtime_cmpstring"], unfollowed := true, recurses := true, named := ["cachepot/cachepothand.names"], apart := false, laid := [("cachepot/cachepothand.names", laid_cachepot_cachepothand_names)] }
def ShelfTopSaid : Prop := shelfTopRow.holds Tryd.pinned (OpenSpec.ofChange shelfTopSpec)

/-- ITS FALSE NEIGHBOUR: 'it returns false'. Refute it at one input. -/
def shelfTopWrong : ChangeSpec := { name := "shelfTop", fn := fun _ => fun
  | [d1, d2] => { results := [.lit (.bool false)], args := [d1, d2] }
  | _ => none }
def ShelfTopWrongFalsely : Prop := shelfTopRow.holds Tryd.pinned (OpenSpec.ofChange shelfTopWrong)

/-- 'cachepotlaw15.ShelfPlays': WHATEVER THE INPUT: true; the input reads as it did. -/
def shelfPlaysSpec : ChangeSpec := { name := "shelfPlays", fn := fun _ => fun
  | [d] => { results := [.lit (.bool true)], args := [d] }
  | _ => none }
def shelfPlaysRow : OpenClaim := { program := "ytnjkfchgakpjgaadoor", sum := "80883ef4e98516c4a239c43dd0800e27e85c4c98dad2b340e35f61a78440e254", func := "cachepot/cachepotlaw15.ShelfPlays", spec := "shelfPlays", inPlace := ["internal/bytealg.abigen_runtime_cmpstring"], unfollowed := true, recurses := true, named := ["cachepot/cachepothand.names"], apart := false, laid := [("cachepot/cachepothand.names", laid_cachepot_cachepothand_names)] }
def ShelfPlaysSaid : Prop := shelfPlaysRow.holds Tryd.pinned (OpenSpec.ofChange shelfPlaysSpec)

/-- ITS FALSE NEIGHBOUR: 'it returns false'. Refute it at one input. -/
def shelfPlaysWrong : ChangeSpec := { name := "shelfPlays", fn := fun _ => fun
  | [d] => { results := [.lit (.bool false)], args := [d] }
  | _ => none }
def ShelfPlaysWrongFalsely : Prop := shelfPlaysRow.holds Tryd.pinned (OpenSpec.ofChange shelfPlaysWrong)

/- THE SECOND FORM. 'bulk': how many values and letters a reading holds, each counted each time it is reached (what is shared counts as often as it is met; a slice's spare places count too). A statement '..UptoSaid' is the law's where the arguments, and the package variables that the reading takes, are together of bulk at most 1048576: NARROWER than '..Said'. Prove '..Said' where nothing that the law and all that it calls make is longer than what came in: it says more and counts as full. Else prove '..UptoSaid'. A law counts once. -/
mutual
def uptoBulk {H : Type} : DataW H → Nat
  | .lit (.string bytes) => bytes.length + 1
  | .lit _ => 1
  | .nil => 1
  | .ptr d => uptoBulk d + 1
  | .slice elems spare => uptoBulkAll elems + uptoBulkAll spare + 1
  | .agg parts => uptoBulkAll parts + 1
  | .iface _ d => uptoBulk d + 1
  | .map entries => uptoBulkEntries entries + 1
  | .held _ => 1
def uptoBulkAll {H : Type} : List (DataW H) → Nat
  | [] => 0
  | d :: r => uptoBulk d + uptoBulkAll r
def uptoBulkEntries {H : Type} : List (Lit × DataW H) → Nat
  | [] => 0
  | x :: r => uptoBulkEntry x + uptoBulkEntries r
def uptoBulkEntry {H : Type} : Lit × DataW H → Nat
  | (.string bytes, d) => bytes.length + uptoBulk d + 1
  | (_, d) => uptoBulk d + 1
 end
def uptoSmall : (H : Type) → List (DataW H) → Bool := fun _ ds => decide (uptoBulkAll ds ≤ 1048576)
def OpenSpec.upto (s : _root_.Go.ChangeSpec) : _root_.Go.OpenSpec := { _root_.Go.OpenSpec.ofChange s with cond := some uptoSmall }

/-- 'cachepotlaw15.ShelfLast', WHERE WHAT IT READS IS OF BULK AT MOST 1048576: true; the input reads as it did. -/
def shelfLastUptoRow : OpenClaim := { program := "ytnjkfchgakpjgaadoor", sum := "80883ef4e98516c4a239c43dd0800e27e85c4c98dad2b340e35f61a78440e254", func := "cachepot/cachepotlaw15.ShelfLast", spec := "shelfLast", inPlace := ["internal/bytealg.abigen_runtime_cmpstring"], unfollowed := true, recurses := true, named := ["cachepot/cachepothand.names"], apart := false, laid := [("cachepot/cachepothand.names", laid_cachepot_cachepothand_names)], narrowed := true }
def ShelfLastUptoSaid : Prop := shelfLastUptoRow.holds Tryd.pinned (OpenSpec.upto shelfLastSpec)

/-- 'cachepotlaw15.ShelfDrops', WHERE WHAT IT READS IS OF BULK AT MOST 1048576: true; the input reads as it did. -/
def shelfDropsUptoRow : OpenClaim := { program := "ytnjkfchgakpjgaadoor", sum := "80883ef4e98516c4a239c43dd0800e27e85c4c98dad2b340e35f61a78440e254", func := "cachepot/cachepotlaw15.ShelfDrops", spec := "shelfDrops", inPlace := ["internal/bytealg.abigen_runtime_cmpstring"], unfollowed := true, recurses := true, named := ["cachepot/cachepothand.names"], apart := false, laid := [("cachepot/cachepothand.names", laid_cachepot_cachepothand_names)], narrowed := true }
def ShelfDropsUptoSaid : Prop := shelfDropsUptoRow.holds Tryd.pinned (OpenSpec.upto shelfDropsSpec)

/-- 'cachepotlaw15.ShelfTop', WHERE WHAT IT READS IS OF BULK AT MOST 1048576: true; the input reads as it did. -/
def shelfTopUptoRow : OpenClaim := { program := "ytnjkfchgakpjgaadoor", sum := "80883ef4e98516c4a239c43dd0800e27e85c4c98dad2b340e35f61a78440e254", func := "cachepot/cachepotlaw15.ShelfTop", spec := "shelfTop", inPlace := ["internal/bytealg.abigen_runtime_cmpstring"], unfollowed := true, recurses := true, named := ["cachepot/cachepothand.names"], apart := false, laid := [("cachepot/cachepothand.names", laid_cachepot_cachepothand_names)], narrowed := true }
def ShelfTopUptoSaid : Prop := shelfTopUptoRow.holds Tryd.pinned (OpenSpec.upto shelfTopSpec)

/-- 'cachepotlaw15.ShelfPlays', WHERE WHAT IT READS IS OF BULK AT MOST 1048576: true; the input reads as it did. -/
def shelfPlaysUptoRow : OpenClaim := { program := "ytnjkfchgakpjgaadoor", sum := "80883ef4e98516c4a239c43dd0800e27e85c4c98dad2b340e35f61a78440e254", func := "cachepot/cachepotlaw15.ShelfPlays", spec := "shelfPlays", inPlace := ["internal/bytealg.abigen_runtime_cmpstring"], unfollowed := true, recurses := true, named := ["cachepot/cachepothand.names"], apart := false, laid := [("cachepot/cachepothand.names", laid_cachepot_cachepothand_names)], narrowed := true }
def ShelfPlaysUptoSaid : Prop := shelfPlaysUptoRow.holds Tryd.pinned (OpenSpec.upto shelfPlaysSpec)

end Rows
end Go.Proofs.YtnjkfchgakpjgaaDoor
