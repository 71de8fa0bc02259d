/-
  No cell of these rows narrows 'for every input' (looked for: loops, veiled, ifaces, maps, wideKeys, modest, calm, conditions, laid).
  DERIVED. THE GIVEN ROWS OF THIS SEAT. 5 by the template 'for every input the law returns true; each argument reads behind the call as it read before'; 0 by the template 'total and deterministic' (their statements: YtljbepjbecjpiaaTotals.lean).
  GIVEN WITH THE SEED: the statements are not yours to turn. If you find one false, say at which input.
  Laid BY PROGRAM, IN A SANDBOX (cutbox-rows.mjs): the forced cells as the released guide's own fill.sh prints them over the translation ee9c9bc9c1d0d0e0… (all of the seat's roots in one cut). By AI agents, Wed Nov 11 2026. No macro, syntax, notation, axiom, sorry.
-/
import Derived.Test.YtljbepjbecjpiaaChecked
import GoSem.Claim
import GoSem.ClaimJoined
import GoSem.ClaimMapViews
import Derived.JoinedTies
import Derived.KernelRfl
namespace Go.Proofs.Ytljbepjbecjpiaa
/- THE CELL 'sum', in the pinned program and in every row, IS THE sha256 OF THE DUMP (.gsa) THAT YtljbepjbecjpiaaProg.lean LOADS. Nothing in Lean hashes anything: it is a label: what it is worth is what the hold of that sum in a sandbox is worth. -/
noncomputable def Try.pinned : Pinned := { name := "ytljbepjbecjpiaa", sum := "ee9c9bc9c1d0d0e06bfe2cf375698ae93fd387b8cf744fb578649bdbdf0704ba", checked := Try.checked }
namespace Rows
def none {H : Type} : Left H := { results := [], args := [] }

/-- 'cachepotlaw16.RollIn': WHATEVER THE INPUT: true; the input reads as it did. -/
def rollInSpec : ChangeSpec := { name := "rollIn", fn := fun _ => fun
  | [d1, d2] => { results := [.lit (.bool true)], args := [d1, d2] }
  | _ => none }
def rollInRow : OpenClaim := { program := "ytljbepjbecjpiaa", sum := "ee9c9bc9c1d0d0e06bfe2cf375698ae93fd387b8cf744fb578649bdbdf0704ba", func := "cachepot/cachepotlaw16.RollIn", spec := "rollIn", unfollowed := true, recurses := true, apart := false }
def RollInSaid : Prop := rollInRow.holds Try.pinned (OpenSpec.ofChange rollInSpec)

/-- ITS FALSE NEIGHBOUR: 'it returns false'. Refute it at one input. -/
def rollInWrong : ChangeSpec := { name := "rollIn", fn := fun _ => fun
  | [d1, d2] => { results := [.lit (.bool false)], args := [d1, d2] }
  | _ => none }
def RollInWrongFalsely : Prop := rollInRow.holds Try.pinned (OpenSpec.ofChange rollInWrong)

/-- 'cachepotlaw16.RollRefuses': WHATEVER THE INPUT: true; the input reads as it did. -/
def rollRefusesSpec : ChangeSpec := { name := "rollRefuses", fn := fun _ => fun
  | [d] => { results := [.lit (.bool true)], args := [d] }
  | _ => none }
def rollRefusesRow : OpenClaim := { program := "ytljbepjbecjpiaa", sum := "ee9c9bc9c1d0d0e06bfe2cf375698ae93fd387b8cf744fb578649bdbdf0704ba", func := "cachepot/cachepotlaw16.RollRefuses", spec := "rollRefuses", unfollowed := true, recurses := true, apart := false }
def RollRefusesSaid : Prop := rollRefusesRow.holds Try.pinned (OpenSpec.ofChange rollRefusesSpec)

/-- ITS FALSE NEIGHBOUR: 'it returns false'. Refute it at one input. -/
def rollRefusesWrong : ChangeSpec := { name := "rollRefuses", fn := fun _ => fun
  | [d] => { results := [.lit (.bool false)], args := [d] }
  | _ => none }
def RollRefusesWrongFalsely : Prop := rollRefusesRow.holds Try.pinned (OpenSpec.ofChange rollRefusesWrong)

/-- 'cachepotlaw16.RollPlays': WHATEVER THE INPUT: true; the input reads as it did. -/
def rollPlaysSpec : ChangeSpec := { name := "rollPlays", fn := fun _ => fun
  | [d] => { results := [.lit (.bool true)], args := [d] }
  | _ => none }
def rollPlaysRow : OpenClaim := { program := "ytljbepjbecjpiaa", sum := "ee9c9bc9c1d0d0e06bfe2cf375698ae93fd387b8cf744fb578649bdbdf0704ba", func := "cachepot/cachepotlaw16.RollPlays", spec := "rollPlays", unfollowed := true, recurses := true, apart := false }
def RollPlaysSaid : Prop := rollPlaysRow.holds Try.pinned (OpenSpec.ofChange rollPlaysSpec)

/-- ITS FALSE NEIGHBOUR: 'it returns false'. Refute it at one input. -/
def rollPlaysWrong : ChangeSpec := { name := "rollPlays", fn := fun _ => fun
  | [d] => { results := [.lit (.bool false)], args := [d] }
  | _ => none }
def RollPlaysWrongFalsely : Prop := rollPlaysRow.holds Try.pinned (OpenSpec.ofChange rollPlaysWrong)

/-- 'cachepotlaw16.RollDrops': WHATEVER THE INPUT: true; the input reads as it did. -/
def rollDropsSpec : ChangeSpec := { name := "rollDrops", fn := fun _ => fun
  | [d1, d2, d3] => { results := [.lit (.bool true)], args := [d1, d2, d3] }
  | _ => none }
def rollDropsRow : OpenClaim := { program := "ytljbepjbecjpiaa", sum := "ee9c9bc9c1d0d0e06bfe2cf375698ae93fd387b8cf744fb578649bdbdf0704ba", func := "cachepot/cachepotlaw16.RollDrops", spec := "rollDrops", unfollowed := true, recurses := true, apart := false }
def RollDropsSaid : Prop := rollDropsRow.holds Try.pinned (OpenSpec.ofChange rollDropsSpec)

/-- ITS FALSE NEIGHBOUR: 'it returns false'. Refute it at one input. -/
def rollDropsWrong : ChangeSpec := { name := "rollDrops", fn := fun _ => fun
  | [d1, d2, d3] => { results := [.lit (.bool false)], args := [d1, d2, d3] }
  | _ => none }
def RollDropsWrongFalsely : Prop := rollDropsRow.holds Try.pinned (OpenSpec.ofChange rollDropsWrong)

/-- 'cachepotlaw16.RollNone': WHATEVER THE INPUT: true; the input reads as it did. -/
def rollNoneSpec : ChangeSpec := { name := "rollNone", fn := fun _ => fun
  | [d1, d2] => { results := [.lit (.bool true)], args := [d1, d2] }
  | _ => none }
def rollNoneRow : OpenClaim := { program := "ytljbepjbecjpiaa", sum := "ee9c9bc9c1d0d0e06bfe2cf375698ae93fd387b8cf744fb578649bdbdf0704ba", func := "cachepot/cachepotlaw16.RollNone", spec := "rollNone", unfollowed := true, recurses := true, apart := false }
def RollNoneSaid : Prop := rollNoneRow.holds Try.pinned (OpenSpec.ofChange rollNoneSpec)

/-- ITS FALSE NEIGHBOUR: 'it returns false'. Refute it at one input. -/
def rollNoneWrong : ChangeSpec := { name := "rollNone", fn := fun _ => fun
  | [d1, d2] => { results := [.lit (.bool false)], args := [d1, d2] }
  | _ => none }
def RollNoneWrongFalsely : Prop := rollNoneRow.holds Try.pinned (OpenSpec.ofChange rollNoneWrong)

/- THE SECOND FORM. 'bulk': how many values and letters a reading holds, each counted each time it is reached (what is shared counts as often as it is met; a slice's spare places count too). A statement '..UptoSaid' is the law's where the arguments, and the package variables that the reading takes, are together of bulk at most 1048576: NARROWER than '..Said'. Prove '..Said' where nothing that the law and all that it calls make is longer than what came in: it says more and counts as full. Else prove '..UptoSaid'. A law counts once. -/
mutual
def uptoBulk {H : Type} : DataW H → Nat
  | .lit (.string bytes) => bytes.length + 1
  | .lit _ => 1
  | .nil => 1
  | .ptr d => uptoBulk d + 1
  | .slice elems spare => uptoBulkAll elems + uptoBulkAll spare + 1
  | .agg parts => uptoBulkAll parts + 1
  | .iface _ d => uptoBulk d + 1
  | .map entries => uptoBulkEntries entries + 1
  | .held _ => 1
def uptoBulkAll {H : Type} : List (DataW H) → Nat
  | [] => 0
  | d :: r => uptoBulk d + uptoBulkAll r
def uptoBulkEntries {H : Type} : List (Lit × DataW H) → Nat
  | [] => 0
  | x :: r => uptoBulkEntry x + uptoBulkEntries r
def uptoBulkEntry {H : Type} : Lit × DataW H → Nat
  | (.string bytes, d) => bytes.length + uptoBulk d + 1
  | (_, d) => uptoBulk d + 1
 end
def uptoSmall : (H : Type) → List (DataW H) → Bool := fun _ ds => decide (uptoBulkAll ds ≤ 1048576)
def OpenSpec.upto (s : _root_.Go.ChangeSpec) : _root_.Go.OpenSpec := { _root_.Go.OpenSpec.ofChange s with cond := some uptoSmall }

/-- 'cachepotlaw16.RollIn', WHERE WHAT IT READS IS OF BULK AT MOST 1048576: true; the input reads as it did. -/
def rollInUptoRow : OpenClaim := { program := "ytljbepjbecjpiaa", sum := "ee9c9bc9c1d0d0e06bfe2cf375698ae93fd387b8cf744fb578649bdbdf0704ba", func := "cachepot/cachepotlaw16.RollIn", spec := "rollIn", unfollowed := true, recurses := true, apart := false, narrowed := true }
def RollInUptoSaid : Prop := rollInUptoRow.holds Try.pinned (OpenSpec.upto rollInSpec)

/-- 'cachepotlaw16.RollRefuses', WHERE WHAT IT READS IS OF BULK AT MOST 1048576: true; the input reads as it did. -/
def rollRefusesUptoRow : OpenClaim := { program := "ytljbepjbecjpiaa", sum := "ee9c9bc9c1d0d0e06bfe2cf375698ae93fd387b8cf744fb578649bdbdf0704ba", func := "cachepot/cachepotlaw16.RollRefuses", spec := "rollRefuses", unfollowed := true, recurses := true, apart := false, narrowed := true }
def RollRefusesUptoSaid : Prop := rollRefusesUptoRow.holds Try.pinned (OpenSpec.upto rollRefusesSpec)

/-- 'cachepotlaw16.RollPlays', WHERE WHAT IT READS IS OF BULK AT MOST 1048576: true; the input reads as it did. -/
def rollPlaysUptoRow : OpenClaim := { program := "ytljbepjbecjpiaa", sum := "ee9c9bc9c1d0d0e06bfe2cf375698ae93fd387b8cf744fb578649bdbdf0704ba", func := "cachepot/cachepotlaw16.RollPlays", spec := "rollPlays", unfollowed := true, recurses := true, apart := false, narrowed := true }
def RollPlaysUptoSaid : Prop := rollPlaysUptoRow.holds Try.pinned (OpenSpec.upto rollPlaysSpec)

/-- 'cachepotlaw16.RollDrops', WHERE WHAT IT READS IS OF BULK AT MOST 1048576: true; the input reads as it did. -/
def rollDropsUptoRow : OpenClaim := { program := "ytljbepjbecjpiaa", sum := "ee9c9bc9c1d0d0e06bfe2cf375698ae93fd387b8cf744fb578649bdbdf0704ba", func := "cachepot/cachepotlaw16.RollDrops", spec := "rollDrops", unfollowed := true, recurses := true, apart := false, narrowed := true }
def RollDropsUptoSaid : Prop := rollDropsUptoRow.holds Try.pinned (OpenSpec.upto rollDropsSpec)

/-- 'cachepotlaw16.RollNone', WHERE WHAT IT READS IS OF BULK AT MOST 1048576: true; the input reads as it did. -/
def rollNoneUptoRow : OpenClaim := { program := "ytljbepjbecjpiaa", sum := "ee9c9bc9c1d0d0e06bfe2cf375698ae93fd387b8cf744fb578649bdbdf0704ba", func := "cachepot/cachepotlaw16.RollNone", spec := "rollNone", unfollowed := true, recurses := true, apart := false, narrowed := true }
def RollNoneUptoSaid : Prop := rollNoneUptoRow.holds Try.pinned (OpenSpec.upto rollNoneSpec)

end Rows
end Go.Proofs.Ytljbepjbecjpiaa
