/- What the book's functions compute: Short, Texts, SameTexts, Writes, SameWrites. -/
import Derived.Test.YthoimblkpcikdaaGreatDoorPureKeys
namespace Go.Proofs.YthoimblkpcikdaaGreatDoor.PBook
open Go.RowKit Go.Proofs.YthoimblkpcikdaaGreatDoor.Mc Go.Proofs.YthoimblkpcikdaaGreatDoor.N Go.Proofs.YthoimblkpcikdaaGreatDoor.Plain Go.Proofs.YthoimblkpcikdaaGreatDoor.PureRune Go.Proofs.YthoimblkpcikdaaGreatDoor.PureKeys
set_option linter.unusedSimpArgs false
set_option linter.unusedVariables false
theorem AM {α:Type}{l:List α}{j:Nat}(h:j < l.length):l.take (j+1)=l.take j ++ [l[j]]:=by
 rw [List.take_add_one,List.getElem?_eq_getElem h]; rfl
def short (s:ByteArray)(n:Nat):ByteArray:=s.extract 0 (min s.size n)
theorem Lk (s:ByteArray)(n:Nat):(short s n).size<=n:=by
 unfold short; rw [ByteArray.size_extract]; omega
theorem Jj (K:Nat)(s:ByteArray)(n:Nat):jx K s (n:Int)=some (short s n):=by
 unfold jx short
 have e:(mn (s.size:Int) (n:Int)).toNat=min s.size n:=by unfold mn; split <;> omega
 rw [Ec (by unfold Be mn; split <;> exact decide_eq_true (by omega)),e]
abbrev Wr:Type:=ByteArray × Bool × ByteArray
end Go.Proofs.YthoimblkpcikdaaGreatDoor.PBook
