/- What the book's functions compute: Short, Texts, SameTexts, Writes, SameWrites. -/
import Derived.Test.YtobfoiomjfdjjaaDoorPureKeys
namespace Go.Proofs.YtobfoiomjfdjjaaDoor.PBook
open Go.RowKit Go.Proofs.YtobfoiomjfdjjaaDoor.Mc Go.Proofs.YtobfoiomjfdjjaaDoor.N Go.Proofs.YtobfoiomjfdjjaaDoor.Plain Go.Proofs.YtobfoiomjfdjjaaDoor.PureRune Go.Proofs.YtobfoiomjfdjjaaDoor.PureKeys
set_option linter.unusedSimpArgs false
set_option linter.unusedVariables false
theorem DM {α:Type}{l:List α}{j:Nat}(h:j < l.length):l.take (j+1)=l.take j ++ [l[j]]:=by
 rw [List.take_add_one,List.getElem?_eq_getElem h]; rfl
def short (s:ByteArray)(n:Nat):ByteArray:=s.extract 0 (min s.size n)
theorem Gi (s:ByteArray)(n:Nat):(short s n).size<=n:=by
 unfold short; rw [ByteArray.size_extract]; omega
theorem IM (K:Nat)(s:ByteArray)(n:Nat):F9 K s (n:Int)=some (short s n):=by
 unfold F9 short
 have e:(mn (s.size:Int) (n:Int)).toNat=min s.size n:=by unfold mn; split <;> omega
 rw [LU (by unfold Dj mn; split <;> exact decide_eq_true (by omega)),e]
abbrev Wr:Type:=ByteArray × Bool × ByteArray
end Go.Proofs.YtobfoiomjfdjjaaDoor.PBook
