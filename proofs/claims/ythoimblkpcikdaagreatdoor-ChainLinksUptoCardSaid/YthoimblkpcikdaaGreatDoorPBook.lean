/- What the book's functions compute: Short, Texts, SameTexts, Writes, SameWrites. -/
import Derived.Test.YthoimblkpcikdaaGreatDoorPureKeys
namespace Go.Proofs.YthoimblkpcikdaaGreatDoor.PBook
open Go.RowKit Go.Proofs.YthoimblkpcikdaaGreatDoor.Mc Go.Proofs.YthoimblkpcikdaaGreatDoor.N Go.Proofs.YthoimblkpcikdaaGreatDoor.Plain Go.Proofs.YthoimblkpcikdaaGreatDoor.PureRune Go.Proofs.YthoimblkpcikdaaGreatDoor.PureKeys
set_option linter.unusedSimpArgs false
set_option linter.unusedVariables false
theorem AL {α:Type}{l:List α}{j:Nat}(h:j < l.length):l.take (j+1)=l.take j ++ [l[j]]:=by
 rw [List.take_add_one,List.getElem?_eq_getElem h]; rfl
def short (s:ByteArray)(n:Nat):ByteArray:=s.extract 0 (min s.size n)
theorem NI (s:ByteArray)(n:Nat):(short s n).size<=n:=by
 unfold short; rw [ByteArray.size_extract]; omega
theorem KW (K:Nat)(s:ByteArray)(n:Nat):lK K s (n:Int)=some (short s n):=by
 unfold lK short
 have e:(mn (s.size:Int) (n:Int)).toNat=min s.size n:=by unfold mn; split <;> omega
 rw [FY (by unfold Bn mn; split <;> exact decide_eq_true (by omega)),e]
abbrev Wr:Type:=ByteArray × Bool × ByteArray
theorem Yo (K:Nat)(l:List Wr)(hK:l.length < K)(hl:l.length<=1000000):pG K l l=some true:=by
 unfold pG
 rw [show ((l.length:Int) != (l.length:Int))=false by simp,cond_false]
 rw [Ag (r:=(.inr ())) (fun i=>(i:Int)) l.length (by rfl) hK ?_ ?_]
 · rfl
 · intro i hi
   unfold WL
   simp only [Bz,Int.toNat_natCast,List.getElem?_eq_getElem hi,Option.bind_some]
   rw [AE (by omega),Aq (by omega) (by omega)]
   simp
 · unfold WL
   rw [AF (by omega)]
end Go.Proofs.YthoimblkpcikdaaGreatDoor.PBook
