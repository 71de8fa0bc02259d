/- The last write of a key; BatchFind. -/
import Derived.Test.YtobfoiomjfdjjaaDoorPureKeys
namespace Go.Proofs.YtobfoiomjfdjjaaDoor.PFd
open Go.RowKit Go.Proofs.YtobfoiomjfdjjaaDoor.Mc Go.Proofs.YtobfoiomjfdjjaaDoor.N Go.Proofs.YtobfoiomjfdjjaaDoor.Plain Go.Proofs.YtobfoiomjfdjjaaDoor.PureKeys
set_option linter.unusedSimpArgs false
set_option linter.unusedVariables false
abbrev Wr:Type:=ByteArray × Bool × ByteArray
theorem Kk {a b:ByteArray}(h:a.toList=b.toList):a=b:=by
 apply ByteArray.ext; apply Array.ext'
 rwa [ByteArray.toList_eq,ByteArray.toList_eq] at h
instance lawful:LawfulBEq ByteArray where
 eq_of_beq h:=(Go.MapKept.bytes_beq _ _).1 h
 rfl:=(Go.MapKept.bytes_beq _ _).2 rfl
def Lo (l:List Wr)(key:ByteArray):Nat->Option Wr
 | 0=>none
 | i+1=>match l[i]? with
   | none=>none
   | some w=>if w.1.toList == key.toList then some w else Lo l key i
def fo:Option Wr->ByteArray × Bool × ByteArray × Bool
 | none=>(ByteArray.empty,false,ByteArray.empty,false)
 | some w=>(w.1,w.2.1,w.2.2,true)
theorem Du (l:List Wr) (key:ByteArray):∀ (i:Nat) {w:Wr},Lo l key i=some w->w ∈ l/\w.1=key
 | 0,w,h=>by cases h
 | i + 1,w,h=>by
   rw [Lo] at h
   cases hli:l[i]? with
   | none=>rw [hli] at h; cases h
   | some v =>
     rw [hli] at h
     simp only at h
     cases hb:v.1.toList == key.toList with
     | true =>
       rw [hb] at h
       cases h
       exact ⟨List.mem_of_getElem? hli,Kk (beq_iff_eq.1 hb)⟩
     | false =>
       rw [hb] at h
       exact Du l key i h
end Go.Proofs.YtobfoiomjfdjjaaDoor.PFd
