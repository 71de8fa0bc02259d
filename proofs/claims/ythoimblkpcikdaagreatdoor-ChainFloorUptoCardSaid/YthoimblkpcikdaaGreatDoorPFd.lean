/- The last write of a key; BatchFind. -/
import Derived.Test.YthoimblkpcikdaaGreatDoorPureKeys
namespace Go.Proofs.YthoimblkpcikdaaGreatDoor.PFd
open Go.RowKit Go.Proofs.YthoimblkpcikdaaGreatDoor.Mc Go.Proofs.YthoimblkpcikdaaGreatDoor.N Go.Proofs.YthoimblkpcikdaaGreatDoor.Plain Go.Proofs.YthoimblkpcikdaaGreatDoor.PureKeys
set_option linter.unusedSimpArgs false
set_option linter.unusedVariables false
abbrev Wr:Type:=ByteArray × Bool × ByteArray
theorem NP {a b:ByteArray}(h:a.toList=b.toList):a=b:=by
 apply ByteArray.ext; apply Array.ext'
 rwa [ByteArray.toList_eq,ByteArray.toList_eq] at h
instance lawful:LawfulBEq ByteArray where
 eq_of_beq h:=(Go.MapKept.bytes_beq _ _).1 h
 rfl:=(Go.MapKept.bytes_beq _ _).2 rfl
theorem gf (a b:ByteArray):(a.toList == b.toList)=decide (a=b):=by
 by_cases h:a=b
 · subst h; simp
 · rw [decide_eq_false h,beq_eq_false_iff_ne]
   exact fun e=>h (NP e)
def Qp (l:List Wr)(key:ByteArray):Nat->Option Wr
 | 0=>none
 | i+1=>match l[i]? with
   | none=>none
   | some w=>if w.1.toList == key.toList then some w else Qp l key i
def fo:Option Wr->ByteArray × Bool × ByteArray × Bool
 | none=>(ByteArray.empty,false,ByteArray.empty,false)
 | some w=>(w.1,w.2.1,w.2.2,true)
theorem Hx (l:List Wr) (key:ByteArray):∀ (i:Nat) {w:Wr},Qp l key i=some w->w ∈ l/\w.1=key
 | 0,w,h=>by cases h
 | i + 1,w,h=>by
   rw [Qp] at h
   cases hli:l[i]? with
   | none=>rw [hli] at h; cases h
   | some v =>
     rw [hli] at h
     simp only at h
     cases hb:v.1.toList == key.toList with
     | true =>
       rw [hb] at h
       cases h
       exact ⟨List.mem_of_getElem? hli,NP (beq_iff_eq.1 hb)⟩
     | false =>
       rw [hb] at h
       exact Hx l key i h
theorem Iq (K:Nat) (l:List Wr) (key:ByteArray) (hl:l.length<=1000000):∀ (i k:Nat) (z:ByteArray × ByteArray),i<=l.length->i < k->∃ r,AE (NU K l key) k ((i:Int) - 1,z)=some r/\BN (fun y17:ByteArray × Bool × ByteArray=>some (y17.1,y17.2.1,y17.2.2,true)) (fun _=>some (ByteArray.empty,false,ByteArray.empty,false)) r=some (fo (Qp l key i))
 | 0,k,z,hi,hk=>by
   obtain ⟨k,rfl⟩:∃ q,k=q+1:=⟨k - 1,by omega⟩
   exact ⟨_,AO (by unfold NU; rw [AJ (by show ¬ (0:Int)<=((0:Nat):Int) - 1; omega)]),rfl⟩
 | i + 1,k,z,hi,hk=>by
   obtain ⟨k,rfl⟩:∃ q,k=q+1:=⟨k - 1,by omega⟩
   have hli:l[i]? = some l[i]:=List.getElem?_eq_getElem (by omega)
   have e:(((i+1:Nat):Int) - 1)=(i:Int):=by omega
   rw [e,Qp,hli]
   simp only []
   cases hb:l[i].1.toList == key.toList with
   | true =>
     refine ⟨_,AO (r:=.inl (l[i].1,l[i].2.1,l[i].2.2)) ?_,rfl⟩
     unfold NU
     simp only [DP,Int.toNat_natCast,hli,Option.bind_some]
     rw [AK (by omega),hb,cond_true]
   | false =>
     obtain ⟨r,r1,r2⟩:=Iq K l key hl i k z (by omega) (by omega)
     refine ⟨r,?_,r2⟩
     rw [Ab (b:=((i:Int) - 1,z))]
     · exact r1
     · unfold NU
       simp only [DP,Int.toNat_natCast,hli,Option.bind_some]
       rw [AK (by omega),hb,cond_false,BK (by omega) (by omega)]
theorem Ki (K:Nat)(l:List Wr)(key:ByteArray)(hl:l.length<=1000000)(hK:2000000<=K):da K l key=some (fo (Qp l key l.length)):=by
 obtain ⟨r,r1,r2⟩:=Iq K l key hl l.length K (ByteArray.empty,ByteArray.empty) (Nat.le_refl _) (by omega)
 unfold da
 rw [BK (by omega) (by omega),r1,Option.bind_some]
 exact r2
end Go.Proofs.YthoimblkpcikdaaGreatDoor.PFd
