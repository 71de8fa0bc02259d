/- Frames' bodies in a row. -/
import Derived.Test.YthoimblkpcikdaaGreatDoorPJoin
namespace Go.Proofs.YthoimblkpcikdaaGreatDoor.PFlat
open Go.RowKit Go.Proofs.YthoimblkpcikdaaGreatDoor.Mc Go.Proofs.YthoimblkpcikdaaGreatDoor.N Go.Proofs.YthoimblkpcikdaaGreatDoor.Plain Go.Proofs.YthoimblkpcikdaaGreatDoor.PJoin
set_option linter.unusedSimpArgs false
set_option linter.unusedVariables false
theorem dm (a:ByteArray):a ++ (⟨#[]⟩:ByteArray)=a:=by apply ByteArray.ext; simp
theorem dp (a:ByteArray):(⟨#[]⟩:ByteArray) ++ a=a:=by apply ByteArray.ext; simp
def flat:List Fr->ByteArray
 | []=>⟨#[]⟩
 | f :: m=>f.2.2.2 ++ flat m
theorem aI:flat []=⟨#[]⟩:=rfl
theorem PU (f:Fr)(m:List Fr):flat (f :: m)=f.2.2.2 ++ flat m:=rfl
theorem XW:∀ (m:List Fr) (X:ByteArray),m.foldl (fun b f=>b ++ f.2.2.2) X=X ++ flat m
 | [],X=>by rw [List.foldl_nil,aI,dm]
 | f :: m,X=>by rw [List.foldl_cons,XW m,PU,ByteArray.append_assoc]
theorem Yh (l:List Fr)(i:Nat):CW l i=flat (l.take i):=by
 unfold CW
 rw [XW,dp]
def ZS (l:List Fr):Nat:=(l.map fun f=>f.2.2.2.size).sum
theorem fZ (a b:List Fr):ZS (a ++ b)=ZS a+ZS b:=by unfold ZS; rw [List.map_append,List.sum_append]
theorem Tl (f:Fr)(b:List Fr):ZS (f :: b)=f.2.2.2.size+ZS b:=by unfold ZS; rw [List.map_cons,List.sum_cons]
theorem Pn:∀ (l:List Fr),(flat l).size=ZS l
 | []=>rfl
 | f :: l=>by rw [PU,ByteArray.size_append,Pn l,Tl]
theorem cT (l:List Fr)(i:Nat):ZS (l.take i)<=ZS l:=by
 have:=fZ (l.take i) (l.drop i)
 rw [List.take_append_drop] at this
 omega
theorem dK (l:List Fr)(i:Nat):(CW l i).size<=ZS l:=by
 rw [Yh,Pn]
 exact cT l i
theorem eo {l:List Fr}{M:Nat}(h:∀ f ∈ l,f.2.2.2.size<=M):ZS l<=M * l.length:=by
 induction l with
 | nil=>exact Nat.le_refl _
 | cons f l ih =>
   have h1:=h f (by simp)
   have h2:=ih (fun g hg=>h g (by simp [hg]))
   rw [Tl,List.length_cons,Nat.mul_add]
   omega
end Go.Proofs.YthoimblkpcikdaaGreatDoor.PFlat
