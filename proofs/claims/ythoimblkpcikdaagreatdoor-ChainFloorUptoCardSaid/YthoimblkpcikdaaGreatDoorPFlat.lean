/- Frames' bodies in a row. -/
import Derived.Test.YthoimblkpcikdaaGreatDoorPJoin
namespace Go.Proofs.YthoimblkpcikdaaGreatDoor.PFlat
open Go.RowKit Go.Proofs.YthoimblkpcikdaaGreatDoor.Mc Go.Proofs.YthoimblkpcikdaaGreatDoor.N Go.Proofs.YthoimblkpcikdaaGreatDoor.Plain Go.Proofs.YthoimblkpcikdaaGreatDoor.PJoin
set_option linter.unusedSimpArgs false
set_option linter.unusedVariables false
theorem du (a:ByteArray):a ++ (⟨#[]⟩:ByteArray)=a:=by apply ByteArray.ext; simp
theorem dx (a:ByteArray):(⟨#[]⟩:ByteArray) ++ a=a:=by apply ByteArray.ext; simp
def flat:List Fr->ByteArray
 | []=>⟨#[]⟩
 | f :: m=>f.2.2.2 ++ flat m
theorem Ye:flat []=⟨#[]⟩:=rfl
theorem OB (f:Fr)(m:List Fr):flat (f :: m)=f.2.2.2 ++ flat m:=rfl
theorem Vu:∀ (m:List Fr) (X:ByteArray),m.foldl (fun b f=>b ++ f.2.2.2) X=X ++ flat m
 | [],X=>by rw [List.foldl_nil,Ye,du]
 | f :: m,X=>by rw [List.foldl_cons,Vu m,OB,ByteArray.append_assoc]
theorem XR (l:List Fr)(i:Nat):DH l i=flat (l.take i):=by
 unfold DH
 rw [Vu,dx]
def Xl (l:List Fr):Nat:=(l.map fun f=>f.2.2.2.size).sum
theorem dC (a b:List Fr):Xl (a ++ b)=Xl a+Xl b:=by unfold Xl; rw [List.map_append,List.sum_append]
theorem Rc (f:Fr)(b:List Fr):Xl (f :: b)=f.2.2.2.size+Xl b:=by unfold Xl; rw [List.map_cons,List.sum_cons]
theorem Od:∀ (l:List Fr),(flat l).size=Xl l
 | []=>rfl
 | f :: l=>by rw [OB,ByteArray.size_append,Od l,Rc]
theorem Yo (l:List Fr)(i:Nat):Xl (l.take i)<=Xl l:=by
 have:=dC (l.take i) (l.drop i)
 rw [List.take_append_drop] at this
 omega
theorem bP (l:List Fr)(i:Nat):(DH l i).size<=Xl l:=by
 rw [XR,Od]
 exact Yo l i
theorem dB {l:List Fr}{M:Nat}(h:∀ f ∈ l,f.2.2.2.size<=M):Xl l<=M * l.length:=by
 induction l with
 | nil=>exact Nat.le_refl _
 | cons f l ih =>
   have h1:=h f (by simp)
   have h2:=ih (fun g hg=>h g (by simp [hg]))
   rw [Rc,List.length_cons,Nat.mul_add]
   omega
end Go.Proofs.YthoimblkpcikdaaGreatDoor.PFlat
