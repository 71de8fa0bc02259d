/- Join: the program's and the reference's. -/
import Derived.Test.YthoimblkpcikdaaGreatDoorPPiece
import Derived.Test.YthoimblkpcikdaaGreatDoorPBatch3
namespace Go.Proofs.YthoimblkpcikdaaGreatDoor.PJoin
open Go.RowKit Go.Proofs.YthoimblkpcikdaaGreatDoor.Mc Go.Proofs.YthoimblkpcikdaaGreatDoor.N Go.Proofs.YthoimblkpcikdaaGreatDoor.Plain Go.Proofs.YthoimblkpcikdaaGreatDoor.PureKeys Go.Proofs.YthoimblkpcikdaaGreatDoor.PPiece Go.Proofs.YthoimblkpcikdaaGreatDoor.PBatch3
open Go.Proofs.YthoimblkpcikdaaGreatDoor.PCrc (Zj LI FI)
open Go.Proofs.YthoimblkpcikdaaGreatDoor.PBatch2 (Dg HM FQ IP)
set_option linter.unusedSimpArgs false
set_option linter.unusedVariables false
abbrev Fr:Type:=Int × Int × Int × ByteArray
theorem AM {α:Type}{l:List α}{j:Nat}(h:j < l.length):l.take (j+1)=l.take j ++ [l[j]]:=by
 rw [List.take_add_one,List.getElem?_eq_getElem h]; rfl
theorem scan {σ β γ:Type} {f:σ->Option (σ ⊕ (β ⊕ γ))} (n:Nat) (g:Nat->Bool) (st:Nat->σ) (c:γ) (hs:∀ i,i < n->(∀ j,j < i->g j=true)->if g i=true then f (st i)=some (.inl (st (i+1))) else ∃ b,f (st i)=some (.inr (.inl b))) (he:f (st n)=some (.inr (.inr c))) :
   ∀ (m i k:Nat),i+m=n->m < k->(∀ j,j < i->g j=true)->if (∀ j,j < n->g j=true) then AE f k (st i)=some (.inr c) else ∃ b,AE f k (st i)=some (.inl b)
 | 0,i,k,hi,hk,ha=>by
   obtain ⟨k,rfl⟩:∃ q,k=q+1:=⟨k - 1,by omega⟩
   have hin:i=n:=by omega
   subst hin
   rw [if_pos ha,AO he]
 | m + 1,i,k,hi,hk,ha=>by
   obtain ⟨k,rfl⟩:∃ q,k=q+1:=⟨k - 1,by omega⟩
   have h:=hs i (by omega) ha
   by_cases hg:g i=true
   · rw [if_pos hg] at h
     rw [Ab h]
     exact scan n g st c hs he m (i+1) k (by omega) (by omega) fun j hj=>by
       rcases Nat.lt_succ_iff_lt_or_eq.1 hj with hj | rfl
       · exact ha j hj
       · exact hg
   · rw [if_neg hg] at h
     obtain ⟨b,hb⟩:=h
     rw [if_neg (fun hall=>hg (hall i (by omega)))]
     exact ⟨b,AO hb⟩
def Jq (f:Fr):Bool:=pr f.1 f.2.1 f.2.2.1 f.2.2.2
def Kq (s:Int)(i:Nat)(f:Fr):Bool:=f.1 == 2 && (f.2.1 == s && f.2.2.1 == (i:Int))
def DH (l:List Fr)(i:Nat):ByteArray:=(l.take i).foldl (fun b f=>b ++ f.2.2.2) (⟨#[]⟩:ByteArray)
theorem Wd (l:List Fr)(i:Nat)(h:i < l.length):DH l (i+1)=DH l i ++ l[i].2.2.2:=by
 unfold DH
 rw [AM h,List.foldl_append]; rfl
def Small (l:List Fr):Prop:=l.length<=1000/\∀ f ∈ l,f.2.2.2.size<=1100000
abbrev Out:Type:=Int × Int × Int × List PBatch1.Wr × Int
noncomputable def fin (b:ByteArray)(z:Fr):Out :=
 if g4 z.2.2.2 12 ≠ IntKind.wrap .u32 (b.size:Int) then (0,0,0,[],5) else if g4 z.2.2.2 8 ≠ Zj b then (0,0,0,[],5) else if (KB b).2 ≠ 0 then (0,0,0,[],(KB b).2) else (z.2.1,g4 z.2.2.2 0,g4 z.2.2.2 4,(KB b).1,0)
end Go.Proofs.YthoimblkpcikdaaGreatDoor.PJoin
