/- The regions that count: the program's order and the reference's row. -/
import Derived.Test.YthoimblkpcikdaaGreatDoorPWalk
namespace Go.Proofs.YthoimblkpcikdaaGreatDoor.PWalk2
open Go.RowKit Go.Proofs.YthoimblkpcikdaaGreatDoor.Mc Go.Proofs.YthoimblkpcikdaaGreatDoor.N Go.Proofs.YthoimblkpcikdaaGreatDoor.Plain Go.Proofs.YthoimblkpcikdaaGreatDoor.PAssocI Go.Proofs.YthoimblkpcikdaaGreatDoor.PRange Go.Proofs.YthoimblkpcikdaaGreatDoor.PWalk
open Go.Proofs.YthoimblkpcikdaaGreatDoor.PJoin (Fr AM)
open Go.Proofs.YthoimblkpcikdaaGreatDoor.PPut (GQ PU Qi)
set_option linter.unusedSimpArgs false
set_option linter.unusedVariables false
theorem QI (es:Es)(f:Rg):(ins es f).length<=es.length+1:=by
 unfold ins
 split
 · exact Qi _ _ _
 · omega
theorem Ie:∀ (x:List Rg) (es:Es),(x.foldl ins es).length<=es.length+x.length
 | [],es=>by simp
 | f :: x,es=>by
   have h1:=Ie x (ins es f)
   have h2:=QI es f
   rw [List.foldl_cons,List.length_cons]
   omega
def mp (x:List Rg):Es:=x.foldl ins []
theorem Zt {x:List Rg}(h:RN x):MI x (mp x):=by
 have:=MI.all x.length h (Nat.le_refl _)
 rwa [List.take_length] at this
theorem mB {x:List Rg}(h:RN x)(hl:x.length<=1000000):∃ W,WS x W/\W.length<=x.length:=by
 have hm:=Ie x []
 rw [List.length_nil,Nat.zero_add] at hm
 obtain ⟨W,_,hW,hWl⟩:=Qd 0 (Zt h) (List.Perm.refl _) (by unfold mp; omega)
 exact ⟨W,hW,by rw [hWl]; exact hm⟩
theorem TB (es:Es)(f:Rg):(cond (f.2.1 != 0) (cond (!((Ae DQ es f.2.1).isSome)) (some true) (some (decide (((Ae DQ es f.2.1).getD (0,0,([]:List (Int × Int × Int × ByteArray)),false)).1<=f.1)))) (some false):Option Bool)=some (Nr es f):=by
 unfold Nr
 cases f.2.1 != 0 with
 | false=>rfl
 | true=>cases Ae DQ es f.2.1 <;> rfl
theorem WE (es:Es)(f:Rg):(cond (Nr es f) (some (Bb es f.2.1 (f.1,f.2.1,f.2.2.1,f.2.2.2))) (some es):Option Es)=some (ins es f):=by
 unfold ins
 cases Nr es f <;> rfl
theorem Tx (K:Nat)(x:List Rg)(hK:x.length < K)(hl:x.length<=1000000):AE (VQ K x) K (0,[])=some (mp x):=by
 refine BE (fun i=>((i:Int),(x.take i).foldl ins [])) x.length (by rfl) hK (fun i hi=>?_) ?_
 · unfold VQ
   simp only [DP,Int.toNat_natCast,List.getElem?_eq_getElem hi,Option.bind_some]
   rw [AK (by omega),TB,Option.bind_some,WE,Option.bind_some,BK (by omega) (by omega),AM hi,List.foldl_append]
   rfl
 · unfold VQ
   dsimp only
   rw [AJ (by omega),List.take_length]; rfl
theorem Rs (K:Nat)(x:List Rg)(hK:x.length < K)(hl:x.length<=1000000):AE (LD K x) K (0,[])=some (mp x):=by
 refine BE (fun i=>((i:Int),(x.take i).foldl ins [])) x.length (by rfl) hK (fun i hi=>?_) ?_
 · unfold LD
   simp only [DP,Int.toNat_natCast,List.getElem?_eq_getElem hi,Option.bind_some]
   rw [AK (by omega),TB,Option.bind_some,WE,Option.bind_some,BK (by omega) (by omega),AM hi,List.foldl_append]
   rfl
 · unfold LD
   dsimp only
   rw [AJ (by omega),List.take_length]; rfl
theorem XU (K:Nat)(hK:2000000<=K)(a b c:Int){x W:List Rg}(hx:RN x)(hl:x.length<=1000000)(hW:WS x W):nt K a b c x=some (a,b,c,W):=by
 have hm:=Ie x []
 have hml:(mp x).length<=1000000:=by unfold mp; simp at hm; omega
 unfold nt
 rw [Tx K x (by omega) hl,Option.bind_some]
 refine El (fun rest (out:List Rg)=>((mp x,rest),out)) (fun out=>(mp x,out)) (fun out e=>out ++ [e.2]) (fun n out=>out.length+n<=1000000) (fun out Kin Kout=>rfl) (fun rest out Kin Kout hne hi=>?_) (fun n out e h=>by simp; omega) _ _ (mp x).length K (mp x) [] rfl (by omega) (by simpa using hml) (fun q hq=>?_)
 · unfold Zx
   rw [show rest.isEmpty=false by cases rest with | nil=>exact absurd rfl hne | cons=>rfl,cond_false]
   have:0 < rest.length:=List.length_pos_iff.2 hne
   refine congrArg (JB rest) (funext fun j=>funext fun e=>?_)
   exact BB (by dsimp only; rw [List.length_singleton]; omega)
 · obtain ⟨W', h1,h2,_⟩:=Qd K (Zt hx) hq hml
   rw [hW.uniq h2]
   dsimp only
   rw [FN (fun e:Int × Rg=>e.2),List.nil_append,h1,Option.bind_some]
theorem UY (K:Nat)(hK:2000000<=K)(a b c:Int){x W:List Rg}(hx:RN x)(hl:x.length<=1000000)(hW:WS x W):VE K a b c x=some (a,b,c,W):=by
 have hm:=Ie x []
 have hml:(mp x).length<=1000000:=by unfold mp; simp at hm; omega
 unfold VE
 rw [Rs K x (by omega) hl,Option.bind_some]
 refine El (fun rest (out:List Rg)=>((mp x,rest),out)) (fun out=>(mp x,out)) (fun out e=>out ++ [e.2]) (fun n out=>out.length+n<=1000000) (fun out Kin Kout=>rfl) (fun rest out Kin Kout hne hi=>?_) (fun n out e h=>by simp; omega) _ _ (mp x).length K (mp x) [] rfl (by omega) (by simpa using hml) (fun q hq=>?_)
 · unfold TL
   rw [show rest.isEmpty=false by cases rest with | nil=>exact absurd rfl hne | cons=>rfl,cond_false]
   have:0 < rest.length:=List.length_pos_iff.2 hne
   refine congrArg (JB rest) (funext fun j=>funext fun e=>?_)
   exact BB (by dsimp only; rw [List.length_singleton]; omega)
 · obtain ⟨W', h1,h2,_⟩:=Qd K (Zt hx) hq hml
   rw [hW.uniq h2]
   dsimp only
   rw [FN (fun e:Int × Rg=>e.2),List.nil_append,h1,Option.bind_some]
abbrev Pl:Type:=Int × Int × Int × ByteArray × Int × Int × Int
def DU (f:Rg)(k:Nat)(r:Fr):Pl:=(r.1,r.2.1,r.2.2.1,r.2.2.2,f.2.1,f.1,((k+1:Nat):Int))
def LW (f:Rg):List Pl:=f.2.2.1.mapIdx (DU f)
def flat (W:List Rg):List Pl:=W.flatMap LW
theorem OO (W:List Rg)(f:Rg):flat (W ++ [f])=flat W ++ LW f:=by
 unfold flat
 rw [List.flatMap_append,List.flatMap_singleton]
theorem Cr (f:Rg):(LW f).length=f.2.2.1.length:=by unfold LW; rw [List.length_mapIdx]
theorem JS (f:Rg){i:Nat}(h:i < f.2.2.1.length):(LW f)[i]? = some (DU f i f.2.2.1[i]):=by
 unfold LW
 rw [List.getElem?_mapIdx,List.getElem?_eq_getElem h]; rfl
theorem SX:∀ {W:List Rg} {M:Nat},(∀ f ∈ W,f.2.2.1.length<=M)->(flat W).length<=M * W.length
 | [],M,_=>Nat.zero_le _
 | f :: W,M,h=>by
   have h1:=h f (by simp)
   have h2:=SX (W:=W) (M:=M) (fun g hg=>h g (by simp [hg]))
   have e:flat (f :: W)=LW f ++ flat W:=rfl
   rw [e,List.length_append,Cr,List.length_cons,Nat.mul_add]
   omega
theorem OA (K:Nat){x:List Rg}{n:Nat}{g:Rg}(hg:x[n]? = some g)(hF:g.2.2.1.length<=1000)(hK:2000000<=K)(out:List Pl)(ho:out.length<=1000000):AE (PV K g x (n:Int)) K (0,out)=some (out ++ LW g):=by
 refine BE (fun i=>((i:Int),out ++ (LW g).take i)) g.2.2.1.length (by simp) (by omega) (fun i hi=>?_) ?_
 · have hpl:i < (LW g).length:=by rw [Cr]; exact hi
   unfold PV
   simp only [DP,Int.toNat_natCast,hg,List.getElem?_eq_getElem hi,Option.bind_some]
   rw [AK (by omega),BK (by omega) (by omega),BB (by rw [List.length_append,List.length_take,List.length_singleton]; omega),AM hpl,List.append_assoc]
   have e:(LW g)[i]=DU g i g.2.2.1[i]:=Option.some.inj ((List.getElem?_eq_getElem hpl).symm.trans (JS g hi))
   rw [e]; rfl
 · unfold PV
   simp only [DP,Int.toNat_natCast,hg,Option.bind_some]
   rw [AJ (by omega),List.take_of_length_le (by rw [Cr]; exact Nat.le_refl _)]
end Go.Proofs.YthoimblkpcikdaaGreatDoor.PWalk2
