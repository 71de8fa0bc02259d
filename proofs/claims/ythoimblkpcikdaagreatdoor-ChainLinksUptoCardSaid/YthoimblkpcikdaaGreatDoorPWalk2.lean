/- The regions that count: the program's order and the reference's row. -/
import Derived.Test.YthoimblkpcikdaaGreatDoorPWalk
namespace Go.Proofs.YthoimblkpcikdaaGreatDoor.PWalk2
open Go.RowKit Go.Proofs.YthoimblkpcikdaaGreatDoor.Mc Go.Proofs.YthoimblkpcikdaaGreatDoor.N Go.Proofs.YthoimblkpcikdaaGreatDoor.Plain Go.Proofs.YthoimblkpcikdaaGreatDoor.PAssocI Go.Proofs.YthoimblkpcikdaaGreatDoor.PRange Go.Proofs.YthoimblkpcikdaaGreatDoor.PWalk
open Go.Proofs.YthoimblkpcikdaaGreatDoor.PJoin (Fr AL)
open Go.Proofs.YthoimblkpcikdaaGreatDoor.PPut (Gw Ql RV)
set_option linter.unusedSimpArgs false
set_option linter.unusedVariables false
theorem Qt (es:Es)(f:Rg):(ins es f).length<=es.length+1:=by
 unfold ins
 split
 · exact RV _ _ _
 · omega
theorem Ja:∀ (x:List Rg) (es:Es),(x.foldl ins es).length<=es.length+x.length
 | [],es=>by simp
 | f :: x,es=>by
   have h1:=Ja x (ins es f)
   have h2:=Qt es f
   rw [List.foldl_cons,List.length_cons]
   omega
def mp (x:List Rg):Es:=x.foldl ins []
theorem aq {x:List Rg}(h:RN x):MI x (mp x):=by
 have:=MI.all x.length h (Nat.le_refl _)
 rwa [List.take_length] at this
theorem gO {x:List Rg}(h:RN x)(hl:x.length<=1000000):∃ W,WS x W/\W.length<=x.length:=by
 have hm:=Ja x []
 rw [List.length_nil,Nat.zero_add] at hm
 obtain ⟨W,_,hW,hWl⟩:=RZ 0 (aq h) (List.Perm.refl _) (by unfold mp; omega)
 exact ⟨W,hW,by rw [hWl]; exact hm⟩
theorem kn {x W:List Rg}(h:RN x)(hl:x.length<=1000000)(hW:WS x W):W.length<=x.length:=by
 obtain ⟨W', h1,h2⟩:=gO h hl
 rw [hW.uniq h1]; exact h2
theorem UK (es:Es)(f:Rg):(cond (f.2.1 != 0) (cond (!((Ai Da es f.2.1).isSome)) (some true) (some (decide (((Ai Da es f.2.1).getD (0,0,([]:List (Int × Int × Int × ByteArray)),false)).1<=f.1)))) (some false):Option Bool)=some (Om es f):=by
 unfold Om
 cases f.2.1 != 0 with
 | false=>rfl
 | true=>cases Ai Da es f.2.1 <;> rfl
theorem Wf (es:Es)(f:Rg):(cond (Om es f) (some (Be es f.2.1 (f.1,f.2.1,f.2.2.1,f.2.2.2))) (some es):Option Es)=some (ins es f):=by
 unfold ins
 cases Om es f <;> rfl
theorem Vl (K:Nat)(x:List Rg)(hK:x.length < K)(hl:x.length<=1000000):AB (Wj K x) K (0,[])=some (mp x):=by
 refine Ag (fun i=>((i:Int),(x.take i).foldl ins [])) x.length (by rfl) hK (fun i hi=>?_) ?_
 · unfold Wj
   simp only [Bz,Int.toNat_natCast,List.getElem?_eq_getElem hi,Option.bind_some]
   rw [AE (by omega),UK,Option.bind_some,Wf,Option.bind_some,Aq (by omega) (by omega),AL hi,List.foldl_append]
   rfl
 · unfold Wj
   dsimp only
   rw [AF (by omega),List.take_length]; rfl
theorem Ua (K:Nat)(x:List Rg)(hK:x.length < K)(hl:x.length<=1000000):AB (Ly K x) K (0,[])=some (mp x):=by
 refine Ag (fun i=>((i:Int),(x.take i).foldl ins [])) x.length (by rfl) hK (fun i hi=>?_) ?_
 · unfold Ly
   simp only [Bz,Int.toNat_natCast,List.getElem?_eq_getElem hi,Option.bind_some]
   rw [AE (by omega),UK,Option.bind_some,Wf,Option.bind_some,Aq (by omega) (by omega),AL hi,List.foldl_append]
   rfl
 · unfold Ly
   dsimp only
   rw [AF (by omega),List.take_length]; rfl
theorem YY (K:Nat)(hK:2000000<=K)(a b c:Int){x W:List Rg}(hx:RN x)(hl:x.length<=1000000)(hW:WS x W):pV K a b c x=some (a,b,c,W):=by
 have hm:=Ja x []
 have hml:(mp x).length<=1000000:=by unfold mp; simp at hm; omega
 unfold pV
 rw [Vl K x (by omega) hl,Option.bind_some]
 refine FN (fun rest (out:List Rg)=>((mp x,rest),out)) (fun out=>(mp x,out)) (fun out e=>out ++ [e.2]) (fun n out=>out.length+n<=1000000) (fun out Kin Kout=>rfl) (fun rest out Kin Kout hne hi=>?_) (fun n out e h=>by simp; omega) _ _ (mp x).length K (mp x) [] rfl (by omega) (by simpa using hml) (fun q hq=>?_)
 · unfold cX
   rw [show rest.isEmpty=false by cases rest with | nil=>exact absurd rfl hne | cons=>rfl,cond_false]
   have:0 < rest.length:=List.length_pos_iff.2 hne
   refine congrArg (IY rest) (funext fun j=>funext fun e=>?_)
   exact Ak (by dsimp only; rw [List.length_singleton]; omega)
 · obtain ⟨W', h1,h2,_⟩:=RZ K (aq hx) hq hml
   rw [hW.uniq h2]
   dsimp only
   rw [Fj (fun e:Int × Rg=>e.2),List.nil_append,h1,Option.bind_some]
theorem Ux (K:Nat)(hK:2000000<=K)(a b c:Int){x W:List Rg}(hx:RN x)(hl:x.length<=1000000)(hW:WS x W):Xs K a b c x=some (a,b,c,W):=by
 have hm:=Ja x []
 have hml:(mp x).length<=1000000:=by unfold mp; simp at hm; omega
 unfold Xs
 rw [Ua K x (by omega) hl,Option.bind_some]
 refine FN (fun rest (out:List Rg)=>((mp x,rest),out)) (fun out=>(mp x,out)) (fun out e=>out ++ [e.2]) (fun n out=>out.length+n<=1000000) (fun out Kin Kout=>rfl) (fun rest out Kin Kout hne hi=>?_) (fun n out e h=>by simp; omega) _ _ (mp x).length K (mp x) [] rfl (by omega) (by simpa using hml) (fun q hq=>?_)
 · unfold TK
   rw [show rest.isEmpty=false by cases rest with | nil=>exact absurd rfl hne | cons=>rfl,cond_false]
   have:0 < rest.length:=List.length_pos_iff.2 hne
   refine congrArg (IY rest) (funext fun j=>funext fun e=>?_)
   exact Ak (by dsimp only; rw [List.length_singleton]; omega)
 · obtain ⟨W', h1,h2,_⟩:=RZ K (aq hx) hq hml
   rw [hW.uniq h2]
   dsimp only
   rw [Fj (fun e:Int × Rg=>e.2),List.nil_append,h1,Option.bind_some]
abbrev Pl:Type:=Int × Int × Int × ByteArray × Int × Int × Int
def Dv (f:Rg)(k:Nat)(r:Fr):Pl:=(r.1,r.2.1,r.2.2.1,r.2.2.2,f.2.1,f.1,((k+1:Nat):Int))
def MA (f:Rg):List Pl:=f.2.2.1.mapIdx (Dv f)
def flat (W:List Rg):List Pl:=W.flatMap MA
theorem KT (W:List Rg)(f:Rg):flat (W ++ [f])=flat W ++ MA f:=by
 unfold flat
 rw [List.flatMap_append,List.flatMap_singleton]
def GH (W:List Rg)(j:Nat):Int:=if j=0 then 0 else ((W[j - 1]?).map fun f:Rg=>f.2.1).getD 0
def aF (x:List Rg)(last:Int)(i:Nat)(at_:Int):Prop :=
 (at_ = -1/\∀ (j:Nat) (f:Rg),j < i->x[j]? = some f->¬ last < f.2.1)\/∃ (n:Nat) (g:Rg),n < i/\at_=(n:Int)/\x[n]? = some g/\last < g.2.1/\∀ (j:Nat) (f:Rg),j < i->x[j]? = some f->last < f.2.1->g.2.1 < f.2.1\/(g.2.1=f.2.1/\f.1<=g.1)
theorem OS (K:Nat) (x:List Rg) (hK:x.length < K) (hl:x.length<=1000000) (last:Int) (out:List Pl):∃ at_,AB (FX K x (last,out)) K (-1,0)=some at_/\aF x last x.length at_:=by
 refine GQ (fun i (z:Int × Int)=>z.2=(i:Int)/\aF x last i z.1) _ x.length ⟨rfl,.inl ⟨rfl,fun j f hj=>absurd hj (by omega)⟩⟩ hK (fun i z hi hz=>?_) (fun z hz=>?_)
 · obtain ⟨at_,i'⟩:=z
   obtain ⟨hi', hs⟩:=hz
   dsimp only at hi' hs
   subst hi'
   have hxi:x[i]? = some x[i]:=List.getElem?_eq_getElem hi
   have hlt:∀ (j:Nat) (f:Rg),j < i+1->x[j]? = some f->j < i\/f=x[i]:=by
     intro j f hj hf
     rcases Nat.lt_succ_iff_lt_or_eq.1 hj with h | rfl
     · exact .inl h
     · rw [hxi] at hf; cases hf; exact .inr rfl
   have body:∀ q:Bool,(∀ K', FX K x (last,out) (at_,(i:Int))=K' -> K' = some (.inl (if q then (i:Int) else at_,((i+1:Nat):Int))))->aF x last (i+1) (if q then (i:Int) else at_)->∃ b,FX K x (last,out) (at_,(i:Int))=some (.inl b)/\b.2=((i+1:Nat):Int)/\aF x last (i+1) b.1:=by
     intro q h1 h2
     exact ⟨_,h1 _ rfl,rfl,h2⟩
   by_cases hgt:last < x[i].2.1
   · rcases hs with ⟨rfl,hs⟩ | ⟨n,g,hn,rfl,hg,hgl,hs⟩
     · refine body true (fun K' h=>?_) (.inr ⟨i,x[i],by omega,rfl,hxi,hgt,fun j f hj hf hfl=>?_⟩)
       · rw [<- h]
         unfold FX
         simp only [Bz,Int.toNat_natCast,hxi,Option.bind_some]
         rw [AE (by omega),AE hgt,AE (by omega),Option.bind_some,cond_true,Option.bind_some,Aq (by omega) (by omega)]; rfl
       · rcases hlt j f hj hf with h | rfl
         · exact absurd hfl (hs j f h hf)
         · exact .inr ⟨rfl,Int.le_refl _⟩
     · have hnl:n < x.length:=(List.getElem?_eq_some_iff.1 hg).1
       have run:∀ q:Bool,(q=(decide (x[i].2.1 < g.2.1) || (decide (x[i].2.1=g.2.1) && decide (g.1 < x[i].1))))->∀ K', FX K x (last,out) ((n:Int),(i:Int))=K' -> K' = some (.inl (if q then (i:Int) else (n:Int),((i+1:Nat):Int))):=by
         intro q hq K' h
         rw [<- h]
         unfold FX
         simp only [Bz,Int.toNat_natCast,hxi,hg,Option.bind_some]
         rw [AE (by omega),AE hgt,AF (by omega),Aq (by omega) (by omega)]
         by_cases c1:x[i].2.1 < g.2.1
         · rw [decide_eq_true c1,Bool.true_or] at hq
           subst hq
           rw [AE c1]; rfl
         · rw [decide_eq_false c1,Bool.false_or] at hq
           rw [AF c1]
           by_cases c2:x[i].2.1=g.2.1
           · rw [decide_eq_true c2,Bool.true_and] at hq
             rw [beq_iff_eq.2 c2,cond_true,Option.bind_some,<- hq]
             cases q <;> rfl
           · rw [decide_eq_false c2,Bool.false_and] at hq
             subst hq
             rw [beq_eq_false_iff_ne.2 c2]; rfl
       by_cases hc:x[i].2.1 < g.2.1\/(x[i].2.1=g.2.1/\g.1 < x[i].1)
       · refine body true (run true ?_) (.inr ⟨i,x[i],by omega,rfl,hxi,hgt,fun j f hj hf hfl=>?_⟩)
         · rcases hc with h | ⟨h1,h2⟩
           · rw [decide_eq_true h]; rfl
           · rw [decide_eq_true h1,decide_eq_true h2]; simp
         · rcases hlt j f hj hf with h | rfl
           · rcases hs j f h hf hfl with h1 | ⟨h1,h2⟩
             · left; omega
             · rcases hc with h3 | ⟨h3,h4⟩
               · left; omega
               · right; omega
           · exact .inr ⟨rfl,Int.le_refl _⟩
       · refine body false (run false ?_) (.inr ⟨n,g,by omega,rfl,hg,hgl,fun j f hj hf hfl=>?_⟩)
         · have h1:¬ x[i].2.1 < g.2.1:=fun h=>hc (.inl h)
           rw [decide_eq_false h1]
           by_cases h2:x[i].2.1=g.2.1
           · have h3:¬ g.1 < x[i].1:=fun h=>hc (.inr ⟨h2,h⟩)
             rw [decide_eq_false h3]; simp
           · rw [decide_eq_false h2]; rfl
         · rcases hlt j f hj hf with h | rfl
           · exact hs j f h hf hfl
           · omega
   · refine body false (fun K' h=>?_) ?_
     · rw [<- h]
       unfold FX
       simp only [Bz,Int.toNat_natCast,hxi,Option.bind_some]
       rw [AE (by omega),AF hgt,Option.bind_some,cond_false,Option.bind_some,Aq (by omega) (by omega)]; rfl
     · rcases hs with ⟨h1,hs⟩ | ⟨n,g,hn,h1,hg,hgl,hs⟩
       · refine .inl ⟨h1,fun j f hj hf=>?_⟩
         rcases hlt j f hj hf with h | rfl
         · exact hs j f h hf
         · exact hgt
       · refine .inr ⟨n,g,by omega,h1,hg,hgl,fun j f hj hf hfl=>?_⟩
         rcases hlt j f hj hf with h | rfl
         · exact hs j f h hf hfl
         · exact absurd hfl hgt
 · obtain ⟨at_,i'⟩:=z
   obtain ⟨hi', hs⟩:=hz
   dsimp only at hi' hs
   subst hi'
   refine ⟨at_,?_,hs⟩
   unfold FX
   dsimp only
   rw [AF (by omega)]
theorem Ie {x W:List Rg} (hx:RN x) (hE:∀ f ∈ x,0<=f.2.1) (hW:WS x W) {j:Nat} (hj:j<=W.length) {at_:Int} (h:aF x (GH W j) x.length at_) :
   (j=W.length/\at_ = -1)\/∃ (n:Nat) (g:Rg),at_=(n:Int)/\x[n]? = some g/\W[j]? = some g:=by
 have hlast0:0<=GH W j:=by
   unfold GH
   split
   · omega
   · cases hw:W[j - 1]? with
     | none=>simp
     | some f =>
       have:=hE f ((hW.mem f).1 (List.mem_of_getElem? hw)).1
       simpa using this
 have hge:∀ (m:Nat) (f:Rg),W[m]? = some f->GH W j < f.2.1->j<=m:=by
   intro m f hm hlt
   rcases Nat.lt_or_ge m j with hmj | hmj
   · exfalso
     unfold GH at hlt
     rw [if_neg (by omega),List.getElem?_eq_getElem (show j - 1 < W.length by omega)] at hlt
     simp only [Option.map_some,Option.getD_some] at hlt
     have hml:m < W.length:=by omega
     rw [List.getElem?_eq_getElem hml] at hm
     cases hm
     rcases Nat.lt_or_ge m (j - 1) with h1 | h1
     · have:=List.pairwise_iff_getElem.1 hW.Yg m (j - 1) hml (by omega) h1
       omega
     · have e:m=j - 1:=by omega
       subst e
       omega
   · exact hmj
 have hgt:∀ (m:Nat) (f:Rg),j<=m->W[m]? = some f->GH W j < f.2.1:=by
   intro m f hm hf
   have hml:m < W.length:=(List.getElem?_eq_some_iff.1 hf).1
   have hb:=((hW.mem f).1 (List.mem_of_getElem? hf))
   have h0:=hE f hb.1
   have h1:=hb.2.1
   unfold GH
   split
   · omega
   · next hj0 =>
     rw [List.getElem?_eq_getElem (show j - 1 < W.length by omega)]
     simp only [Option.map_some,Option.getD_some]
     rw [List.getElem?_eq_getElem hml] at hf
     cases hf
     exact List.pairwise_iff_getElem.1 hW.Yg (j - 1) m (by omega) hml (by omega)
 rcases h with ⟨h1,h2⟩ | ⟨n,g,hn,h1,hg,hgl,h2⟩
 · left
   refine ⟨?_,h1⟩
   rcases Nat.lt_or_ge j W.length with hjl | hjl
   · exfalso
     have hwj:W[j]? = some W[j]:=List.getElem?_eq_getElem hjl
     obtain ⟨k1,_⟩:=(hW.mem _).1 (List.getElem_mem hjl)
     obtain ⟨i,hi,e⟩:=List.getElem_of_mem k1
     exact h2 i W[j] hi (by rw [List.getElem?_eq_getElem hi,e]) (hgt j _ (Nat.le_refl _) hwj)
   · omega
 · right
   have hgx:g ∈ x:=List.mem_of_getElem? hg
   obtain ⟨f,hf,hfe⟩:=hW.lR g hgx (by omega)
   obtain ⟨m,hm,hme⟩:=List.getElem_of_mem hf
   have hwm:W[m]? = some f:=by rw [List.getElem?_eq_getElem hm,hme]
   have hjm:=hge m f hwm (by omega)
   have hjl:j < W.length:=by omega
   have hwj:W[j]? = some W[j]:=List.getElem?_eq_getElem hjl
   have hbj:=(hW.mem _).1 (List.getElem_mem hjl)
   obtain ⟨i,hi,e⟩:=List.getElem_of_mem hbj.1
   have hxi:x[i]? = some W[j]:=by rw [List.getElem?_eq_getElem hi,e]
   have hmin:=h2 i W[j] hi hxi (hgt j _ (Nat.le_refl _) hwj)
   have hmj:m=j:=by
     rcases Nat.lt_or_ge j m with h3 | h3
     · exfalso
       have:=List.pairwise_iff_getElem.1 hW.Yg j m hjl hm h3
       rw [hme] at this
       omega
     · omega
   subst hmj
   have hfj:f=W[m]:=hme.symm
   refine ⟨n,g,h1,hg,?_⟩
   rw [hwj]
   congr 1
   refine (hx.same hgx hbj.1 ?_).symm
   rw [<- hfj] at hbj hmin ⊢
   have h4:=hbj.2.2 g hgx hfe.symm
   omega
theorem Cv (f:Rg):(MA f).length=f.2.2.1.length:=by unfold MA; rw [List.length_mapIdx]
theorem Mr (f:Rg){i:Nat}(h:i < f.2.2.1.length):(MA f)[i]? = some (Dv f i f.2.2.1[i]):=by
 unfold MA
 rw [List.getElem?_mapIdx,List.getElem?_eq_getElem h]; rfl
theorem Nj:∀ {W:List Rg} {M:Nat},(∀ f ∈ W,f.2.2.1.length<=M)->(flat W).length<=M * W.length
 | [],M,_=>Nat.zero_le _
 | f :: W,M,h=>by
   have h1:=h f (by simp)
   have h2:=Nj (W:=W) (M:=M) (fun g hg=>h g (by simp [hg]))
   have e:flat (f :: W)=MA f ++ flat W:=rfl
   rw [e,List.length_append,Cv,List.length_cons,Nat.mul_add]
   omega
theorem Jy (K:Nat){x:List Rg}{n:Nat}{g:Rg}(hg:x[n]? = some g)(hF:g.2.2.1.length<=1000)(hK:2000000<=K)(out:List Pl)(ho:out.length<=1000000):AB (Qa K g x (n:Int)) K (0,out)=some (out ++ MA g):=by
 refine Ag (fun i=>((i:Int),out ++ (MA g).take i)) g.2.2.1.length (by simp) (by omega) (fun i hi=>?_) ?_
 · have hpl:i < (MA g).length:=by rw [Cv]; exact hi
   unfold Qa
   simp only [Bz,Int.toNat_natCast,hg,List.getElem?_eq_getElem hi,Option.bind_some]
   rw [AE (by omega),Aq (by omega) (by omega),Ak (by rw [List.length_append,List.length_take,List.length_singleton]; omega),AL hpl,List.append_assoc]
   have e:(MA g)[i]=Dv g i g.2.2.1[i]:=Option.some.inj ((List.getElem?_eq_getElem hpl).symm.trans (Mr g hi))
   rw [e]; rfl
 · unfold Qa
   simp only [Bz,Int.toNat_natCast,hg,Option.bind_some]
   rw [AF (by omega),List.take_of_length_le (by rw [Cv]; exact Nat.le_refl _)]
theorem fO (K:Nat) (hK:2000000<=K) {x W:List Rg} (hx:RN x) (hl:x.length<=1000) (hE:∀ f ∈ x,0<=f.2.1) (hF:∀ f ∈ x,f.2.2.1.length<=1000) (hW:WS x W):pd K x=some (flat W):=by
 have hWl:=kn hx (by omega) hW
 have hWF:∀ f ∈ W,f.2.2.1.length<=1000:=fun f hf=>hF f ((hW.mem f).1 hf).1
 have hloop:AB (Wn K x) K (0,[])=some (flat W):=by
  refine Ag (fun j=>(GH W j,flat (W.take j))) W.length (by rfl) (by omega) (fun j hj=>?_) ?_
  · obtain ⟨at_,e1,hs⟩:=OS K x (by omega) (by omega) (GH W j) (flat (W.take j))
    rcases Ie hx hE hW (by omega) hs with ⟨h,_⟩ | ⟨n,g,rfl,hg,hwj⟩
    · omega
    · have hgw:g=W[j]:=by rw [List.getElem?_eq_getElem hj] at hwj; exact (Option.some.inj hwj).symm
      have hfl:(flat (W.take j)).length<=1000000:=by
        have:=Nj (W:=W.take j) (M:=1000) (fun f hf=>hWF f (List.mem_of_mem_take hf))
        have h2:(W.take j).length<=1000:=by rw [List.length_take]; omega
        have:=Nat.mul_le_mul_left 1000 h2
        omega
      unfold Wn
      rw [e1,Option.bind_some,AF (by omega)]
      simp only [Bz,Int.toNat_natCast,hg,Option.bind_some]
      rw [Jy K hg (hF g (List.mem_of_getElem? hg)) hK _ hfl,Option.bind_some,AL hj,KT,<- hgw]
      congr 3
      unfold GH
      rw [if_neg (by omega),Nat.add_sub_cancel,hwj]; rfl
  · obtain ⟨at_,e1,hs⟩:=OS K x (by omega) (by omega) (GH W W.length) (flat (W.take W.length))
    rcases Ie hx hE hW (Nat.le_refl _) hs with ⟨_,rfl⟩ | ⟨n,g,rfl,hg,hwj⟩
    · unfold Wn
      rw [e1,Option.bind_some,AE (by omega),List.take_length]
    · rw [List.getElem?_eq_none (Nat.le_refl _)] at hwj; cases hwj
 unfold pd
 rw [hloop]; rfl
end Go.Proofs.YthoimblkpcikdaaGreatDoor.PWalk2
