/- ChainFloor's plain law. -/
import Derived.Test.YthoimblkpcikdaaGreatDoorPChn
namespace Go.Proofs.YthoimblkpcikdaaGreatDoor.PureChainFloor
open Go.RowKit Go.Proofs.YthoimblkpcikdaaGreatDoor.Mc Go.Proofs.YthoimblkpcikdaaGreatDoor.N Go.Proofs.YthoimblkpcikdaaGreatDoor.Plain Go.Proofs.YthoimblkpcikdaaGreatDoor.PWalk Go.Proofs.YthoimblkpcikdaaGreatDoor.PWalk2 Go.Proofs.YthoimblkpcikdaaGreatDoor.PRev Go.Proofs.YthoimblkpcikdaaGreatDoor.PPiece Go.Proofs.YthoimblkpcikdaaGreatDoor.PGrp Go.Proofs.YthoimblkpcikdaaGreatDoor.PGrp3 Go.Proofs.YthoimblkpcikdaaGreatDoor.PGrp4 Go.Proofs.YthoimblkpcikdaaGreatDoor.PKeep1 Go.Proofs.YthoimblkpcikdaaGreatDoor.PKeep2 Go.Proofs.YthoimblkpcikdaaGreatDoor.PKeep3 Go.Proofs.YthoimblkpcikdaaGreatDoor.PKeep4 Go.Proofs.YthoimblkpcikdaaGreatDoor.PKeep5 Go.Proofs.YthoimblkpcikdaaGreatDoor.PRaw Go.Proofs.YthoimblkpcikdaaGreatDoor.PRaw2 Go.Proofs.YthoimblkpcikdaaGreatDoor.PFlo Go.Proofs.YthoimblkpcikdaaGreatDoor.PChain Go.Proofs.YthoimblkpcikdaaGreatDoor.PG4
open Go.Proofs.YthoimblkpcikdaaGreatDoor.PJoin (Fr)
open Go.Proofs.YthoimblkpcikdaaGreatDoor.PPut (SM)
open Go.Proofs.YthoimblkpcikdaaGreatDoor.PCut (Ag)
open Go.Proofs.YthoimblkpcikdaaGreatDoor.PHand (Sm)
set_option linter.unusedSimpArgs false
set_option linter.unusedVariables false
def Gd (o:Option Pl)(M:List Pl):Prop:=(o=none/\∀ q ∈ M,q.1 ≠ 4)\/∃ q,o=some q/\q ∈ M/\q.1=4/\∀ z ∈ M,z.1=4->z.2.1<=q.2.1
theorem Gd.step {o:Option Pl} {M:List Pl} (h:Gd o M) (p:Pl):Gd (LZ o p) (M ++ [p]):=by
 unfold LZ
 by_cases hc:p.1=4/\nu o p=true
 · rw [if_pos hc]
   refine .inr ⟨p,rfl,by simp,hc.1,fun z hz h4=>?_⟩
   rcases List.mem_append.1 hz with hz | hz
   · rcases h with ⟨_,h⟩ | ⟨q,rfl,_,_,h⟩
     · exact absurd h4 (h z hz)
     · have h1:=h z hz h4
       have hb:mS q p=true:=hc.2
       unfold mS at hb
       rw [Bool.or_eq_true,Bool.and_eq_true,beq_iff_eq] at hb
       rcases hb with hb | hb
       · have:=of_decide_eq_true hb; omega
       · omega
   · rw [List.mem_singleton] at hz; rw [hz]; exact Int.le_refl _
 · rw [if_neg hc]
   rcases h with ⟨rfl,h⟩ | ⟨q,rfl,hm,hq,h⟩
   · refine .inl ⟨rfl,fun z hz h4=>?_⟩
     rcases List.mem_append.1 hz with hz | hz
     · exact h z hz h4
     · rw [List.mem_singleton] at hz
       rw [hz] at h4
       exact hc ⟨h4,rfl⟩
   · refine .inr ⟨q,rfl,List.mem_append_left _ hm,hq,fun z hz h4=>?_⟩
     rcases List.mem_append.1 hz with hz | hz
     · exact h z hz h4
     · rw [List.mem_singleton] at hz
       rw [hz] at h4 ⊢
       have hb:¬ mS q p=true:=fun hb=>hc ⟨h4,hb⟩
       unfold mS at hb
       rw [Bool.or_eq_true] at hb
       by_cases h1:q.2.1 < p.2.1
       · exact absurd (.inl (decide_eq_true h1)) hb
       · omega
theorem Gd.all:∀ (L:List Pl) (o:Option Pl) (M:List Pl),Gd o M->Gd (L.foldl LZ o) (M ++ L)
 | [],o,M,h=>by rw [List.append_nil]; exact h
 | p :: L,o,M,h=>by
   have:=Gd.all L _ _ (h.step p)
   rw [List.append_assoc] at this
   exact this
theorem jN {L:List Pl}{p:Pl}(hp:p ∈ L)(h4:p.1=4)(hm:∀ q ∈ L,q=p\/q.2.1 < p.2.1):fb L=some p:=by
 have h:Gd (fb L) ([] ++ L):=Gd.all L none [] (.inl ⟨rfl,fun q hq=>by simp at hq⟩)
 rw [List.nil_append] at h
 rcases h with ⟨_,h⟩ | ⟨q,h1,h2,h3,h5⟩
 · exact absurd h4 (h p hp)
 · have:=h5 p hp h4
   rcases hm q h2 with rfl | h6
   · exact h1
   · omega
theorem eT {B:Int} (lv:List Int):∀ (L:List Pl) (t:Int),(∀ p ∈ L,p.2.1<=B)->t<=B->t<=L.foldl (Nd lv) t/\L.foldl (Nd lv) t<=B
 | [],t,_,h=>⟨Int.le_refl _,h⟩
 | p :: L,t,hL,h=>by
   have h1:t<=Nd lv t p/\Nd lv t p<=B:=by
     have:=hL p (List.mem_cons_self ..)
     unfold Nd mx
     split
     · split <;> omega
     · omega
   have h2:=eT lv L (Nd lv t p) (fun q hq=>hL q (List.mem_cons_of_mem _ hq)) h1.2
   rw [List.foldl_cons]
   omega
theorem fE {R S:Int} {L:List Pl} {t:Nat} {q:Hd} (hq:q ∈ Fg R S L t):∃ z ∈ L,z.1=3/\q.1=z.2.1:=by
 unfold Fg at hq
 obtain ⟨t', _,h1⟩:=List.mem_filterMap.1 hq
 unfold Vo at h1
 cases hp:L[t']? with
 | none=>rw [hp] at h1; cases h1
 | some p =>
   rw [hp] at h1
   simp only [] at h1
   split at h1
   · rename_i hc
     obtain ⟨z,hz,_,hz2,hz3,_⟩:=eX hc.2.2.2
     have hm:=List.mem_of_getElem? hz
     obtain ⟨y,hy,rfl⟩:=List.mem_map.1 hm
     refine ⟨y,LP hy,hz2,?_⟩
     rw [<- Option.some.inj h1]
     exact hz3
   · cases h1
theorem bu {a:Int}{n:Nat}(h0:0<=a)(h1:a < (n:Int)):Uy [a] n=[a]:=by
 have hm:SM _ [a]:=SM.nil.put a fun y=>by simp
 rw [<- aF hm (fun x hx=>by rw [List.mem_singleton] at hx; rw [hx]; exact ⟨h0,h1⟩)]
 rfl
theorem kz (x1:Int)(x2:Int)(x3:Int)(x4:List Pt)(x5:List Int)(x6:Int)(g:gO [.int .i64,.int .i64,.int .i64,.sl (.int .u32 (.int .u32 (.int .u32 (.sl (.int .i64 (.bool (.str .nil))) (.int .i64 .nil))))),.sl (.int .u32 .nil),.int .u32] (x1,x2,x3,x4,x5,x6))(b:XI [.int .i64,.int .i64,.int .i64,.sl (.int .u32 (.int .u32 (.int .u32 (.sl (.int .i64 (.bool (.str .nil))) (.int .i64 .nil))))),.sl (.int .u32 .nil),.int .u32] (x1,x2,x3,x4,x5,x6)<=1048576):(∀ z ∈ x4,nP z)/\(∀ e ∈ x5,0<=e)/\0<=x6/\x6 < 4294967296:=by
 have b':0+(0+(0+((x4.map fun z:Pt=>((z.2.2.2.1.map fun y:Sm=>(y.2.2.size+0)+1).sum+0)+1).sum+((x5.map fun _=>0+1).sum+0))))<=1048576:=b
 obtain ⟨_,_,_,⟨_,g4⟩,⟨_,g5⟩,g6⟩:=g
 refine ⟨fun z hz=>?_,fun e he=>(FO (x:=e) (g5 e he).1).1,FO (x:=x6) g6⟩
 have gz:=g4 z hz
 refine ⟨FO (x:=z.1) gz.1,FO (x:=z.2.1) gz.2.1,FO (x:=z.2.2.1) gz.2.2.1,fun s hs=>?_⟩
 have h1:=Ix _ _ (List.mem_map.2 ⟨z,hz,rfl⟩:_ ∈ x4.map fun z:Pt=>((z.2.2.2.1.map fun y:Sm=>(y.2.2.size+0)+1).sum+0)+1)
 have h2:=Ix _ _ (List.mem_map.2 ⟨s,hs,rfl⟩:_ ∈ z.2.2.2.1.map fun y:Sm=>(y.2.2.size+0)+1)
 omega
theorem law (x1:Int)(x2:Int)(x3:Int)(x4:(List (Int × Int × Int × (List (Int × Bool × ByteArray)) × Int)))(x5:(List Int))(x6:Int)(g:gO [.int .i64,.int .i64,.int .i64,.sl (.int .u32 (.int .u32 (.int .u32 (.sl (.int .i64 (.bool (.str .nil))) (.int .i64 .nil))))),.sl (.int .u32 .nil),.int .u32] (x1,x2,x3,x4,x5,x6))(b:XI [.int .i64,.int .i64,.int .i64,.sl (.int .u32 (.int .u32 (.int .u32 (.sl (.int .i64 (.bool (.str .nil))) (.int .i64 .nil))))),.sl (.int .u32 .nil),.int .u32] (x1,x2,x3,x4,x5,x6)<=1048576):∃ k,F7 k x1 x2 x3 x4 x5 x6=some true:=by
 refine ⟨2000000,?_⟩
 have hK:2000000<=2000000:=Nat.le_refl _
 obtain ⟨h4,h5,h60,h61⟩:=kz x1 x2 x3 x4 x5 x6 g b
 have hR:=PCut.Uf x1 x2 x3
 obtain ⟨x,hx,Cd,hxr,he30,ha12⟩:=dU 2000000 hK hR (by omega) x4 h4 x5 h5
 unfold F7
 rw [PCut.aJ,Option.bind_some]
 simp only []
 rw [hx,Option.bind_some,Ez _ 20 (by omega) (by omega),Option.bind_some]
 generalize 32+x1 % 33=p at *
 generalize 3+x2 % 4=n at *
 generalize 4+x3 % 4=r at *
 have hri:=hR
 unfold Ag at hri
 have hxl:x.length=r.toNat:=by have:=congrArg List.length hxr; rwa [List.length_map,List.length_map,List.length_range] at this
 have ht:=tm h60 (show (0:Int) < 100 by omega)
 rw [BK (x:=x6.tmod 100) (by omega) (by omega),PCut.Dj _ _ _ (by omega) (by omega),Option.bind_some]
 have hat0:0<=x6.tmod 100 % (x.length:Int):=Int.emod_nonneg _ (by omega)
 have hat1:x6.tmod 100 % (x.length:Int) < (x.length:Int):=Int.emod_lt_of_pos _ (by omega)
 generalize x6.tmod 100 % (x.length:Int)=at_ at *
 obtain ⟨a,rfl⟩:∃ a:Nat,at_=(a:Int):=⟨at_.toNat,by omega⟩
 have hal:a < x.length:=by omega
 have hxa:x[a]? = some x[a]:=List.getElem?_eq_getElem hal
 have hfm:x[a] ∈ x:=List.getElem_mem hal
 have hf1:x[a].1=(a:Int):=by
   have h1:=congrArg (fun l=>l[a]?) hxr
   simp only [List.getElem?_map,hxa,Option.map_some] at h1
   rw [List.getElem?_range (by omega)] at h1
   exact Option.some.inj h1
 generalize hf:x[a]=f at *
 have hfl:=Cd.fl f hfm
 have hset:∀ z:Rg,(x.set a z)[a]? = some z:=fun z=>List.getElem?_set_self hal
 simp only [DP,hxa,hset,Option.bind_some,Int.toNat_natCast]
 rw [PCut.CB _ hR,Option.bind_some,BK (x:=n - 1 - 1) (by omega) (by omega)]
 have hmn:mn (f.2.2.1.length:Int) (n - 1 - 1)=((min f.2.2.1.length (n - 2).toNat:Nat):Int):=by
   unfold mn
   split <;> omega
 rw [hmn,Ec (by unfold Be; exact decide_eq_true (by omega)),CW,BB (by unfold cut; rw [List.length_drop,List.length_take]; omega)]
 have hcut:cut f.2.2.1 0 ((min f.2.2.1.length (n - 2).toNat:Nat):Int)=f.2.2.1.take (min f.2.2.1.length (n - 2).toNat):=by
   unfold cut
   rw [Int.toNat_natCast]; rfl
 rw [hcut]
 generalize hG:f.2.2.1.take (min f.2.2.1.length (n - 2).toNat)=G
 have hGm:∀ q ∈ G,q ∈ f.2.2.1:=fun q hq=>by rw [<- hG] at hq; exact List.mem_of_mem_take hq
 have hGl:(G.length:Int)<=n - 2:=by rw [<- hG,List.length_take]; omega
 rw [List.set_set]
 generalize hr2:((f.1,30,[(4,50,x6,p4 20)] ++ G,f.2.2.2):Rg)=r2
 have e1:r2.1=(a:Int):=by rw [<- hr2]; exact hf1
 have e2:r2.2.1=30:=by rw [<- hr2]
 have e3:r2.2.2.1=(4,50,x6,p4 20) :: G:=by rw [<- hr2]; rfl
 have hmem:∀ z ∈ x.set a r2,z ∈ x\/z=r2:=fun z hz=>List.mem_or_eq_of_mem_set hz
 have hr2m:r2 ∈ x.set a r2:=List.mem_of_getElem? (hset r2)
 have hok2:js p n r (x.set a r2):=by
   refine ⟨hR,?_,by rw [List.length_set]; exact Cd.len,fun z hz=>?_,fun z hz=>?_,fun z hz=>?_,fun z hz q hq=>?_⟩
   · have:(x.set a r2).map (·.1)=x.map (·.1):=by
       apply List.ext_getElem?
       intro i
       rw [List.getElem?_map,List.getElem?_map]
       by_cases hi:i=a
       · subst hi; rw [hset,hxa,Option.map_some,Option.map_some,e1,hf1]
       · rw [List.getElem?_set_ne (fun h=>hi h.symm)]
     unfold RN
     rw [this]
     exact Cd.rn
   · rcases hmem z hz with h | rfl
     · exact Cd.nn z h
     · rw [e1]; omega
   · rcases hmem z hz with h | rfl
     · exact Cd.ep z h
     · rw [e2]; omega
   · rcases hmem z hz with h | rfl
     · exact Cd.fl z h
     · rw [e3,List.length_cons]; omega
   · rcases hmem z hz with h | rfl
     · exact Cd.ok z h q hq
     · rw [e3] at hq
       rcases List.mem_cons.1 hq with rfl | hq
       · exact RZ (by omega) (by omega) ⟨h60,h61⟩ (by omega) (by omega)
       · exact Cd.ok f hfm q (hGm q hq)
 obtain ⟨W,d⟩:=hok2.dev
 have hW:r2 ∈ W:=by
   refine (d.ws.mem r2).2 ⟨hr2m,by rw [e2]; decide,fun z hz hze=>?_⟩
   rcases hmem z hz with h | rfl
   · have:=he30 z h
     rw [hze,e2] at this
     exact absurd this (by decide)
   · exact Int.le_refl _
 have hlen2:0 < r2.2.2.1.length:=by rw [e3]; simp
 generalize hp0:DU r2 0 (4,50,x6,p4 20)=q0
 have hq0:q0 ∈ flat W:=by
   unfold flat
   refine List.mem_flatMap.2 ⟨r2,hW,List.mem_of_getElem? (i:=0) ?_⟩
   rw [JS r2 hlen2,<- hp0]
   congr 2
   simp only [e3,List.getElem_cons_zero]
 have hq4:q0.1=4:=by rw [<- hp0]; rfl
 have hq50:q0.2.1=50:=by rw [<- hp0]; rfl
 have hsm:∀ q ∈ flat W,q=q0\/q.2.1<=12:=by
   intro q hq
   obtain ⟨z,hz,k,hk,rfl⟩:=Iz hq
   rcases hmem z (((d.ws.mem z).1 hz).1) with h | rfl
   · exact .inr (ha12 z h _ (List.getElem_mem hk))
   · cases k with
     | zero =>
       left
       rw [<- hp0]
       congr 1
       simp only [e3,List.getElem_cons_zero]
     | succ k =>
       right
       have hk':=hk
       rw [e3,List.length_cons] at hk'
       have:z.2.2.1[k+1]=G[k]'(by omega):=by simp only [e3,List.getElem_cons_succ]
       show (z.2.2.1[k+1]).2.1<=12
       rw [this]
       exact ha12 f hfm _ (hGm _ (List.getElem_mem _))
 have hfb:fb (flat W)=some q0:=jN hq0 hq4 fun q hq=>by
   rcases hsm q hq with h | h
   · exact .inl h
   · right; omega
 have hfs:CY (fb (flat W))=((a:Int),true,50,x6,20):=by
   rw [hfb]
   show (Yc q0,true,q0.2.1,q0.2.2.1,g4 q0.2.2.2.1 0)=_
   rw [<- hp0]
   show (r2.1,true,(50:Int),x6,g4 (p4 20) 0)=_
   rw [e1]
   rfl
 have htop:top (all n r W)<=12:=by
   rcases Pw 2000000 hK d.Cd (by have:=WA d; omega) (lv:=[]) (by simp) with ⟨_,h0,_⟩ | ⟨h,hh,h1,_⟩
   · rw [h0]; decide
   · rw [<- h1]
     obtain ⟨z,hz,hz3,hz2⟩:=fE hh
     rcases hsm z hz with rfl | h
     · rw [hq4] at hz3; exact absurd hz3 (by decide)
     · omega
 rw [Sg _ hK d,Option.bind_some,alive _ hK,Option.bind_some,cond_true]
 have hch:ch r (all n r W) 202 50 20 (top (all n r W)) [] [(a:Int)]=(50,20,[],[(a:Int)]):=by
   show (if (50:Int) < top (all n r W) then _ else _)=_
   rw [if_neg (by omega)]
 have hnx:=eT (B:=50) [(a:Int)] (flat W) 50 (fun q hq=>by
   rcases hsm q hq with rfl | h
   · omega
   · omega) (Int.le_refl _)
 have hk:kept r (all n r W) (flat W) 202=(50,20,x6,[],[(a:Int)],50,51):=by
   unfold kept
   rw [hfs]
   show ((ch r (all n r W) 202 50 20 (top (all n r W)) [] [(a:Int)]).1,(ch r (all n r W) 202 50 20 (top (all n r W)) [] [(a:Int)]).2.1,x6,(ch r (all n r W) 202 50 20 (top (all n r W)) [] [(a:Int)]).2.2.1.reverse,Uy (ch r (all n r W) 202 50 20 (top (all n r W)) [] [(a:Int)]).2.2.2 r.toNat,Iw (ch r (all n r W) 202 50 20 (top (all n r W)) [] [(a:Int)]).1 (ch r (all n r W) 202 50 20 (top (all n r W)) [] [(a:Int)]).2.2.1.reverse,IntKind.wrap .u32 ((flat W).foldl (Nd (ch r (all n r W) 202 50 20 (top (all n r W)) [] [(a:Int)]).2.2.2) (Iw (ch r (all n r W) 202 50 20 (top (all n r W)) [] [(a:Int)]).1 (ch r (all n r W) 202 50 20 (top (all n r W)) [] [(a:Int)]).2.2.1.reverse)+1))=_
   rw [hch]
   simp only []
   rw [bu (by omega) (by omega)]
   have e4:Iw 50 ([]:List Hd).reverse=50:=rfl
   rw [e4,show (flat W).foldl (Nd [(a:Int)]) 50=50 by omega]
   rfl
 rw [hk]
 have ha:(ix [(a:Int)] 0)=some (a:Int):=rfl
 simp only [List.length_nil,List.length_cons,beq_self_eq_true,cond_true]
 rw [ha,Option.bind_some,beq_self_eq_true]
 rfl
end Go.Proofs.YthoimblkpcikdaaGreatDoor.PureChainFloor
