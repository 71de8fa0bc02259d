/- PGrp, PGrp2, PGrp3, PGrp4, PGrp5, PFlo, PKeep1, PKeep2, PKeep3, PKeep4, PKeep5, PRaw, PRaw2, PChain -/
import Derived.Test.YthoimblkpcikdaaGreatDoorPRev
import Derived.Test.YthoimblkpcikdaaGreatDoorPJoin2
import Derived.Test.YthoimblkpcikdaaGreatDoorPCut
import Derived.Test.YthoimblkpcikdaaGreatDoorPFlat
import Derived.Test.YthoimblkpcikdaaGreatDoorPHand
namespace Go.Proofs.YthoimblkpcikdaaGreatDoor.PGrp
open Go.RowKit Go.Proofs.YthoimblkpcikdaaGreatDoor.Mc Go.Proofs.YthoimblkpcikdaaGreatDoor.N Go.Proofs.YthoimblkpcikdaaGreatDoor.Plain Go.Proofs.YthoimblkpcikdaaGreatDoor.PWalk Go.Proofs.YthoimblkpcikdaaGreatDoor.PWalk2 Go.Proofs.YthoimblkpcikdaaGreatDoor.PRev Go.Proofs.YthoimblkpcikdaaGreatDoor.PPiece
open Go.Proofs.YthoimblkpcikdaaGreatDoor.PJoin (Fr AM Jq)
open Go.Proofs.YthoimblkpcikdaaGreatDoor.PureKeys (Ab AO)
set_option linter.unusedSimpArgs false
set_option linter.unusedVariables false
def LY (p:Pl):Fr:=(p.1,p.2.1,p.2.2.1,p.2.2.2.1)
def Qs (p:Pl):Int × Int:=(p.2.2.2.2.2.1,p.2.2.2.2.2.2)
abbrev ep (p:Pl):Int:=p.2.2.2.2.1
def nX (S:Int)(a b:Pl):Bool:=if ep a=ep b then b.2.2.2.2.2.2 == a.2.2.2.2.2.2+1 else a.2.2.2.2.2.2 == S && (b.2.2.2.2.2.2 == 1 && ep b == ep a+1)
def Xc (S:Int)(L:List Pl)(t:Nat):Bool:=match L[t - 1]?,L[t]? with | some a,some b=>nX S a b | _,_=>false
def newAt (L:List Pl)(t:Nat):Bool:=match L[t - 1]?,L[t]? with | some a,some b=>ep a != ep b | _,_=>false
def whole (S:Int)(L:List Pl)(t:Nat):Nat->Bool
 | 0=>true
 | n+1=>decide (0 < t) && Xc S L t && whole S L (t - 1) n
def news (L:List Pl)(t:Nat):Nat->Nat
 | 0=>0
 | n+1=>(if newAt L t then 1 else 0)+news L (t - 1) n
def back (L:List Pl)(t:Nat):Nat->List Pl
 | 0=>(L[t]?).toList
 | n+1=>(L[t]?).toList ++ back L (t - 1) n
structure aD (g:Int)(S:Int)(W:List Rg):Prop where
 bS:W.Pairwise fun a b=>a.2.1 < b.2.1
 nn:W.Pairwise fun a b=>a.1 ≠ b.1
 ep:∀ f ∈ W,0<=f.2.1/\f.2.1 < 4294967295
 len:∀ f ∈ W,(f.2.2.1.length:Int)<=S
 bH:2<=S/\S<=9
 regs:4<=g/\g<=12
 wl:W.length<=12
def off (W:List Rg)(i:Nat):Nat:=(flat (W.take i)).length
theorem Hy (W:List Rg){i:Nat}(h:i < W.length):off W (i+1)=off W i+W[i].2.2.1.length:=by
 unfold off
 rw [AM h,OO,List.length_append,Cr]
theorem SE (W:List Rg):off W 0=0:=rfl
theorem NF (W:List Rg){i:Nat}(h:i < W.length):flat W=flat (W.take i) ++ (LW W[i] ++ flat (W.drop (i+1))):=by
 conv=>lhs; rw [<- List.take_append_drop i W,List.drop_eq_getElem_cons h]
 unfold flat
 rw [List.flatMap_append,List.flatMap_cons]
theorem DZ (W:List Rg){i k:Nat}(h:i < W.length)(hk:k < W[i].2.2.1.length):(flat W)[off W i+k]? = some (DU W[i] k W[i].2.2.1[k]):=by
 rw [NF W h]
 unfold off
 rw [List.getElem?_append_right (by omega),Nat.add_sub_cancel_left,List.getElem?_append_left (by rw [Cr]; exact hk),JS _ hk]
theorem Sf (W:List Rg):∀ (m:Nat),m<=W.length->∀ (t:Nat),t < off W m->∃ i k,∃ (h:i < W.length) (hk:k < W[i].2.2.1.length),i < m/\t=off W i+k
 | 0,_,t,h=>by rw [SE] at h; omega
 | m + 1,hm,t,h=>by
   rw [Hy W (by omega)] at h
   rcases Nat.lt_or_ge t (off W m) with h1 | h1
   · obtain ⟨i,k,a,b,c,d⟩:=Sf W m (by omega) t h1
     exact ⟨i,k,a,b,by omega,d⟩
   · exact ⟨m,t - off W m,by omega,by omega,by omega,by omega⟩
theorem cn (W:List Rg):off W W.length=(flat W).length:=by unfold off; rw [List.take_length]
def wb (R S:Int) (W:List Rg):Nat->Nat->Nat->Int->List Fr->List (Int × Int)->Option (List Fr × List (Int × Int))
 | 0,i,k,_,fs,ss=>match (flat W)[off W i+k]? with | some p=>some (fs ++ [LY p],ss ++ [Qs p]) | none=>none
 | n + 1,i,k,c,fs,ss=>match (flat W)[off W i+k]? with
   | some p =>
     if 0 < k then wb R S W n i (k - 1) c (fs ++ [LY p]) (ss ++ [Qs p])
     else if i=0\/R - 2 < c+1\/¬ (((W[i - 1]?).map fun f:Rg=>f.2.1+1)=(W[i]?).map fun f:Rg=>f.2.1)\/¬ (((W[i - 1]?).map fun f:Rg=>(f.2.2.1.length:Int))=some S) then none
     else wb R S W n (i - 1) (S.toNat - 1) (c+1) (fs ++ [LY p]) (ss ++ [Qs p])
   | none=>none
theorem Og {W:List Rg}{i k:Nat}(f:Rg)(r:Fr):ep (DU f k r)=f.2.1:=rfl
theorem aa {R S:Int} {W:List Rg} (h:aD R S W):∀ (n i k:Nat) (c:Int) (fs:List Fr) (ss:List (Int × Int)) (hi:i < W.length) (hk:k < W[i].2.2.1.length),1<=c->c<=R - 2 ->
   wb R S W n i k c fs ss=if whole S (flat W) (off W i+k) n=true/\c+(news (flat W) (off W i+k) n:Int)<=R - 2 then some (fs ++ (back (flat W) (off W i+k) n).map LY,ss ++ (back (flat W) (off W i+k) n).map Qs) else none
 | 0,i,k,c,fs,ss,hi,hk,hc1,hc=>by
   unfold wb whole news back
   rw [DZ W hi hk,if_pos ⟨rfl,by simpa using hc⟩]; rfl
 | n + 1, i, k,c,fs,ss,hi,hk,hc1,hc=>by
   have hp:=DZ W hi hk
   unfold wb whole news back
   rw [hp]
   simp only []
   by_cases h0:0 < k
   · rw [if_pos h0,aa h n i (k - 1) c _ _ hi (by omega) hc1 hc]
     have hq:=DZ W hi (show k - 1 < W[i].2.2.1.length by omega)
     have e1:off W i+k - 1=off W i+(k - 1):=by omega
     have hgo:Xc S (flat W) (off W i+k)=true:=by
       unfold Xc
       rw [e1,hq,hp]
       simp only []
       unfold nX
       rw [if_pos (by rw [Og (W:=W) (i:=i),Og (W:=W) (i:=i)])]
       simp only [DU,beq_iff_eq]
       omega
     have hnw:newAt (flat W) (off W i+k)=false:=by
       unfold newAt
       rw [e1,hq,hp]
       simp [ep,DU]
     rw [hgo,hnw,e1,decide_eq_true (show 0 < off W i+k by omega)]
     simp only [Bool.true_and,Bool.false_eq_true,if_false,Nat.zero_add,Option.toList_some,List.map_append,List.map_cons,List.map_nil,List.append_assoc]
   · rw [if_neg h0]
     obtain rfl:k=0:=by omega
     have hwi:W[i]? = some W[i]:=List.getElem?_eq_getElem hi
     by_cases hi0:i=0
     · subst hi0
       rw [if_pos (.inl rfl),if_neg]
       rintro ⟨h1,_⟩
       rw [SE] at h1
       simp at h1
     · have hi1:i - 1 < W.length:=by omega
       have hwj:W[i - 1]? = some W[i - 1]:=List.getElem?_eq_getElem hi1
       have hasc:=List.pairwise_iff_getElem.1 h.bS (i - 1) i hi1 hi (by omega)
       have hoff:off W i=off W (i - 1)+W[i - 1].2.2.1.length:=by
         have:=Hy W hi1
         rwa [show i - 1+1=i by omega] at this
       rw [hwj,hwi]
       simp only [Option.map_some,Option.some.injEq]
       by_cases hS:(W[i - 1].2.2.1.length:Int)=S
       · have hs2:=h.bH.1
         have hlen0:0 < W[i - 1].2.2.1.length:=by omega
         have hq:=DZ W hi1 (show W[i - 1].2.2.1.length - 1 < W[i - 1].2.2.1.length by omega)
         have e1:off W i+0 - 1=off W (i - 1)+(W[i - 1].2.2.1.length - 1):=by omega
         have hnw:newAt (flat W) (off W i+0)=true:=by
           unfold newAt
           rw [e1,hq,hp]
           simp only [ep,DU,bne_iff_ne,ne_eq]
           omega
         have hgo:Xc S (flat W) (off W i+0)=decide (W[i - 1].2.1+1=W[i].2.1):=by
           unfold Xc
           rw [e1,hq,hp]
           simp only []
           unfold nX
           rw [if_neg (by rw [Og (W:=W) (i:=i),Og (W:=W) (i:=i)]; omega)]
           simp only [DU,ep]
           have q1:(((W[i - 1].2.2.1.length - 1+1:Nat):Int) == S)=true:=by rw [beq_iff_eq]; omega
           have q2:(((0+1:Nat):Int) == 1)=true:=rfl
           rw [q1,q2,Bool.true_and,Bool.true_and]
           by_cases he:W[i - 1].2.1+1=W[i].2.1
           · rw [decide_eq_true he,beq_iff_eq]; exact he.symm
           · rw [decide_eq_false he,beq_eq_false_iff_ne]; exact fun h=>he h.symm
         rw [hgo,hnw]
         by_cases he:W[i - 1].2.1+1=W[i].2.1
         · by_cases hr:R - 2 < c+1
           · rw [if_pos (.inr (.inl hr)),if_neg]
             rintro ⟨_,h2⟩
             simp only [if_true] at h2
             omega
           · rw [if_neg (by rintro (h1 | h1 | h1 | h1) <;> first | exact hi0 h1 | exact hr h1 | exact h1 he | exact h1 hS)]
             have hsn:S.toNat - 1=W[i - 1].2.2.1.length - 1:=by omega
             rw [hsn,aa h n (i - 1) _ (c+1) _ _ hi1 (by omega) (by omega) (by omega),e1,decide_eq_true he,decide_eq_true (show 0 < off W i+0 by omega)]
             simp only [Bool.true_and,if_true,Option.toList_some,List.map_append,List.map_cons,List.map_nil,List.append_assoc]
             have e3:c+1+(news (flat W) (off W (i - 1)+(W[i - 1].2.2.1.length - 1)) n:Int)=c+((1+news (flat W) (off W (i - 1)+(W[i - 1].2.2.1.length - 1)) n:Nat):Int):=by omega
             rw [e3]
         · rw [if_pos (.inr (.inr (.inl he))),if_neg]
           rintro ⟨h1,_⟩
           rw [decide_eq_false he] at h1
           simp at h1
       · rw [if_pos (.inr (.inr (.inr hS))),if_neg]
         rintro ⟨h1,_⟩
         rw [Bool.and_eq_true,Bool.and_eq_true] at h1
         obtain ⟨⟨h1,h2⟩,_⟩:=h1
         have h1:=of_decide_eq_true h1
         unfold Xc at h2
         rw [hp] at h2
         obtain ⟨i', k', hi', hk', hlt,ht⟩:=Sf W i (by omega) (off W i+0 - 1) (by omega)
         rw [ht,DZ W hi' hk'] at h2
         simp only [] at h2
         have hasc2:=List.pairwise_iff_getElem.1 h.bS i' i hi' hi hlt
         unfold nX at h2
         rw [if_neg (by rw [Og (W:=W) (i:=i),Og (W:=W) (i:=i)]; omega)] at h2
         simp only [DU,ep,Bool.and_eq_true,beq_iff_eq] at h2
         rcases Nat.lt_or_ge i' (i - 1) with h3 | h3
         · have:=List.pairwise_iff_getElem.1 h.bS i' (i - 1) hi' hi1 h3
           omega
         · have e5:i' = i - 1:=by omega
           subst e5
           have:=h.len _ (List.getElem_mem hi1)
           omega
end Go.Proofs.YthoimblkpcikdaaGreatDoor.PGrp
namespace Go.Proofs.YthoimblkpcikdaaGreatDoor.PGrp2
open Go.RowKit Go.Proofs.YthoimblkpcikdaaGreatDoor.Mc Go.Proofs.YthoimblkpcikdaaGreatDoor.N Go.Proofs.YthoimblkpcikdaaGreatDoor.Plain Go.Proofs.YthoimblkpcikdaaGreatDoor.PWalk Go.Proofs.YthoimblkpcikdaaGreatDoor.PWalk2 Go.Proofs.YthoimblkpcikdaaGreatDoor.PRev Go.Proofs.YthoimblkpcikdaaGreatDoor.PPiece Go.Proofs.YthoimblkpcikdaaGreatDoor.PGrp
open Go.Proofs.YthoimblkpcikdaaGreatDoor.PJoin (Fr AM Jq Small DH fin Kq)
open Go.Proofs.YthoimblkpcikdaaGreatDoor.PureKeys (Ab AO)
open Go.Proofs.YthoimblkpcikdaaGreatDoor.PCut (Ag Dc)
set_option linter.unusedSimpArgs false
set_option linter.unusedVariables false
theorem aH (K:Nat) {p n r:Int} (hR:Ag p n r) {W:List Rg} (h:aD r (n - 1) W) (y30:Int × Int × Int × Int × Int × Int) (N:Nat) (hN:y30.2.1=(N:Int)) (hN2:N < 4294967296):∀ (t:Nat) (i k j m:Nat) (c:Int) (fs:List Fr) (ss:List (Int × Int)) (K':Nat),off W i+k=t->∀ (hi:i < W.length),k < W[i].2.2.1.length->j+m=N->1<=c->c<=r - 2->fs.length+t<=1000->ss.length+t<=1000->t < K' ->
   AE (GL K p n r W y30) K' ((i:Int),(k:Int),c,(j:Int),fs,ss)=some (match wb r (n - 1) W m i k c fs ss with | some ab=>.inr ab | none=>.inl ()):=by
 have hR':=hR
 unfold Ag at hR'
 intro t
 induction t using Nat.strongRecOn with
 | _ t ih =>
 intro i k j m c fs ss K' ht hi hk hj hc1 hc hfs hss hK'
 obtain ⟨K', rfl⟩:∃ q,K' = q+1:=⟨K' - 1,by omega⟩
 have hwi:W[i]? = some W[i]:=List.getElem?_eq_getElem hi
 have hfk:W[i].2.2.1[k]? = some W[i].2.2.1[k]:=List.getElem?_eq_getElem hk
 have hp:=DZ W hi hk
 have ZK:=h.wl
 have hkl:k < 10:=by have:=h.len _ (List.getElem_mem hi); have:=h.bH; omega
 have hone:∀ {α:Type} (a:α),[a].length=1:=fun _=>rfl
 have ek:(k:Int)+1=((k+1:Nat):Int):=by omega
 cases m with
 | zero =>
   obtain rfl:j=N:=by omega
   rw [AO (r:=.inr (fs ++ [LY (DU W[i] k W[i].2.2.1[k])],ss ++ [Qs (DU W[i] k W[i].2.2.1[k])]))]
   · unfold wb
     rw [hp]
   · unfold GL
     simp only [DP,hwi,hfk,Option.bind_some,hone]
     rw [BB (by omega),BB (by omega),hN,BK (x:=(j:Int)) (by omega) (by omega),beq_self_eq_true,cond_true,BK (by omega) (by omega),ek]
     rfl
 | succ m =>
   have hne:((j:Int) == IntKind.wrap .i64 y30.2.1)=false:=by rw [hN,BK (by omega) (by omega),beq_eq_false_iff_ne]; omega
   by_cases hk0:0 < k
   · rw [Ab (b:=(((i:Nat):Int),((k - 1:Nat):Int),c,((j+1:Nat):Int),fs ++ [LY (DU W[i] k W[i].2.2.1[k])],ss ++ [Qs (DU W[i] k W[i].2.2.1[k])]))]
     · rw [ih (t - 1) (by omega) i (k - 1) (j+1) m c _ _ K' (by omega) hi (by omega) (by omega) hc1 hc (by rw [List.length_append,hone]; omega) (by rw [List.length_append,hone]; omega) (by omega)]
       conv=>rhs; unfold wb
       rw [hp]
       simp only []
       rw [if_pos hk0]
     · unfold GL
       simp only [DP,hwi,hfk,Option.bind_some,hone]
       rw [BB (by omega),BB (by omega),hne,cond_false,AK (by omega),BK (x:=(k:Int) - 1) (by omega) (by omega),BK (x:=(k:Int)+1) (by omega) (by omega),ek,show (k:Int) - 1=((k - 1:Nat):Int) by omega,Option.bind_some]
       simp only [BN]
       rw [BK (by omega) (by omega)]
       rfl
   · obtain rfl:k=0:=by omega
     have hst:∀ b:Bool,(cond ((i:Int) == 0) (some true) (cond (decide ((IntKind.wrap .i64 (r - 2)) < (IntKind.wrap .i64 (c+1)))) (some true) ((ix W (IntKind.wrap .i64 ((i:Int) - 1))).bind fun a148=>(ix W (i:Int)).bind fun a149=>cond ((IntKind.wrap .u32 (a148.2.1+1)) != a149.2.1) (some true) ((ix W (IntKind.wrap .i64 ((i:Int) - 1))).bind fun a150=>(mC K p n r).bind fun y151=>some ((a150.2.2.1.length:Int) != y151)))):Option Bool)=some b ->
         GL K p n r W y30 ((i:Int),((0:Nat):Int),c,(j:Int),fs,ss)=cond b (some (.inr (.inl ()))) ((ix W (IntKind.wrap .i64 ((i:Int) - 1))).bind fun a153=>cond (decide ((IntKind.wrap .i64 ((a153.2.2.1.length:Int) - 1)) < 0)) (some (.inr (.inl ()))) (some (.inl ((IntKind.wrap .i64 ((i:Int) - 1)),(IntKind.wrap .i64 ((a153.2.2.1.length:Int) - 1)),(IntKind.wrap .i64 (c+1)),((j+1:Nat):Int),(fs ++ [LY (DU W[i] 0 W[i].2.2.1[0])]),(ss ++ [Qs (DU W[i] 0 W[i].2.2.1[0])]))))):=by
       intro b hb
       unfold GL
       simp only [hb]
       simp only [DP,hwi,hfk,Option.bind_some,hone]
       rw [BB (by omega),BB (by omega),hne,cond_false,AJ (by omega),BK (x:=((0:Nat):Int)+1) (by omega) (by omega),ek]
       cases b with
       | true=>rfl
       | false =>
         simp only [cond_false]
         cases hq:ix W (IntKind.wrap .i64 ((i:Int) - 1)) with
         | none=>rfl
         | some a =>
           simp only [Option.bind_some]
           by_cases hd:IntKind.wrap .i64 ((a.2.2.1.length:Int) - 1) < 0
           · rw [AK hd,AK hd]; rfl
           · rw [AJ hd,AJ hd,Option.bind_some]
             simp only [BN]
             rw [BK (x:=(j:Int)+1) (by omega) (by omega)]
             rfl
     have hwb:wb r (n - 1) W (m+1) i 0 c fs ss=if i=0\/r - 2 < c+1\/¬ (((W[i - 1]?).map fun f:Rg=>f.2.1+1)=(W[i]?).map fun f:Rg=>f.2.1)\/¬ (((W[i - 1]?).map fun f:Rg=>(f.2.2.1.length:Int))=some (n - 1)) then none else wb r (n - 1) W m (i - 1) ((n - 1).toNat - 1) (c+1) (fs ++ [LY (DU W[i] 0 W[i].2.2.1[0])]) (ss ++ [Qs (DU W[i] 0 W[i].2.2.1[0])]):=by
       conv=>lhs; unfold wb
       rw [hp]
       simp only []
       rw [if_neg (by omega)]
     have out:∀ hb:(i=0\/r - 2 < c+1\/¬ (((W[i - 1]?).map fun f:Rg=>f.2.1+1)=(W[i]?).map fun f:Rg=>f.2.1)\/¬ (((W[i - 1]?).map fun f:Rg=>(f.2.2.1.length:Int))=some (n - 1))),GL K p n r W y30 ((i:Int),((0:Nat):Int),c,(j:Int),fs,ss)=some (.inr (.inl ()))->AE (GL K p n r W y30) (K' + 1) ((i:Int),((0:Nat):Int),c,(j:Int),fs,ss)=some (match wb r (n - 1) W (m+1) i 0 c fs ss with | some ab=>.inr ab | none=>.inl ()):=by
       intro hb hs
       rw [AO hs,hwb,if_pos hb]
     by_cases hi0:i=0
     · exact out (.inl hi0) (by rw [hst true (by rw [beq_iff_eq.2 (by omega),cond_true])]; rfl)
     · have e0 : ((i:Int) == 0)=false:=by rw [beq_eq_false_iff_ne]; omega
       have ei:(i:Int) - 1=((i - 1:Nat):Int):=by omega
       have hi1:i - 1 < W.length:=by omega
       have hwj:W[i - 1]? = some W[i - 1]:=List.getElem?_eq_getElem hi1
       have hej:=h.ep _ (List.getElem_mem hi1)
       have hlj:=h.len _ (List.getElem_mem hi1)
       have hss:=h.bH
       have wi:IntKind.wrap .i64 ((i:Int) - 1)=((i - 1:Nat):Int):=by rw [BK (by omega) (by omega),ei]
       by_cases hr:r - 2 < c+1
       · exact out (.inr (.inl hr)) (by rw [hst true (by rw [e0,cond_false,BK (by omega) (by omega),BK (by omega) (by omega),AK hr])]; rfl)
       · by_cases he:W[i - 1].2.1+1=W[i].2.1
         · by_cases hS:(W[i - 1].2.2.1.length:Int)=n - 1
           · have hl0:W[i - 1].2.2.1.length - 1=(n - 1).toNat - 1:=by omega
             have hoff:off W i=off W (i - 1)+W[i - 1].2.2.1.length:=by
               have:=Hy W hi1
               rwa [show i - 1+1=i by omega] at this
             have tst:=hst false (by
               rw [e0,cond_false,BK (by omega) (by omega),BK (by omega) (by omega),AJ hr]
               simp only [wi,DP,hwj,hwi,Option.bind_some]
               rw [Kt (by omega) (by omega),he,bne_self_eq_false,cond_false,Dc K hR,Option.bind_some,hS,bne_self_eq_false])
             rw [Ab (b:=(((i - 1:Nat):Int),(((n - 1).toNat - 1:Nat):Int),c+1,((j+1:Nat):Int),fs ++ [LY (DU W[i] 0 W[i].2.2.1[0])],ss ++ [Qs (DU W[i] 0 W[i].2.2.1[0])]))]
             · rw [ih (t - 1) (by omega) (i - 1) ((n - 1).toNat - 1) (j+1) m (c+1) _ _ K' (by omega) hi1 (by omega) (by omega) (by omega) (by omega) (by rw [List.length_append,hone]; omega) (by rw [List.length_append,hone]; omega) (by omega)]
               rw [hwb,if_neg]
               rw [hwj,hwi]
               simp only [Option.map_some,Option.some.injEq]
               rintro (h1 | h1 | h1 | h1)
               · exact hi0 h1
               · exact hr h1
               · exact h1 he
               · exact h1 hS
             · rw [tst,cond_false]
               simp only [wi,DP,hwj,Option.bind_some]
               rw [BK (x:=(W[i - 1].2.2.1.length:Int) - 1) (by omega) (by omega),AJ (by omega),BK (by omega) (by omega),show (W[i - 1].2.2.1.length:Int) - 1=(((n - 1).toNat - 1:Nat):Int) by omega]
           · refine out (.inr (.inr (.inr ?_))) ?_
             · rw [hwj,Option.map_some,Option.some.injEq]; exact hS
             · rw [hst true ?_]
               · rfl
               · rw [e0,cond_false,BK (by omega) (by omega),BK (by omega) (by omega),AJ hr]
                 simp only [wi,DP,hwj,hwi,Option.bind_some]
                 rw [Kt (by omega) (by omega),he,bne_self_eq_false,cond_false,Dc K hR,Option.bind_some,bne_iff_ne.2 hS]
         · refine out (.inr (.inr (.inl ?_))) ?_
           · rw [hwj,hwi,Option.map_some,Option.map_some,Option.some.injEq]; exact he
           · rw [hst true ?_]
             · rfl
             · rw [e0,cond_false,BK (by omega) (by omega),BK (by omega) (by omega),AJ hr]
               simp only [wi,DP,hwj,hwi,Option.bind_some]
               rw [Kt (by omega) (by omega),bne_iff_ne.2 he,cond_true]
end Go.Proofs.YthoimblkpcikdaaGreatDoor.PGrp2
namespace Go.Proofs.YthoimblkpcikdaaGreatDoor.PGrp3
open Go.RowKit Go.Proofs.YthoimblkpcikdaaGreatDoor.Mc Go.Proofs.YthoimblkpcikdaaGreatDoor.N Go.Proofs.YthoimblkpcikdaaGreatDoor.Plain Go.Proofs.YthoimblkpcikdaaGreatDoor.PWalk Go.Proofs.YthoimblkpcikdaaGreatDoor.PWalk2 Go.Proofs.YthoimblkpcikdaaGreatDoor.PRev Go.Proofs.YthoimblkpcikdaaGreatDoor.PPiece Go.Proofs.YthoimblkpcikdaaGreatDoor.PGrp Go.Proofs.YthoimblkpcikdaaGreatDoor.PGrp2
open Go.Proofs.YthoimblkpcikdaaGreatDoor.PJoin (Fr AM Jq Small DH fin Kq)
open Go.Proofs.YthoimblkpcikdaaGreatDoor.PureKeys (Ab AO)
open Go.Proofs.YthoimblkpcikdaaGreatDoor.PCut (Ag Dc)
set_option linter.unusedSimpArgs false
set_option linter.unusedVariables false
noncomputable def jn (l:List Fr):PJoin.Out:=match l[l.length - 1]? with
 | none=>(0,0,0,[],2)
 | some z=>if (∀ j,j < l.length->((l[j]?.map Jq).getD false)=true)/\z.1=3/\z.2.2.1=((l.length - 1:Nat):Int)/\∀ j,j < l.length - 1->((l[j]?.map (Kq z.2.1 j)).getD false)=true then fin (DH l (l.length - 1)) z else (0,0,0,[],2)
def jt (l:List Fr):Prop:=2<=l.length/\l.length<=1000/\∀ f ∈ l,f.2.2.2.size<=1000
theorem jt.small {l:List Fr}(h:jt l):Small l:=⟨h.2.1,fun f hf=>by have:=h.2.2 f hf; omega⟩
theorem jt.bod {l:List Fr}(h:jt l)(i:Nat):(DH l i).size<=1500000:=by
 have h1:=PFlat.bP l i
 have h2:=PFlat.dB h.2.2
 have h3:=h.2.1
 omega
theorem cK (K:Nat)(hK:2000000<=K){l:List Fr}(h:jt l):kY K l=some (jn l):=by
 have h1:l.length - 1 < l.length:=by have:=h.1; omega
 rw [PJoin2.Ya K hK l h.small (fun i _=>h.bod i) h.1 _ (List.getElem?_eq_getElem h1)]
 unfold jn
 rw [List.getElem?_eq_getElem h1]
def Nb (L:List Pl)(t n:Nat):List Pl:=(L.take (t+1)).drop (t - n)
theorem IY {L:List Pl}{t n:Nat}(ht:t < L.length)(hn:n<=t):(Nb L t n).length=n+1:=by
 unfold Nb
 rw [List.length_drop,List.length_take]; omega
theorem ZL {L:List Pl}{t n j:Nat}(ht:t < L.length)(hn:n<=t)(hj:j<=n):(Nb L t n)[j]? = L[t - n+j]? := by
 unfold Nb
 rw [List.getElem?_drop,List.getElem?_take,if_pos (by omega)]
theorem SA {L:List Pl}{t n:Nat}(ht:t+1 < L.length)(hn:n<=t):Nb L (t+1) (n+1)=Nb L t n ++ [L[t+1]]:=by
 unfold Nb
 rw [AM ht,List.drop_append_of_le_length (by rw [List.length_take]; omega),show t+1 - (n+1)=t - n by omega]
theorem MV {S:Int}{L:List Pl}:∀ {n t:Nat},whole S L t n=true->n<=t
 | 0,t,_=>Nat.zero_le _
 | n+1,t,h=>by
   unfold whole at h
   rw [Bool.and_eq_true,Bool.and_eq_true] at h
   have h0:=of_decide_eq_true h.1.1
   have:=MV h.2
   omega
theorem Mf {L:List Pl}:∀ {n t:Nat},t < L.length->n<=t->(back L t n).reverse=Nb L t n
 | 0,t,ht,_=>by
   unfold back Nb
   rw [List.getElem?_eq_getElem ht,Option.toList_some,List.reverse_singleton,AM ht,List.drop_append,List.drop_eq_nil_of_le (by rw [List.length_take]; omega),List.length_take]
   rw [show t - 0 - min t L.length=0 by omega]; rfl
 | n+1,t,ht,hn=>by
   obtain ⟨t,rfl⟩:∃ q,t=q+1:=⟨t - 1,by omega⟩
   unfold back
   rw [List.reverse_append,Nat.add_sub_cancel,Mf (by omega) (by omega),List.getElem?_eq_getElem ht,Option.toList_some,List.reverse_singleton,SA ht (by omega)]
theorem LP {L:List Pl}{t n:Nat}{p:Pl}(h:p ∈ Nb L t n):p ∈ L:=List.mem_of_mem_take (List.mem_of_mem_drop h)
structure Vd (L:List Pl):Prop where
 ok:∀ p ∈ L,Jq (LY p)=true
 b:∀ p ∈ L,0<=p.2.2.1/\p.2.2.1 < 4294967296
 sz:∀ p ∈ L,p.2.2.2.1.size<=100
 len:L.length<=200
theorem br {L:List Pl}(h:Vd L){t n:Nat}(ht:t < L.length)(hn:n<=t)(h1:1<=n):jt ((Nb L t n).map LY):=by
 have hl:=h.len
 refine ⟨by rw [List.length_map,IY ht hn]; omega,by rw [List.length_map,IY ht hn]; omega,fun f hf=>?_⟩
 obtain ⟨p,hp,rfl⟩:=List.mem_map.1 hf
 have:=h.sz p (LP hp)
 show p.2.2.2.1.size<=1000
 omega
noncomputable def Vo (R S:Int)(L:List Pl)(t:Nat):Option Hd:=match L[t]? with
 | none=>none
 | some p=>if p.1=3/\whole S L t p.2.2.1.toNat=true/\1+(news L t p.2.2.1.toNat:Int)<=R - 2/\(jn ((Nb L t p.2.2.1.toNat).map LY)).2.2.2.2=0 then some ((jn ((Nb L t p.2.2.1.toNat).map LY)).1,(jn ((Nb L t p.2.2.1.toNat).map LY)).2.1,(jn ((Nb L t p.2.2.1.toNat).map LY)).2.2.1,(jn ((Nb L t p.2.2.1.toNat).map LY)).2.2.2.1,(Nb L t p.2.2.1.toNat).map Qs) else none
noncomputable def Fg (R S:Int)(L:List Pl)(t:Nat):List Hd:=(List.range t).filterMap (Vo R S L)
theorem bM (R S:Int)(L:List Pl)(t:Nat):Fg R S L (t+1)=Fg R S L t ++ (Vo R S L t).toList:=by
 unfold Fg
 rw [List.range_succ,List.filterMap_append]
 congr 1
theorem VD (R S:Int)(L:List Pl)(t:Nat):(Fg R S L t).length<=t:=by
 unfold Fg
 exact Nat.le_trans (List.length_filterMap_le _ _) (by simp)
theorem gH {p:Pl}(h:Jq (LY p)=true)(h3:p.1=3):p.2.2.1 ≠ 0:=by
 intro h0
 have e:LY p=(3,p.2.1,0,p.2.2.2.1):=by unfold LY; rw [h3,h0]
 rw [e] at h
 unfold Jq pr at h
 simp only [] at h
 cases hc:(decide (p.2.1 < 1) || decide (2147483647 < p.2.1)) with
 | true=>rw [hc] at h; exact Bool.false_ne_true h
 | false=>rw [hc] at h; exact Bool.false_ne_true h
theorem dn {p:Pl}(h:Jq (LY p)=true)(h3:p.1=3):KO p.1 p.2.1 p.2.2.1 p.2.2.2.1=.inr (.inr (.inr (.inl (p.2.1,p.2.2.1,g4 p.2.2.2.1 0,g4 p.2.2.2.1 4,g4 p.2.2.2.1 8,g4 p.2.2.2.1 12,0)))):=by
 unfold KO
 rw [show pr p.1 p.2.1 p.2.2.1 p.2.2.2.1=true from h,h3]; rfl
theorem dM {k a b:Int} {t:ByteArray} (h:k ≠ 3):(∃ e,KO k a b t=.inl e)\/(∃ e,KO k a b t=.inr (.inl e))\/(∃ e,KO k a b t=.inr (.inr (.inl e)))\/∃ e,KO k a b t=.inr (.inr (.inr (.inr e))):=by
 unfold KO
 cases pr k a b t with
 | false=>exact .inl ⟨_,rfl⟩
 | true =>
   rw [cond_true]
   cases k == 1 with
   | true=>exact .inr (.inl ⟨_,rfl⟩)
   | false =>
     rw [cond_false]
     cases k == 2 with
     | true=>exact .inr (.inr (.inl ⟨_,rfl⟩))
     | false =>
       rw [cond_false,beq_eq_false_iff_ne.2 h,cond_false]
       exact .inr (.inr (.inr ⟨_,rfl⟩))
theorem XV (K:Nat) (hK:2000000<=K) {p n r:Int} (hR:Ag p n r) {W:List Rg} (h:aD r (n - 1) W) (hv:Vd (flat W)) {i k:Nat} (hi:i < W.length) (hk:k < W[i].2.2.1.length) :
   ∃ y,nh K p n r W (i:Int) (k:Int)=some y/\y.2.2.2.2.2=(Vo r (n - 1) (flat W) (off W i+k)).isSome/\∀ q,Vo r (n - 1) (flat W) (off W i+k)=some q->(y.1,y.2.1,y.2.2.1,y.2.2.2.1,y.2.2.2.2.1)=q:=by
 have hR':=hR
 unfold Ag at hR'
 have hwi:W[i]? = some W[i]:=List.getElem?_eq_getElem hi
 have hfk:W[i].2.2.1[k]? = some W[i].2.2.1[k]:=List.getElem?_eq_getElem hk
 have hp:=DZ W hi hk
 have hm:DU W[i] k W[i].2.2.1[k] ∈ flat W:=List.mem_of_getElem? hp
 have hsz:=hv.sz _ hm
 have hb:=hv.b _ hm
 have Cd:=hv.ok _ hm
 have htl:off W i+k < (flat W).length:=(List.getElem?_eq_some_iff.1 hp).1
 have hl:=hv.len
 unfold nh Vo
 simp only [DP,hwi,hfk,Option.bind_some]
 rw [NZ K _ _ _ _ (by simp only [DU] at hsz; omega),hp]
 simp only [Option.bind_some]
 by_cases h3:(DU W[i] k W[i].2.2.1[k]).1=3
 · have ho:=dn Cd h3
   simp only [DU] at ho
   rw [ho]
   simp only [BN,Option.bind_some]
   have hb1:(DU W[i] k W[i].2.2.1[k]).2.2.1 ≠ 0:=gH Cd h3
   have hN:(W[i].2.2.1[k]).2.2.1=(((DU W[i] k W[i].2.2.1[k]).2.2.1.toNat:Nat):Int):=by simp only [DU] at hb ⊢; omega
   have hw:=aH K hR h ((W[i].2.2.1[k]).2.1,(W[i].2.2.1[k]).2.2.1,g4 (W[i].2.2.1[k]).2.2.2 0,g4 (W[i].2.2.1[k]).2.2.2 4,g4 (W[i].2.2.1[k]).2.2.2 8,g4 (W[i].2.2.1[k]).2.2.2 12) (DU W[i] k W[i].2.2.1[k]).2.2.1.toNat hN (by omega) (off W i+k) i k 0 (DU W[i] k W[i].2.2.1[k]).2.2.1.toNat 1 [] [] K rfl hi hk (by omega) (by omega) (by omega) (by simp only [List.length_nil]; omega) (by simp only [List.length_nil]; omega) (by omega)
   simp only [Int.natCast_zero] at hw
   rw [hw]
   rw [aa h _ i k 1 [] [] hi hk (by omega) (by omega)]
   by_cases hc:whole (n - 1) (flat W) (off W i+k) (DU W[i] k W[i].2.2.1[k]).2.2.1.toNat=true/\(1:Int)+(news (flat W) (off W i+k) (DU W[i] k W[i].2.2.1[k]).2.2.1.toNat:Int)<=r - 2
   · rw [if_pos hc]
     have hn:=MV hc.1
     have hbs:=Mf htl hn
     have hfew:=br hv htl hn (by omega)
     have hsl:=IY htl hn
     simp only [Option.bind_some,BN,List.nil_append]
     rw [Yf K hK _ (by rw [List.length_map,<- List.length_reverse,hbs,hsl]; omega),Option.bind_some,ZN K hK _ (by rw [List.length_map,<- List.length_reverse,hbs,hsl]; omega),Option.bind_some,<- List.map_reverse,<- List.map_reverse,hbs,cK K hK hfew]
     refine ⟨_,rfl,?_,?_⟩
     · by_cases hj:(jn ((Nb (flat W) (off W i+k) (DU W[i] k W[i].2.2.1[k]).2.2.1.toNat).map LY)).2.2.2.2=0
       · rw [if_pos ⟨h3,hc.1,hc.2,hj⟩]
         simp only [hj]; rfl
       · rw [if_neg (fun q=>hj q.2.2.2)]
         simp only [Option.isSome_none,beq_eq_false_iff_ne]
         exact hj
     · intro q hq
       by_cases hj:(jn ((Nb (flat W) (off W i+k) (DU W[i] k W[i].2.2.1[k]).2.2.1.toNat).map LY)).2.2.2.2=0
       · rw [if_pos ⟨h3,hc.1,hc.2,hj⟩] at hq
         exact Option.some.inj hq
       · rw [if_neg (fun q=>hj q.2.2.2)] at hq
         cases hq
   · rw [if_neg hc,if_neg (fun q=>hc ⟨q.2.1,q.2.2.1⟩)]
     exact ⟨_,rfl,rfl,fun q hq=>by cases hq⟩
 · rw [if_neg (fun q=>h3 q.1)]
   have h3':(W[i].2.2.1[k]).1 ≠ 3:=h3
   rcases dM (a:=(W[i].2.2.1[k]).2.1) (b:=(W[i].2.2.1[k]).2.2.1) (t:=(W[i].2.2.1[k]).2.2.2) h3' with ⟨e,he⟩ | ⟨e,he⟩ | ⟨e,he⟩ | ⟨e,he⟩ <;> rw [he] <;> exact ⟨_,rfl,rfl,fun q hq=>by cases hq⟩
end Go.Proofs.YthoimblkpcikdaaGreatDoor.PGrp3
namespace Go.Proofs.YthoimblkpcikdaaGreatDoor.PGrp4
open Go.RowKit Go.Proofs.YthoimblkpcikdaaGreatDoor.Mc Go.Proofs.YthoimblkpcikdaaGreatDoor.N Go.Proofs.YthoimblkpcikdaaGreatDoor.Plain Go.Proofs.YthoimblkpcikdaaGreatDoor.PWalk Go.Proofs.YthoimblkpcikdaaGreatDoor.PWalk2 Go.Proofs.YthoimblkpcikdaaGreatDoor.PRev Go.Proofs.YthoimblkpcikdaaGreatDoor.PPiece Go.Proofs.YthoimblkpcikdaaGreatDoor.PGrp Go.Proofs.YthoimblkpcikdaaGreatDoor.PGrp2 Go.Proofs.YthoimblkpcikdaaGreatDoor.PGrp3
open Go.Proofs.YthoimblkpcikdaaGreatDoor.PJoin (Fr AM Jq Small DH fin Kq)
open Go.Proofs.YthoimblkpcikdaaGreatDoor.PureKeys (Ab AO)
open Go.Proofs.YthoimblkpcikdaaGreatDoor.PCut (Ag Dc CB)
set_option linter.unusedSimpArgs false
set_option linter.unusedVariables false
theorem CW {α:Type}(a:α):[a].length=1:=rfl
theorem Zs (W:List Rg){i:Nat}(h:i < W.length):off W i+W[i].2.2.1.length<=(flat W).length:=by
 rw [NF W h]
 unfold off
 rw [List.length_append,List.length_append,Cr]; omega
theorem OA (K:Nat) (hK:2000000<=K) {p n r:Int} (hR:Ag p n r) {W:List Rg} (h:aD r (n - 1) W) (hv:Vd (flat W)) {i:Nat} (hi:i < W.length) :
   AE (Po K W[i] p n r W ((i:Int),Fg r (n - 1) (flat W) (off W i))) K (0,Fg r (n - 1) (flat W) (off W i))=some (Fg r (n - 1) (flat W) (off W i+W[i].2.2.1.length)):=by
 have hl:=hv.len
 have ho:=Zs W hi
 refine BE (fun k=>((k:Int),Fg r (n - 1) (flat W) (off W i+k))) W[i].2.2.1.length rfl (by omega) (fun k hk=>?_) ?_
 · obtain ⟨y,hy,hs,hq⟩:=XV K hK hR h hv hi hk
   have hlen:=VD r (n - 1) (flat W) (off W i+k)
   unfold Po
   simp only []
   rw [AK (by omega),hy]
   simp only [Option.bind_some]
   rw [hs,<- Nat.add_assoc,bM,BK (by omega) (by omega)]
   cases hd:Vo r (n - 1) (flat W) (off W i+k) with
   | none =>
     simp only [Option.isSome_none,cond_false,Option.bind_some,Option.toList_none,List.append_nil]
     rfl
   | some q =>
     rw [Option.isSome_some,cond_true,CW,BB (by omega),Option.bind_some,hq q hd]
     rfl
 · unfold Po
   simp only []
   rw [AJ (by omega)]
theorem Ul (K:Nat)(hK:2000000<=K){p n r:Int}(hR:Ag p n r){W:List Rg}(h:aD r (n - 1) W)(hv:Vd (flat W)):jf K p n r W=some (Fg r (n - 1) (flat W) (flat W).length):=by
 have ZK:=h.wl
 unfold jf
 suffices hL:AE (Vl K p n r W) K (0,[])=some (Fg r (n - 1) (flat W) (flat W).length) from by rw [hL]; rfl
 refine BE (fun i=>((i:Int),Fg r (n - 1) (flat W) (off W i))) W.length rfl (by omega) (fun i hi=>?_) ?_
 · unfold Vl
   simp only []
   rw [AK (by omega),DP,List.getElem?_eq_getElem hi,Option.bind_some,OA K hK hR h hv hi,Option.bind_some,BK (by omega) (by omega),Hy W hi]
   rfl
 · unfold Vl
   simp only []
   rw [AJ (by omega),cn]
abbrev Yc (p:Pl):Int:=p.2.2.2.2.2.1
theorem Iz {W:List Rg}{p:Pl}(h:p ∈ flat W):∃ f ∈ W,∃ k,∃ hk:k < f.2.2.1.length,p=DU f k f.2.2.1[k]:=by
 obtain ⟨f,hf,hp⟩:=List.mem_flatMap.1 h
 obtain ⟨k,hk⟩:=List.getElem?_of_mem hp
 have hk1:k < f.2.2.1.length:=by have:=(List.getElem?_eq_some_iff.1 hk).1; rwa [Cr] at this
 rw [JS f hk1] at hk
 exact ⟨f,hf,k,hk1,(Option.some.inj hk).symm⟩
theorem WN {R S:Int}{W:List Rg}(h:aD R S W):(flat W).Pairwise fun a b=>ep a<=ep b:=by
 unfold flat
 rw [List.pairwise_flatMap]
 have e:∀ {f:Rg} {x:Pl},x ∈ LW f->ep x=f.2.1:=by
   intro f x hx
   obtain ⟨k,hk⟩:=List.getElem?_of_mem hx
   have hk1:k < f.2.2.1.length:=by have:=(List.getElem?_eq_some_iff.1 hk).1; rwa [Cr] at this
   rw [JS f hk1] at hk
   rw [<- Option.some.inj hk]; rfl
 refine ⟨fun f _=>?_,h.bS.imp fun {a b} hab x hx y hy=>by rw [e hx,e hy]; omega⟩
 refine List.pairwise_iff_getElem.2 fun i j hi hj _=>?_
 rw [e (List.getElem_mem hi),e (List.getElem_mem hj)]
 exact Int.le_refl _
theorem SZ {W:List Rg}{g:Rg->Int}(h:W.Pairwise fun a b=>g a ≠ g b){f f':Rg}(hf:f ∈ W)(hf':f' ∈ W)(e:g f=g f'):f=f':=by
 obtain ⟨i,hi,rfl⟩:=List.getElem_of_mem hf
 obtain ⟨j,hj,rfl⟩:=List.getElem_of_mem hf'
 have:=List.pairwise_iff_getElem.1 h
 rcases Nat.lt_trichotomy i j with h1 | h1 | h1
 · exact absurd e (this i j hi hj h1)
 · subst h1; rfl
 · exact absurd e.symm (this j i hj hi h1)
theorem PI {R S:Int}{W:List Rg}(h:aD R S W){p q:Pl}(hp:p ∈ flat W)(hq:q ∈ flat W):ep p=ep q ↔ Yc p=Yc q:=by
 obtain ⟨f,hf,k,hk,rfl⟩:=Iz hp
 obtain ⟨f', hf', k', hk', rfl⟩:=Iz hq
 constructor
 · intro e
   have:f=f':=SZ (g:=fun f=>f.2.1) (h.bS.imp fun {a b} hab=>by show a.2.1 ≠ b.2.1; omega) hf hf' e
   show f.1=f'.1
   rw [this]
 · intro e
   have:f=f':=SZ (g:=fun f=>f.1) h.nn hf hf' e
   show f.2.1=f'.2.1
   rw [this]
def Gs (acc:List Int)(l:List (Int × Int)):List Int:=l.foldl (fun a s=>if s.1 ∈ a then a else a ++ [s.1]) acc
theorem YS (acc:List Int)(l:List (Int × Int))(s:Int × Int):Gs acc (l ++ [s])=if s.1 ∈ Gs acc l then Gs acc l else Gs acc l ++ [s.1]:=by unfold Gs; rw [List.foldl_append]; rfl
theorem Ph (x:Int):∀ (l:List (Int × Int)) (acc:List Int),x ∈ Gs acc l ↔ x ∈ acc\/∃ s ∈ l,s.1=x
 | [],acc=>by simp [Gs]
 | s :: l,acc=>by
   have e:Gs acc (s :: l)=Gs (if s.1 ∈ acc then acc else acc ++ [s.1]) l:=rfl
   rw [e,Ph x l]
   by_cases h:s.1 ∈ acc
   · rw [if_pos h]
     constructor
     · rintro (h1 | ⟨q,hq,h1⟩)
       · exact .inl h1
       · exact .inr ⟨q,.tail _ hq,h1⟩
     · rintro (h1 | ⟨q,hq,h1⟩)
       · exact .inl h1
       · rcases List.mem_cons.1 hq with rfl | hq
         · exact .inl (h1 ▸ h)
         · exact .inr ⟨q,hq,h1⟩
   · rw [if_neg h]
     constructor
     · rintro (h1 | ⟨q,hq,h1⟩)
       · rcases List.mem_append.1 h1 with h1 | h1
         · exact .inl h1
         · exact .inr ⟨s,.head _,(List.mem_singleton.1 h1).symm⟩
       · exact .inr ⟨q,.tail _ hq,h1⟩
     · rintro (h1 | ⟨q,hq,h1⟩)
       · exact .inl (List.mem_append.2 (.inl h1))
       · rcases List.mem_cons.1 hq with rfl | hq
         · exact .inl (List.mem_append.2 (.inr (List.mem_singleton.2 h1.symm)))
         · exact .inr ⟨q,hq,h1⟩
theorem Rh {R S:Int} {W:List Rg} (h:aD R S W):∀ {n t:Nat},t < (flat W).length->n<=t->(Gs [] ((Nb (flat W) t n).map Qs)).length=news (flat W) t n+1
 | 0,t,ht,_=>by
   have e:Nb (flat W) t 0=[(flat W)[t]]:=by
     have:=Mf (L:=flat W) (n:=0) ht (by omega)
     rw [<- this]
     unfold back
     rw [List.getElem?_eq_getElem ht]; rfl
   rw [e]; rfl
 | n + 1, t, ht,hn=>by
   obtain ⟨t,rfl⟩:∃ q,t=q+1:=⟨t - 1,by omega⟩
   have ih:=Rh h (n:=n) (t:=t) (by omega) (by omega)
   rw [SA ht (by omega),List.map_append,List.map_cons,List.map_nil,YS]
   unfold news newAt
   rw [Nat.add_sub_cancel,List.getElem?_eq_getElem ht,List.getElem?_eq_getElem (show t < (flat W).length by omega)]
   simp only []
   have m1:=List.getElem_mem ht
   have m0:=List.getElem_mem (show t < (flat W).length by omega)
   have key:(Qs (flat W)[t+1]).1 ∈ Gs [] ((Nb (flat W) t n).map Qs) ↔ ep (flat W)[t]=ep (flat W)[t+1]:=by
     rw [Ph]
     constructor
     · rintro (h1 | ⟨s,hs,he⟩)
       · simp at h1
       · obtain ⟨q,hq,rfl⟩:=List.mem_map.1 hs
         obtain ⟨j,hj⟩:=List.getElem?_of_mem hq
         have hjl:=(List.getElem?_eq_some_iff.1 hj).1
         rw [IY (by omega) (by omega)] at hjl
         rw [ZL (by omega) (by omega) (by omega)] at hj
         obtain ⟨hj1,hj2⟩:=List.getElem?_eq_some_iff.1 hj
         have e1:ep q=ep (flat W)[t+1]:=(PI h (LP hq) m1).2 he
         have hm:=List.pairwise_iff_getElem.1 (WN h)
         have h3:=hm t (t+1) (by omega) ht (by omega)
         have h4:ep q<=ep (flat W)[t]:=by
           rcases Nat.lt_or_ge (t - n+j) t with h5 | h5
           · have:=hm (t - n+j) t hj1 (by omega) h5
             rw [hj2] at this
             exact this
           · have h6:t - n+j=t:=by omega
             rw [<- hj2]
             simp only [h6]
             exact Int.le_refl _
         omega
     · intro he
       refine .inr ⟨Qs (flat W)[t],?_,?_⟩
       · refine List.mem_map.2 ⟨_,?_,rfl⟩
         have:=ZL (L:=flat W) (t:=t) (n:=n) (j:=n) (by omega) (by omega) (by omega)
         rw [show t - n+n=t by omega,List.getElem?_eq_getElem (show t < (flat W).length by omega)] at this
         exact List.mem_of_getElem? this
       · exact (PI h m0 m1).1 he
   by_cases he:ep (flat W)[t]=ep (flat W)[t+1]
   · rw [if_pos (key.2 he),ih,if_neg (by rw [bne_iff_ne]; exact fun h=>h he)]; omega
   · rw [if_neg (fun h=>he (key.1 h)),List.length_append,CW,ih,if_pos (by rw [bne_iff_ne]; exact he)]; rw [Nat.add_comm 1]
end Go.Proofs.YthoimblkpcikdaaGreatDoor.PGrp4
namespace Go.Proofs.YthoimblkpcikdaaGreatDoor.PGrp5
open Go.RowKit Go.Proofs.YthoimblkpcikdaaGreatDoor.Mc Go.Proofs.YthoimblkpcikdaaGreatDoor.N Go.Proofs.YthoimblkpcikdaaGreatDoor.Plain Go.Proofs.YthoimblkpcikdaaGreatDoor.PWalk Go.Proofs.YthoimblkpcikdaaGreatDoor.PWalk2 Go.Proofs.YthoimblkpcikdaaGreatDoor.PRev Go.Proofs.YthoimblkpcikdaaGreatDoor.PPiece Go.Proofs.YthoimblkpcikdaaGreatDoor.PGrp Go.Proofs.YthoimblkpcikdaaGreatDoor.PGrp2 Go.Proofs.YthoimblkpcikdaaGreatDoor.PGrp3 Go.Proofs.YthoimblkpcikdaaGreatDoor.PGrp4
open Go.Proofs.YthoimblkpcikdaaGreatDoor.PJoin (Fr AM Jq Small DH fin Kq)
open Go.Proofs.YthoimblkpcikdaaGreatDoor.PureKeys (Ab AO)
open Go.Proofs.YthoimblkpcikdaaGreatDoor.PCut (Ag Dc CB)
set_option linter.unusedSimpArgs false
set_option linter.unusedVariables false
def fl (S:Int)(L:List Pl)(lo q:Nat):Bool:=if q=0 then true else whole S L (lo+(q - 1)) (q - 1)
end Go.Proofs.YthoimblkpcikdaaGreatDoor.PGrp5
namespace Go.Proofs.YthoimblkpcikdaaGreatDoor.PFlo
open Go.RowKit Go.Proofs.YthoimblkpcikdaaGreatDoor.Mc Go.Proofs.YthoimblkpcikdaaGreatDoor.N Go.Proofs.YthoimblkpcikdaaGreatDoor.Plain Go.Proofs.YthoimblkpcikdaaGreatDoor.PWalk Go.Proofs.YthoimblkpcikdaaGreatDoor.PWalk2 Go.Proofs.YthoimblkpcikdaaGreatDoor.PPiece Go.Proofs.YthoimblkpcikdaaGreatDoor.PGrp Go.Proofs.YthoimblkpcikdaaGreatDoor.PGrp3 Go.Proofs.YthoimblkpcikdaaGreatDoor.PGrp4
open Go.Proofs.YthoimblkpcikdaaGreatDoor.PJoin (Fr AM Jq)
open Go.Proofs.YthoimblkpcikdaaGreatDoor.PPut (SM)
set_option linter.unusedSimpArgs false
set_option linter.unusedVariables false
def mS (q p:Pl):Bool:=decide (q.2.1 < p.2.1) || (p.2.1 == q.2.1 && decide (q.2.2.1<=p.2.2.1))
def nu (o:Option Pl)(p:Pl):Bool:=match o with | none=>true | some q=>mS q p
def LZ (o:Option Pl)(p:Pl):Option Pl:=if p.1=4/\nu o p=true then some p else o
def fb (L:List Pl):Option Pl:=L.foldl LZ none
abbrev FS:Type:=Int × Bool × Int × Int × Int
def CY:Option Pl->FS
 | none=>(0,false,0,0,0)
 | some q=>(Yc q,true,q.2.1,q.2.2.1,g4 q.2.2.2.1 0)
theorem VW {k a b:Int} {t:ByteArray} (h:pr k a b t=true):k=1\/k=2\/k=3\/k=4:=by
 unfold pr at h
 cases hc:(decide (a < 1) || decide (2147483647 < a)) with
 | true=>rw [hc] at h; exact absurd h Bool.false_ne_true
 | false =>
   rw [hc,cond_false] at h
   by_cases h1:k=1
   · exact .inl h1
   · rw [beq_eq_false_iff_ne.2 h1,cond_false] at h
     by_cases h2:k=2
     · exact .inr (.inl h2)
     · rw [beq_eq_false_iff_ne.2 h2,cond_false] at h
       by_cases h3:k=3
       · exact .inr (.inr (.inl h3))
       · rw [beq_eq_false_iff_ne.2 h3,cond_false] at h
         by_cases h4:k=4
         · exact .inr (.inr (.inr h4))
         · rw [beq_eq_false_iff_ne.2 h4,cond_false] at h
           cases h
theorem nF {k a b:Int}{t:ByteArray}(h:pr k a b t=true):1<=a/\a<=2147483647:=by
 unfold pr at h
 by_cases h1:a < 1
 · rw [decide_eq_true h1] at h; cases h
 · by_cases h2:2147483647 < a
   · rw [decide_eq_false h1,decide_eq_true h2] at h; cases h
   · omega
theorem cF {a b:Int}{t:ByteArray}(h:pr 4 a b t=true):KO 4 a b t=.inr (.inr (.inr (.inr (a,b,g4 t 0,0)))):=by unfold KO; rw [h]; rfl
theorem dD {k a b:Int}{t:ByteArray}(h:pr k a b t=true)(h4:k ≠ 4):(∃ e,KO k a b t=.inr (.inl e))\/(∃ e,KO k a b t=.inr (.inr (.inl e)))\/∃ e,KO k a b t=.inr (.inr (.inr (.inl e))):=by
 rcases VW h with rfl | rfl | rfl | rfl
 · exact .inl ⟨_,by unfold KO; rw [h]; rfl⟩
 · exact .inr (.inl ⟨_,by unfold KO; rw [h]; rfl⟩)
 · exact .inr (.inr ⟨_,by unfold KO; rw [h]; rfl⟩)
 · exact absurd rfl h4
def df (f:Rg):Prop:=f.2.2.1.length<=1000/\∀ r ∈ f.2.2.1,Jq r=true/\r.2.2.2.size<=100
theorem df.of {W:List Rg}(hv:Vd (flat W)){i:Nat}(hi:i < W.length):df W[i]:=by
 have h1:=Zs W hi
 have h2:=hv.len
 refine ⟨by omega,fun r hr=>?_⟩
 obtain ⟨k,hk⟩:=List.getElem_of_mem hr
 obtain ⟨hk,rfl⟩:=hk
 have hm:=List.mem_of_getElem? (DZ W hi hk)
 have e:LY (DU W[i] k W[i].2.2.1[k])=W[i].2.2.1[k]:=rfl
 have h3:=hv.ok _ hm
 rw [e] at h3
 exact ⟨h3,hv.sz _ hm⟩
def cy (o:Option Pl)(k:Nat):Int × Bool × Int × Int × Int × Int:=((CY o).1,(CY o).2.1,(k:Int),(CY o).2.2.1,(CY o).2.2.2.1,(CY o).2.2.2.2)
theorem Qx {σ:Type}(g:σ->Pl->σ)(o:σ)(f:Rg){k:Nat}(hk:k < f.2.2.1.length):((LW f).take (k+1)).foldl g o=g (((LW f).take k).foldl g o) (DU f k f.2.2.1[k]):=by
 have hp:k < (LW f).length:=by rw [Cr]; exact hk
 have he:(LW f)[k]=DU f k f.2.2.1[k]:=by
   have:=JS f hk
   rw [List.getElem?_eq_getElem hp] at this
   exact Option.some.inj this
 rw [AM hp,List.foldl_append,he]; rfl
theorem TV (K:Nat) {f:Rg} (hf:df f) (o:Option Pl) {k:Nat} (hk:k < f.2.2.1.length):Lq K f (cy o k)=some (.inl (cy (LZ o (DU f k f.2.2.1[k])) (k+1))):=by
 have hl:=hf.1
 have hr:=hf.2 _ (List.getElem_mem hk)
 have hw:IntKind.wrap .i64 ((k:Int)+1)=((k+1:Nat):Int):=by rw [BK (by omega) (by omega)]; rfl
 unfold Lq cy
 simp only []
 rw [AK (by omega),DP,List.getElem?_eq_getElem hk,Option.bind_some,NZ K _ _ _ _ (by omega),hw]
 have hpr:pr (f.2.2.1[k]).1 (f.2.2.1[k]).2.1 (f.2.2.1[k]).2.2.1 (f.2.2.1[k]).2.2.2=true:=hr.1
 by_cases h4:(f.2.2.1[k]).1=4
 · have ho:KO (f.2.2.1[k]).1 (f.2.2.1[k]).2.1 (f.2.2.1[k]).2.2.1 (f.2.2.1[k]).2.2.2=.inr (.inr (.inr (.inr ((f.2.2.1[k]).2.1,(f.2.2.1[k]).2.2.1,g4 (f.2.2.1[k]).2.2.2 0,0)))):=by
     rw [h4] at hpr ⊢
     exact cF hpr
   rw [ho]
   have hs:LZ o (DU f k f.2.2.1[k])=if nu o (DU f k f.2.2.1[k])=true then some (DU f k f.2.2.1[k]) else o:=by
     unfold LZ
     have:(DU f k f.2.2.1[k]).1=4:=h4
     simp only [this,true_and]
   rw [hs]
   cases o with
   | none=>rfl
   | some q =>
     have hb:nu (some q) (DU f k f.2.2.1[k])=(decide (q.2.1 < (f.2.2.1[k]).2.1) || ((f.2.2.1[k]).2.1 == q.2.1 && decide (q.2.2.1<=(f.2.2.1[k]).2.2.1))):=rfl
     show ((((cond (decide (q.2.1 < (f.2.2.1[k]).2.1)) (some true) (cond ((f.2.2.1[k]).2.1 == q.2.1) (some (decide (q.2.2.1<=(f.2.2.1[k]).2.2.1))) (some false)):Option Bool)).bind fun y=>cond y (some (f.1,true,(f.2.2.1[k]).2.1,(f.2.2.1[k]).2.2.1,g4 (f.2.2.1[k]).2.2.2 0)) (some (CY (some q)))).bind fun y:FS=>(some (.inl (y.1,y.2.1,((k+1:Nat):Int),y.2.2.1,y.2.2.2.1,y.2.2.2.2)):Option ((Int × Bool × Int × Int × Int × Int) ⊕ FS)))=_
     by_cases h1:q.2.1 < (f.2.2.1[k]).2.1
     · rw [if_pos (by rw [hb,decide_eq_true h1]; rfl),AK h1]; rfl
     · rw [AJ h1]
       by_cases h2:(f.2.2.1[k]).2.1=q.2.1
       · rw [beq_iff_eq.2 h2,cond_true]
         by_cases h3:q.2.2.1<=(f.2.2.1[k]).2.2.1
         · rw [if_pos (by rw [hb,beq_iff_eq.2 h2,decide_eq_true h3,Bool.and_self,Bool.or_true]),decide_eq_true h3]; rfl
         · rw [if_neg (by rw [hb,decide_eq_false h1,decide_eq_false h3,Bool.and_false,Bool.or_false]; exact Bool.false_ne_true),decide_eq_false h3]; rfl
       · rw [beq_eq_false_iff_ne.2 h2,cond_false,if_neg (by rw [hb,decide_eq_false h1,beq_eq_false_iff_ne.2 h2]; exact Bool.false_ne_true)]; rfl
 · have hs:LZ o (DU f k f.2.2.1[k])=o:=by
     unfold LZ
     rw [if_neg]
     rintro ⟨q,_⟩
     exact h4 q
   rw [hs]
   rcases dD hpr h4 with ⟨e,he⟩ | ⟨e,he⟩ | ⟨e,he⟩ <;> rw [he] <;> rfl
theorem Sw (K:Nat)(hK:2000000<=K){f:Rg}(hf:df f)(o:Option Pl):AE (Lq K f) K (cy o 0)=some (CY ((LW f).foldl LZ o)):=by
 have hl:=hf.1
 refine BE (fun k=>cy (((LW f).take k).foldl LZ o) k) f.2.2.1.length rfl (by omega) (fun k hk=>?_) ?_
 · rw [Qx LZ o f hk]
   exact TV K hf _ hk
 · unfold Lq cy
   simp only []
   rw [AJ (by omega),List.take_of_length_le (by rw [Cr]; exact Nat.le_refl _)]
theorem OC (W:List Rg){i:Nat}(hi:i < W.length):flat (W.take (i+1))=flat (W.take i) ++ LW W[i]:=by rw [AM hi,OO]
theorem Wc (K:Nat)(hK:2000000<=K)(a b c:Int){W:List Rg}(hW:W.length<=1000)(hf:∀ i (hi:i < W.length),df W[i]):jr K a b c W=some ((CY (fb (flat W))).2.2.1,(CY (fb (flat W))).2.2.2.1,(CY (fb (flat W))).2.2.2.2,(CY (fb (flat W))).1,(CY (fb (flat W))).2.1):=by
 unfold jr
 suffices hL:AE (Pn K W) K (0,false,0,0,0,0)=some (CY (fb (flat W))) by rw [hL]; rfl
 refine BE (fun i=>cy (fb (flat (W.take i))) i) W.length rfl (by omega) (fun i hi=>?_) ?_
 · have hin:=Sw K hK (hf i hi) (fb (flat (W.take i)))
   have e:fb (flat (W.take (i+1)))=(LW W[i]).foldl LZ (fb (flat (W.take i))):=by unfold fb; rw [OC W hi,List.foldl_append]
   unfold Pn
   rw [e]
   unfold cy at hin ⊢
   simp only []
   rw [AK (by omega),DP,List.getElem?_eq_getElem hi,Option.bind_some]
   rw [show (((0:Nat):Int))=0 from rfl] at hin
   rw [hin,Option.bind_some,BK (by omega) (by omega)]
   rfl
 · unfold Pn cy
   simp only []
   rw [AJ (by omega),List.take_length]
def Nd (live:List Int)(t:Int)(p:Pl):Int:=if Yc p ∈ live then mx t p.2.1 else t
theorem WI (K:Nat){f:Rg}(hf:df f)(h1:∀ r ∈ f.2.2.1,r.1 ≠ 1){m:List (Int × Bool)}{live:List Int}(hm:SM m live)(t:Int){k:Nat}(hk:k < f.2.2.1.length):MD K f m (t,(k:Int))=some (.inl (Nd live t (DU f k f.2.2.1[k]),((k+1:Nat):Int))):=by
 have hl:=hf.1
 have hr:=hf.2 _ (List.getElem_mem hk)
 have hn:=h1 _ (List.getElem_mem hk)
 have hw:IntKind.wrap .i64 ((k:Int)+1)=((k+1:Nat):Int):=by rw [BK (by omega) (by omega)]; rfl
 unfold MD
 simp only []
 rw [AK (by omega),DP,List.getElem?_eq_getElem hk,Option.bind_some,NZ K _ _ _ _ (by omega),hw]
 have hpr:pr (f.2.2.1[k]).1 (f.2.2.1[k]).2.1 (f.2.2.1[k]).2.2.1 (f.2.2.1[k]).2.2.2=true:=hr.1
 have hx:Nd live t (DU f k f.2.2.1[k])=cond (decide (f.1 ∈ live)) (mx t (f.2.2.1[k]).2.1) t:=by
   unfold Nd
   by_cases h:f.1 ∈ live
   · rw [decide_eq_true h,if_pos (show Yc (DU f k f.2.2.1[k]) ∈ live from h)]; rfl
   · rw [decide_eq_false h,if_neg (show ¬ Yc (DU f k f.2.2.1[k]) ∈ live from h)]; rfl
 rw [hx,hm.get]
 rcases VW hpr with h | h | h | h
 · exact absurd h hn
 · have ho:KO (f.2.2.1[k]).1 (f.2.2.1[k]).2.1 (f.2.2.1[k]).2.2.1 (f.2.2.1[k]).2.2.2=.inr (.inr (.inl ((f.2.2.1[k]).2.1,(f.2.2.1[k]).2.2.1,(f.2.2.1[k]).2.2.2,0))):=by unfold KO; rw [hpr,h]; rfl
   rw [ho]
   cases decide (f.1 ∈ live) <;> rfl
 · obtain ⟨e,ho⟩:∃ e,KO (f.2.2.1[k]).1 (f.2.2.1[k]).2.1 (f.2.2.1[k]).2.2.1 (f.2.2.1[k]).2.2.2=.inr (.inr (.inr (.inl e))):=by unfold KO; rw [hpr,h]; exact ⟨_,rfl⟩
   rw [ho]
   cases decide (f.1 ∈ live) <;> rfl
 · obtain ⟨e,ho⟩:∃ e,KO (f.2.2.1[k]).1 (f.2.2.1[k]).2.1 (f.2.2.1[k]).2.2.1 (f.2.2.1[k]).2.2.2=.inr (.inr (.inr (.inr e))):=by unfold KO; rw [hpr,h]; exact ⟨_,rfl⟩
   rw [ho]
   cases decide (f.1 ∈ live) <;> rfl
theorem YR (K:Nat) (hK:2000000<=K) (a b c:Int) {W:List Rg} (hW:W.length<=1000) (hf:∀ i (hi:i < W.length),df W[i]) (h1:∀ i (hi:i < W.length),∀ r ∈ W[i].2.2.1,r.1 ≠ 1) {m:List (Int × Bool)} {live:List Int} (hm:SM m live) (t:Int):ji K a b c W t m=some (IntKind.wrap .u32 ((flat W).foldl (Nd live) t+1)):=by
 unfold ji
 suffices hL:AE (Vc K W m) K (t,0)=some ((flat W).foldl (Nd live) t) by rw [hL]; rfl
 refine BE (fun i=>((flat (W.take i)).foldl (Nd live) t,(i:Int))) W.length rfl (by omega) (fun i hi=>?_) ?_
 · have hfi:=hf i hi
   have hl:=hfi.1
   have hin:AE (MD K W[i] m) K ((flat (W.take i)).foldl (Nd live) t,0)=some ((LW W[i]).foldl (Nd live) ((flat (W.take i)).foldl (Nd live) t)):=by
     refine BE (fun k=>(((LW W[i]).take k).foldl (Nd live) ((flat (W.take i)).foldl (Nd live) t),(k:Int))) W[i].2.2.1.length rfl (by omega) (fun k hk=>?_) ?_
     · rw [Qx (Nd live) _ W[i] hk]
       exact WI K hfi (h1 i hi) hm _ hk
     · unfold MD
       simp only []
       rw [AJ (by omega),List.take_of_length_le (l:=LW W[i]) (by rw [Cr]; exact Nat.le_refl _)]
   unfold Vc
   simp only []
   rw [AK (by omega),DP,List.getElem?_eq_getElem hi,Option.bind_some,hin,Option.bind_some,BK (by omega) (by omega),OC W hi,List.foldl_append]
   rfl
 · unfold Vc
   simp only []
   rw [AJ (by omega),List.take_length]
end Go.Proofs.YthoimblkpcikdaaGreatDoor.PFlo
namespace Go.Proofs.YthoimblkpcikdaaGreatDoor.PKeep1
open Go.RowKit Go.Proofs.YthoimblkpcikdaaGreatDoor.Mc Go.Proofs.YthoimblkpcikdaaGreatDoor.N Go.Proofs.YthoimblkpcikdaaGreatDoor.Plain Go.Proofs.YthoimblkpcikdaaGreatDoor.PRange Go.Proofs.YthoimblkpcikdaaGreatDoor.PWalk Go.Proofs.YthoimblkpcikdaaGreatDoor.PWalk2 Go.Proofs.YthoimblkpcikdaaGreatDoor.PRev Go.Proofs.YthoimblkpcikdaaGreatDoor.PPiece Go.Proofs.YthoimblkpcikdaaGreatDoor.PGrp Go.Proofs.YthoimblkpcikdaaGreatDoor.PGrp3 Go.Proofs.YthoimblkpcikdaaGreatDoor.PGrp4
open Go.Proofs.YthoimblkpcikdaaGreatDoor.PJoin (Fr AM Jq fin DH Kq)
open Go.Proofs.YthoimblkpcikdaaGreatDoor.PureKeys (Ab AO)
open Go.Proofs.YthoimblkpcikdaaGreatDoor.PPut (SM)
set_option linter.unusedSimpArgs false
set_option linter.unusedVariables false
theorem iR (x:ByteArray)(p:Int):0<=g4 x p:=by
 have h0:=PLay.Bt x p
 have h1:=PLay.Bt x (p+1)
 have h2:=PLay.Bt x (p+2)
 have h3:=PLay.Bt x (p+3)
 rw [PG4.eV]
 omega
theorem bf {a b:Int} {t:ByteArray} (h:pr 3 a b t=true):g4 t 0 < a/\b ≠ 0:=by
 unfold pr at h
 cases hc:(decide (a < 1) || decide (2147483647 < a)) with
 | true=>rw [hc] at h; exact absurd h Bool.false_ne_true
 | false =>
   rw [hc] at h
   by_cases hb:b=0
   · subst hb; exact absurd h Bool.false_ne_true
   · have h1:(cond (b != 0) (cond ((t.size:Int) == 16) (decide (g4 t 0 < a) && (decide (1<=g4 t 4) && (decide (g4 t 4<=a) && (g4 t 12 != 0)))) false) false)=true:=h
     rw [bne_iff_ne.2 hb,cond_true] at h1
     cases hs:(t.size:Int) == 16 with
     | false=>rw [hs] at h1; exact absurd h1 Bool.false_ne_true
     | true =>
       rw [hs,cond_true,Bool.and_eq_true] at h1
       exact ⟨of_decide_eq_true h1.1,hb⟩
structure ib (R:Int)(h:Hd):Prop where
 pv:0<=h.2.1/\h.2.1 < h.1
 sq:h.1<=2147483647
 sp:h.2.2.2.2.length<=200
 rg:((Gs [] h.2.2.2.2).length:Int)<=R - 2
theorem eX {l:List Fr} (h:(jn l).2.2.2.2=0):∃ z,l[l.length - 1]? = some z/\Jq z=true/\z.1=3/\(jn l).1=z.2.1/\(jn l).2.1=g4 z.2.2.2 0:=by
 unfold jn at h ⊢
 cases hz:l[l.length - 1]? with
 | none=>rw [hz] at h; exact absurd (show (2:Int)=0 from h) (by decide)
 | some z =>
   rw [hz] at h
   simp only [] at h ⊢
   have hl:=(List.getElem?_eq_some_iff.1 hz).1
   split at h
   · rename_i hc
     rw [if_pos hc]
     have hp:=hc.1 (l.length - 1) hl
     rw [hz] at hp
     refine ⟨z,rfl,hp,hc.2.1,?_⟩
     unfold fin at h ⊢
     split at h
     · exact absurd h (by decide)
     · rename_i h1
       split at h
       · exact absurd h (by decide)
       · rename_i h2
         split at h
         · rename_i h3; exact absurd h h3
         · rename_i h3
           rw [if_neg h1,if_neg h2,if_neg h3]
           exact ⟨rfl,rfl⟩
   · exact absurd h (by decide)
theorem jF {R S:Int} {W:List Rg} (h:aD R S W) (hv:Vd (flat W)) {t:Nat} {q:Hd} (hq:Vo R S (flat W) t=some q):ib R q:=by
 unfold Vo at hq
 cases hp:(flat W)[t]? with
 | none=>rw [hp] at hq; cases hq
 | some p =>
   rw [hp] at hq
   simp only [] at hq
   split at hq
   · rename_i hc
     obtain ⟨h3,hw,hn,hj⟩:=hc
     have htl:=(List.getElem?_eq_some_iff.1 hp).1
     have hN:=MV hw
     have hsl:=IY htl hN
     have hl:=hv.len
     obtain ⟨z,hz,hz1,hz2,hz3,hz4⟩:=eX hj
     have e1:=(Option.some.inj hq).symm
     subst e1
     have hpr:pr z.1 z.2.1 z.2.2.1 z.2.2.2=true:=hz1
     rw [hz2] at hpr
     have ha:=PFlo.nF hpr
     have hs:=bf hpr
     refine ⟨?_,?_,?_,?_⟩
     · show 0<=(jn _).2.1/\(jn _).2.1 < (jn _).1
       rw [hz3,hz4]
       exact ⟨iR _ _,hs.1⟩
     · show (jn _).1<=_
       rw [hz3]; exact ha.2
     · show (List.map Qs _).length<=_
       rw [List.length_map,hsl]; omega
     · show ((Gs [] (List.map Qs _)).length:Int)<=_
       rw [Rh h htl hN]; omega
   · cases hq
theorem gC {R S:Int}{W:List Rg}(h:aD R S W)(hv:Vd (flat W)){t:Nat}{q:Hd}(hq:q ∈ Fg R S (flat W) t):ib R q:=by
 unfold Fg at hq
 obtain ⟨t', _,h1⟩:=List.mem_filterMap.1 hq
 exact jF h hv h1
theorem Ja:∀ (l:List (Int × Int)) {acc:List Int},acc.Nodup->(Gs acc l).Nodup
 | [],acc,h=>h
 | s :: l,acc,h=>by
   have e:Gs acc (s :: l)=Gs (if s.1 ∈ acc then acc else acc ++ [s.1]) l:=rfl
   rw [e]
   refine Ja l ?_
   split
   · exact h
   · rename_i hn
     rw [List.nodup_append]
     refine ⟨h,by simp,fun a ha b hb=>?_⟩
     rw [List.mem_singleton] at hb
     subst hb
     rintro rfl
     exact hn ha
theorem dh (l:List (Int × Int)) (acc:List Int):(Gs acc l).length<=acc.length+(Gs [] l).length:=by
 have key:∀ (l:List (Int × Int)) (a b:List Int),(∀ x,x ∈ b->x ∈ a)->(Gs a l).length+b.length<=a.length+(Gs b l).length:=by
   intro l
   induction l with
   | nil=>intro a b _; show a.length+b.length<=a.length+b.length; exact Nat.le_refl _
   | cons s l ih =>
     intro a b hab
     have e1:Gs a (s :: l)=Gs (if s.1 ∈ a then a else a ++ [s.1]) l:=rfl
     have e2:Gs b (s :: l)=Gs (if s.1 ∈ b then b else b ++ [s.1]) l:=rfl
     rw [e1,e2]
     by_cases ha:s.1 ∈ a
     · rw [if_pos ha]
       by_cases hb:s.1 ∈ b
       · rw [if_pos hb]; exact ih a b hab
       · rw [if_neg hb]
         have:=ih a (b ++ [s.1]) (fun x hx=>by
           rcases List.mem_append.1 hx with q | q
           · exact hab x q
           · rw [List.mem_singleton] at q; rw [q]; exact ha)
         rw [List.length_append,CW] at this
         omega
     · have hb:s.1 ∉ b:=fun q=>ha (hab _ q)
       rw [if_neg ha,if_neg hb]
       have:=ih (a ++ [s.1]) (b ++ [s.1]) (fun x hx=>by
         rcases List.mem_append.1 hx with q | q
         · exact List.mem_append.2 (.inl (hab x q))
         · exact List.mem_append.2 (.inr q))
       rw [List.length_append,List.length_append,CW] at this
       omega
 have:=key l acc [] (fun x hx=>by simp at hx)
 simpa using this
def fi (m:List (Int × Bool))(l:List (Int × Int)):List (Int × Bool):=l.foldl (fun a s=>Bb a s.1 true) m
theorem Ti:∀ (l:List (Int × Int)) {m:List (Int × Bool)} {lv:List Int},SM m lv->SM (fi m l) (Gs lv l)
 | [],m,lv,h=>h
 | s :: l,m,lv,h=>by
   have e:Gs lv (s :: l)=Gs (if s.1 ∈ lv then lv else lv ++ [s.1]) l:=rfl
   rw [e]
   refine Ti l (h.put s.1 fun x=>?_)
   split
   · rename_i hm
     constructor
     · exact .inr
     · rintro (rfl | q)
       · exact hm
       · exact q
   · rw [List.mem_append,List.mem_singleton]
     exact ⟨fun q=>q.symm,fun q=>q.symm⟩
theorem VP:∀ (q:List (Int × Bool)) {a:List (Int × Bool)} {l:List Int},SM a l->∃ l', SM (q.foldl (fun a e=>Bb a e.1 true) a) l' /\ ∀ x,x ∈ l' ↔ x ∈ l\/x ∈ q.map (·.1)
 | [],a,l,h=>⟨l,h,fun x=>by simp⟩
 | e :: q,a,l,h=>by
   obtain ⟨l', h1,h2⟩:=VP q (h.put e.1 (l':=e.1 :: l) fun x=>by rw [List.mem_cons])
   refine ⟨l', h1,fun x=>?_⟩
   rw [h2,List.mem_cons,List.map_cons,List.mem_cons]
   constructor
   · rintro ((a | a) | a)
     · exact .inr (.inl a)
     · exact .inl a
     · exact .inr (.inr a)
   · rintro (a | a | a)
     · exact .inl (.inr a)
     · exact .inl (.inl a)
     · exact .inr a
theorem Se (K:Nat) (hK:2000000<=K) (a b c:Int) (w:List PBatch1.Wr) (sp:List (Int × Int)) (hs:sp.length<=1000) {m:List (Int × Bool)} {lv:List Int} (hm:SM m lv) (hl:m.length<=1000):jd K a b c w sp m=some (m,fi m sp):=by
 unfold jd
 refine El (f:=aX K) (fun rest (a:List (Int × Bool))=>(a,(m,rest))) (fun a=>(a,m)) (fun a (e:Int × Bool)=>Bb a e.1 true) (fun _ _=>True) ?_ ?_ (fun _ _ _ _=>trivial) _ _ m.length K m [] rfl (by omega) trivial fun q hq=>?_
 · intro a Kin Kout; rfl
 · intro rest a Kin Kout hne _
   unfold aX
   cases rest with
   | nil=>exact absurd rfl hne
   | cons e r=>rfl
 · obtain ⟨l', h1,h2⟩:=VP q SM.nil
   have e:q.foldl (fun a (e:Int × Bool)=>Bb a e.1 true) []=m:=h1.uniq hm fun x=>by
     rw [h2,<- hm.mem x]
     have:=(hq.map (·.1)).mem_iff (a:=x)
     rw [this]
     simp
   rw [e]
   suffices hL:AE (Px K sp) K (0,m)=some (fi m sp) by rw [hL]; rfl
   refine BE (fun i=>((i:Int),fi m (sp.take i))) sp.length rfl (by omega) (fun i hi=>?_) ?_
   · unfold Px
     simp only []
     rw [AK (by omega),DP,List.getElem?_eq_getElem hi,Option.bind_some,BK (by omega) (by omega),AM hi]
     unfold fi
     rw [List.foldl_append]; rfl
   · unfold Px
     simp only []
     rw [AJ (by omega),List.take_length]
def may (R want:Int)(lv:List Int)(h:Hd):Bool:=h.1 == want && decide (((Gs lv h.2.2.2.2).length:Int) < R)
def TN (R want:Int)(lv:List Int)(A:List Hd):Option Hd:=A.reverse.find? (may R want lv)
theorem Zp (R want:Int)(lv:List Int)(A:List Hd){i:Nat}(hi:i < A.length):TN R want lv (A.take (i+1))=cond (may R want lv A[i]) (some A[i]) (TN R want lv (A.take i)):=by
 unfold TN
 rw [AM hi,List.reverse_append,List.reverse_singleton,List.singleton_append,List.find?_cons]
 cases may R want lv A[i] <;> rfl
theorem OJ (K:Nat)(hK:2000000<=K)(p n r want:Int){h:Hd}(hh:ib r h){m:List (Int × Bool)}{lv:List Int}(hm:SM m lv)(hn:lv.Nodup)(hl:lv.length<=100):nr K h.1 h.2.1 h.2.2.1 h.2.2.2.1 h.2.2.2.2 want p n r m=some (may r want lv h,m):=by
 unfold nr may
 have hml:=hm.len hn
 have hsp:=hh.sp
 by_cases he:h.1=want
 · rw [beq_iff_eq.2 he,cond_true,Bool.true_and,Se K hK _ _ _ _ _ (by omega) hm (by omega),Option.bind_some,(Ti h.2.2.2.2 hm).len (Ja _ hn)]
 · rw [beq_eq_false_iff_ne.2 he,cond_false,Bool.false_and]
theorem YB (K:Nat) (hK:2000000<=K) (p n r want:Int) {A:List Hd} (hA:∀ h ∈ A,ib r h) (hAl:A.length<=1000) {m:List (Int × Bool)} {lv:List Int} (hm:SM m lv) (hn:lv.Nodup) (hl:lv.length<=100) :
   lf K A want p n r m=some (match TN r want lv A with | some h=>(h.1,h.2.1,h.2.2.1,h.2.2.2.1,h.2.2.2.2,true,m) | none=>(0,0,0,[],[],false,m)):=by
 have go:∀ (i:Nat) (hi:i<=A.length) (K':Nat),i < K' -> AE (Qz K A want p n r) K' ((i:Int) - 1,m)=some (match TN r want lv (A.take i) with | some h=>.inl (h.1,h.2.1,h.2.2.1,h.2.2.2.1,h.2.2.2.2,m) | none=>.inr m):=by
   intro i
   induction i with
   | zero =>
     intro _ K' hK'
     obtain ⟨K', rfl⟩:∃ q,K' = q+1:=⟨K' - 1,by omega⟩
     rw [AO (r:=.inr m)]
     · rfl
     · unfold Qz
       simp only []
       rw [AJ (by omega)]
   | succ i ih =>
     intro hi K' hK'
     obtain ⟨K', rfl⟩:∃ q,K' = q+1:=⟨K' - 1,by omega⟩
     have hg:A[i]? = some A[i]:=List.getElem?_eq_getElem (by omega)
     have hb:Qz K A want p n r (((i+1:Nat):Int) - 1,m)=cond (may r want lv A[i]) (some (.inr (.inl (A[i].1,A[i].2.1,A[i].2.2.1,A[i].2.2.2.1,A[i].2.2.2.2,m)))) (some (.inl ((i:Int) - 1,m))):=by
       unfold Qz
       simp only []
       rw [show ((i+1:Nat):Int) - 1=(i:Int) by omega,AK (by omega)]
       simp only [DP,Int.toNat_natCast,hg,Option.bind_some]
       rw [OJ K hK p n r want (hA _ (List.getElem_mem _)) hm hn hl,Option.bind_some,BK (by omega) (by omega)]
     rw [Zp r want lv A (by omega)]
     cases hmay:may r want lv A[i] with
     | true=>rw [AO (by rw [hb,hmay,cond_true]),cond_true]
     | false=>rw [Ab (by rw [hb,hmay,cond_false]),cond_false,ih (by omega) K' (by omega)]
 unfold lf
 rw [BK (by omega) (by omega),go A.length (Nat.le_refl _) K (by omega),List.take_length,Option.bind_some]
 cases TN r want lv A <;> rfl
end Go.Proofs.YthoimblkpcikdaaGreatDoor.PKeep1
namespace Go.Proofs.YthoimblkpcikdaaGreatDoor.PKeep2
open Go.RowKit Go.Proofs.YthoimblkpcikdaaGreatDoor.Mc Go.Proofs.YthoimblkpcikdaaGreatDoor.N Go.Proofs.YthoimblkpcikdaaGreatDoor.Plain Go.Proofs.YthoimblkpcikdaaGreatDoor.PRange Go.Proofs.YthoimblkpcikdaaGreatDoor.PWalk Go.Proofs.YthoimblkpcikdaaGreatDoor.PWalk2 Go.Proofs.YthoimblkpcikdaaGreatDoor.PRev Go.Proofs.YthoimblkpcikdaaGreatDoor.PPiece Go.Proofs.YthoimblkpcikdaaGreatDoor.PGrp Go.Proofs.YthoimblkpcikdaaGreatDoor.PGrp3 Go.Proofs.YthoimblkpcikdaaGreatDoor.PGrp4 Go.Proofs.YthoimblkpcikdaaGreatDoor.PKeep1
open Go.Proofs.YthoimblkpcikdaaGreatDoor.PJoin (Fr AM)
open Go.Proofs.YthoimblkpcikdaaGreatDoor.PureKeys (Ab AO)
open Go.Proofs.YthoimblkpcikdaaGreatDoor.PPut (SM)
set_option linter.unusedSimpArgs false
set_option linter.unusedVariables false
def top (A:List Hd):Int:=A.foldl (fun t h=>mx t h.1) 0
theorem GN (A:List Hd){i:Nat}(hi:i < A.length):top (A.take (i+1))=mx (top (A.take i)) A[i].1:=by unfold top; rw [AM hi,List.foldl_append]; rfl
theorem cE (K:Nat)(hK:2000000<=K)(A:List Hd)(hA:A.length<=1000):AE (MO K A) K (0,0)=some (top A):=by
 refine BE (fun i=>(top (A.take i),(i:Int))) A.length rfl (by omega) (fun i hi=>?_) ?_
 · unfold MO
   simp only []
   rw [AK (by omega)]
   simp only [DP,Int.toNat_natCast,List.getElem?_eq_getElem hi,Option.bind_some]
   rw [BK (by omega) (by omega),GN A hi]
   rfl
 · unfold MO
   simp only []
   rw [AJ (by omega),List.take_length]
def GI (A:List Hd)(i:Nat)(b:Int):Prop:=(i=0/\b = -1)\/∃ (g:Nat) (h:Hd),b=(g:Int)/\A[g]? = some h/\h.1=top (A.take i)/\(A.take i).reverse.find? (fun q=>q.1 == top (A.take i))=some h
theorem bd (K:Nat) (hK:2000000<=K) (A:List Hd) (hA:A.length<=1000) (h1:∀ h ∈ A,0 < h.1):∃ b,AE (VI K A) K (-1,0)=some b/\GI A A.length b:=by
 refine My (fun i (z:Int × Int)=>z.2=(i:Int)/\GI A i z.1) (fun b=>GI A A.length b) A.length ⟨rfl,.inl ⟨rfl,rfl⟩⟩ (by omega) ?_ ?_
 · rintro i ⟨b,j⟩ hi ⟨hj,hb⟩
   simp only at hj hb
   subst hj
   have hg:A[i]? = some A[i]:=List.getElem?_eq_getElem hi
   have hp:=h1 _ (List.getElem_mem hi)
   have hw:IntKind.wrap .i64 ((i:Int)+1)=((i+1:Nat):Int):=by rw [BK (by omega) (by omega)]; rfl
   have hrev:(A.take (i+1)).reverse=A[i] :: (A.take i).reverse:=by rw [AM hi,List.reverse_append]; rfl
   unfold VI
   simp only [DP,hg,Option.bind_some,hw]
   rw [AK (by omega)]
   rcases hb with ⟨rfl,rfl⟩ | ⟨g,h,rfl,hgh,hht,hfi⟩
   · refine ⟨_,rfl,rfl,.inr ⟨0,A[0],rfl,hg,?_,?_⟩⟩
     · rw [GN A hi]
       show A[0].1=mx 0 A[0].1
       unfold mx
       rw [if_pos (by omega)]
     · rw [hrev,List.find?_cons,GN A hi]
       have:(A[0].1 == mx (top (A.take 0)) A[0].1)=true:=by
         rw [beq_iff_eq]
         show A[0].1=mx 0 A[0].1
         unfold mx
         rw [if_pos (by omega)]
       rw [this]
   · rw [AJ (by omega)]
     simp only [DP,hgh,Option.bind_some]
     by_cases hc:h.1<=A[i].1
     · rw [decide_eq_true hc]
       have e:top (A.take (i+1))=A[i].1:=by
         rw [GN A hi,<- hht]
         unfold mx
         split
         · rfl
         · omega
       refine ⟨_,rfl,rfl,.inr ⟨i,A[i],rfl,hg,e.symm,?_⟩⟩
       rw [hrev,List.find?_cons,e,beq_self_eq_true]
     · rw [decide_eq_false hc]
       have e:top (A.take (i+1))=top (A.take i):=by
         rw [GN A hi,<- hht]
         unfold mx
         rw [if_neg (by omega)]
       refine ⟨_,rfl,rfl,.inr ⟨g,h,rfl,hgh,by rw [e]; exact hht,?_⟩⟩
       rw [hrev,List.find?_cons,e]
       have:(A[i].1 == top (A.take i))=false:=by rw [beq_eq_false_iff_ne]; omega
       rw [this]
       exact hfi
 · rintro ⟨b,j⟩ ⟨hj,hb⟩
   simp only at hj hb
   subst hj
   unfold VI
   simp only []
   rw [AJ (by omega)]
   exact ⟨_,rfl,hb⟩
theorem find_congr {α:Type}{p q:α->Bool}:∀ {l:List α},(∀ a ∈ l,p a=q a)->l.find? p=l.find? q
 | [],_=>rfl
 | x :: l,h=>by
   rw [List.find?_cons,List.find?_cons,h x (List.mem_cons_self ..),find_congr fun a ha=>h a (List.mem_cons_of_mem _ ha)]
theorem Pw (K:Nat) (hK:2000000<=K) {r:Int} {A:List Hd} (hA:∀ h ∈ A,ib r h) (hAl:A.length<=1000) {lv:List Int} (hl:lv.length<=1) :
   (A=[]/\top A=0/\mm K A=some (0,0,0,[],[],false))\/∃ h,h ∈ A/\h.1=top A/\TN r (top A) lv A=some h/\mm K A=some (h.1,h.2.1,h.2.2.1,h.2.2.2.1,h.2.2.2.2,true):=by
 have h1:∀ h ∈ A,0 < h.1:=fun h hh=>by have:=(hA h hh).pv; omega
 obtain ⟨b,hb,hg⟩:=bd K hK A hAl h1
 unfold mm
 rw [hb,Option.bind_some]
 rcases hg with ⟨h0,rfl⟩ | ⟨g,h,rfl,hgh,hht,hfi⟩
 · have:A=[]:=List.eq_nil_of_length_eq_zero h0
   subst this
   exact .inl ⟨rfl,rfl,rfl⟩
 · rw [List.take_length] at hht hfi
   refine .inr ⟨h,List.mem_of_getElem? hgh,hht,?_,?_⟩
   · unfold TN
     rw [<- hfi]
     refine find_congr fun q hq=>?_
     unfold may
     have hm:q ∈ A:=List.mem_reverse.1 hq
     have h2:=(hA q hm).rg
     have h3:=dh q.2.2.2.2 lv
     rw [decide_eq_true (by omega),Bool.and_true]
   · rw [AJ (by omega),DP,hgh]; rfl
def ch (R:Int)(A:List Hd):Nat->Int->Int->Int->List Hd->List Int->Int × Int × List Hd × List Int
 | 0,fl,fr,_,gs,lv=>(fl,fr,gs,lv)
 | n+1,fl,fr,w,gs,lv=>if fl < w then (match TN R w lv A with | none=>(w,mx fr w,gs,lv) | some h=>ch R A n fl fr h.2.1 (gs ++ [h]) (Gs lv h.2.2.2.2)) else (fl,fr,gs,lv)
theorem Pc {R w:Int}{lv:List Int}{A:List Hd}{h:Hd}(hf:TN R w lv A=some h):h ∈ A/\h.1=w/\((Gs lv h.2.2.2.2).length:Int) < R:=by
 unfold TN at hf
 have h1:=List.find?_some hf
 unfold may at h1
 rw [Bool.and_eq_true,beq_iff_eq] at h1
 exact ⟨List.mem_reverse.1 (List.mem_of_find?_eq_some hf),h1.1,of_decide_eq_true h1.2⟩
def Gm (A:List Hd)(w:Int):Nat:=A.countP fun h=>decide (h.1<=w)
theorem Jb:∀ (A:List Hd) {u w:Int},u<=w->Gm A u<=Gm A w:=fun A u w h=>List.countP_mono_left fun q _ hq=>by
 have:=of_decide_eq_true hq
 exact decide_eq_true (by omega)
theorem YW:∀ {A:List Hd} {h:Hd} {u w:Int},h ∈ A->u < h.1->h.1<=w->Gm A u < Gm A w
 | [],h,u,w,hh,_,_=>by simp at hh
 | q :: A,h,u,w,hh,h1,h2=>by
   unfold Gm
   rw [List.countP_cons,List.countP_cons]
   have hle:=Jb A (show u<=w by omega)
   unfold Gm at hle
   rcases List.mem_cons.1 hh with rfl | hh
   · rw [if_neg (by rw [decide_eq_true_eq]; omega),if_pos (by rw [decide_eq_true_eq]; omega)]
     omega
   · have:=YW hh h1 h2
     unfold Gm at this
     by_cases hu:q.1<=u
     · rw [if_pos (decide_eq_true hu),if_pos (by rw [decide_eq_true_eq]; omega)]
       omega
     · rw [if_neg (by rw [decide_eq_true_eq]; exact hu)]
       omega
theorem bw (A:List Hd)(w:Int):Gm A w<=A.length:=List.countP_le_length
theorem XX (K:Nat) (hK:2000000<=K) {p n r:Int} (hr:r<=12) {A:List Hd} (hA:∀ h ∈ A,ib r h) (hAl:A.length<=1000) (fl fr fg:Int) (hfl:0<=fl):∀ (N:Nat) (w:Int) (gs:List Hd) (m:List (Int × Bool)) (lv:List Int) (K':Nat),Gm A w < N->N < K' -> gs.length+N<=1000000->SM m lv->lv.Nodup->lv.length<=100 ->
   ∃ m', SM m' (ch r A N fl fr w gs lv).2.2.2/\AE (Ju K p n r A) K' (fl,fr,fg,w,gs,m)=some ((ch r A N fl fr w gs lv).1,(ch r A N fl fr w gs lv).2.1,fg,(ch r A N fl fr w gs lv).2.2.1,m'):=by
 intro N
 induction N with
 | zero=>intro w gs m lv K' hw; omega
 | succ N ih =>
   intro w gs m lv K' hw hK' hg hm hn hl
   obtain ⟨K', rfl⟩:∃ q,K' = q+1:=⟨K' - 1,by omega⟩
   unfold ch
   by_cases hc:fl < w
   · rw [if_pos hc]
     have hlast:=YB K hK p n r w hA hAl hm hn hl
     have hstep:Ju K p n r A (fl,fr,fg,w,gs,m)=match TN r w lv A with | none=>some (.inr (w,mx fr w,fg,gs,m)) | some h=>some (.inl (fl,fr,fg,h.2.1,gs ++ [h],fi m h.2.2.2.2)):=by
       unfold Ju
       simp only []
       rw [AK hc,hlast,Option.bind_some]
       cases hf:TN r w lv A with
       | none=>rfl
       | some h =>
         have hml:=hm.len hn
         have hsp:=(hA h (Pc hf).1).sp
         simp only [Bool.not_true,cond_false]
         rw [CW,BB (by omega),Se K hK _ _ _ _ _ (by omega) hm (by omega)]
         rfl
     cases hf:TN r w lv A with
     | none =>
       rw [hf] at hstep
       exact ⟨m,hm,AO hstep⟩
     | some h =>
       rw [hf] at hstep
       obtain ⟨hmem,Qt,hlt⟩:=Pc hf
       have hh:=hA h hmem
       have hpv:=hh.pv
       rw [Ab hstep]
       have hcl:=YW (u:=h.2.1) (w:=w) hmem (by omega) (by omega)
       exact ih h.2.1 (gs ++ [h]) (fi m h.2.2.2.2) (Gs lv h.2.2.2.2) K' (by omega) (by omega) (by rw [List.length_append,CW]; omega) (Ti _ hm) (Ja _ hn) (by omega)
   · rw [if_neg hc]
     refine ⟨m,hm,AO ?_⟩
     unfold Ju
     simp only []
     rw [AJ hc]
end Go.Proofs.YthoimblkpcikdaaGreatDoor.PKeep2
namespace Go.Proofs.YthoimblkpcikdaaGreatDoor.PKeep3
open Go.RowKit Go.Proofs.YthoimblkpcikdaaGreatDoor.Mc Go.Proofs.YthoimblkpcikdaaGreatDoor.N Go.Proofs.YthoimblkpcikdaaGreatDoor.Plain Go.Proofs.YthoimblkpcikdaaGreatDoor.PRange Go.Proofs.YthoimblkpcikdaaGreatDoor.PWalk Go.Proofs.YthoimblkpcikdaaGreatDoor.PWalk2 Go.Proofs.YthoimblkpcikdaaGreatDoor.PRev Go.Proofs.YthoimblkpcikdaaGreatDoor.PPiece Go.Proofs.YthoimblkpcikdaaGreatDoor.PGrp Go.Proofs.YthoimblkpcikdaaGreatDoor.PGrp3 Go.Proofs.YthoimblkpcikdaaGreatDoor.PGrp4 Go.Proofs.YthoimblkpcikdaaGreatDoor.PKeep1 Go.Proofs.YthoimblkpcikdaaGreatDoor.PKeep2 Go.Proofs.YthoimblkpcikdaaGreatDoor.PFlo
open Go.Proofs.YthoimblkpcikdaaGreatDoor.PJoin (Fr AM)
open Go.Proofs.YthoimblkpcikdaaGreatDoor.PureKeys (Ab AO)
open Go.Proofs.YthoimblkpcikdaaGreatDoor.PPut (SM SK)
open Go.Proofs.YthoimblkpcikdaaGreatDoor.PCut (Ag)
set_option linter.unusedSimpArgs false
set_option linter.unusedVariables false
theorem NK:∀ {l l':List Int},l.Pairwise (· < ·)->l'.Pairwise (· < ·)->(∀ x,x ∈ l ↔ x ∈ l')->l=l'
 | [],[],_,_,_=>rfl
 | [],y :: m', _,_,h=>absurd ((h y).2 (List.mem_cons_self ..)) (by simp)
 | x :: m,[],_,_,h=>absurd ((h x).1 (List.mem_cons_self ..)) (by simp)
 | x :: m,y :: m', h1,h2,h=>by
   have hx:=List.pairwise_cons.1 h1
   have hy:=List.pairwise_cons.1 h2
   have e:x=y:=by
     rcases List.mem_cons.1 ((h x).1 (List.mem_cons_self ..)) with q | q
     · exact q
     · rcases List.mem_cons.1 ((h y).2 (List.mem_cons_self ..)) with q2 | q2
       · exact q2.symm
       · have a:=hy.1 x q
         have b:=hx.1 y q2
         omega
   subst e
   rw [NK hx.2 hy.2 fun e=>?_]
   constructor
   · intro he
     rcases List.mem_cons.1 ((h e).1 (List.mem_cons_of_mem _ he)) with q | q
     · have:=hx.1 e he
       omega
     · exact q
   · intro he
     rcases List.mem_cons.1 ((h e).2 (List.mem_cons_of_mem _ he)) with q | q
     · have:=hy.1 e he
       omega
     · exact q
theorem cD {m q:List (Int × Bool)}(h:SK m)(hq:q.Perm m):(q.map (·.1)).mergeSort (fun x y=>decide (x<=y))=m.map (·.1):=by
 have hs:((q.map (·.1)).mergeSort (fun x y=>decide (x<=y))).Pairwise fun x y=>decide (x<=y)=true:=List.pairwise_mergeSort (fun a b c h1 h2=>by
   have:=of_decide_eq_true h1
   have:=of_decide_eq_true h2
   exact decide_eq_true (by omega)) (fun a b=>by
   rcases Int.le_total a b with h | h
   · rw [decide_eq_true h]; rfl
   · rw [decide_eq_true h,Bool.or_true]) _
 have hp:((q.map (·.1)).mergeSort (fun x y=>decide (x<=y))).Perm (m.map (·.1)):=(List.mergeSort_perm _ _).trans (hq.map _)
 have hm:(m.map (·.1)).Pairwise (· < ·):=List.pairwise_map.2 h
 have hn:((q.map (·.1)).mergeSort (fun x y=>decide (x<=y))).Nodup:=hp.nodup_iff.2 (hm.imp fun {a b} q=>by omega)
 refine NK ?_ hm fun x=>hp.mem_iff
 refine (hs.and hn).imp fun {a b} q=>?_
 have:=of_decide_eq_true q.1
 have:=q.2
 omega
def Uy (lv:List Int)(n:Nat):List Int:=((List.range n).filter fun i:Nat=>decide ((i:Int) ∈ lv)).map fun i:Nat=>(i:Int)
theorem cU (lv:List Int)(n:Nat):(Uy lv n).length<=n:=by
 unfold Uy
 rw [List.length_map]
 have:=List.length_filter_le (fun i:Nat=>decide ((i:Int) ∈ lv)) (List.range n)
 rwa [List.length_range] at this
theorem bl (lv:List Int)(n:Nat):(Uy lv n).Pairwise (· < ·):=by
 unfold Uy
 rw [List.pairwise_map]
 exact (List.pairwise_lt_range.filter _).imp fun {a b} q=>by omega
theorem cN (lv:List Int)(n:Nat)(x:Int):x ∈ Uy lv n ↔ 0<=x/\x < (n:Int)/\x ∈ lv:=by
 unfold Uy
 rw [List.mem_map]
 constructor
 · rintro ⟨i,hi,rfl⟩
   rw [List.mem_filter,List.mem_range] at hi
   exact ⟨by omega,by omega,of_decide_eq_true hi.2⟩
 · rintro ⟨h1,h2,h3⟩
   refine ⟨x.toNat,?_,by omega⟩
   rw [List.mem_filter,List.mem_range]
   exact ⟨by omega,decide_eq_true (by rw [show ((x.toNat:Nat):Int)=x by omega]; exact h3)⟩
theorem aF {m:List (Int × Bool)}{lv:List Int}(h:SM m lv){n:Nat}(hb:∀ x ∈ lv,0<=x/\x < (n:Int)):m.map (·.1)=Uy lv n:=by
 refine NK (List.pairwise_map.2 h.sk) (bl lv n) fun x=>?_
 rw [h.mem,cN]
 exact ⟨fun q=>⟨(hb x q).1,(hb x q).2,q⟩,fun q=>q.2.2⟩
def Iw (fl:Int)(gs:List Hd):Int:=match gs[gs.length - 1]? with | some h=>mx fl h.1 | none=>fl
def Na (s:FS):List Int:=cond s.2.1 [s.1] []
def kept (r:Int)(A:List Hd)(L:List Pl)(N:Nat):Int × Int × Int × List Hd × List Int × Int × Int :=
 ((ch r A N (CY (fb L)).2.2.1 (CY (fb L)).2.2.2.2 (top A) [] (Na (CY (fb L)))).1,
  (ch r A N (CY (fb L)).2.2.1 (CY (fb L)).2.2.2.2 (top A) [] (Na (CY (fb L)))).2.1,
  (CY (fb L)).2.2.2.1,
  (ch r A N (CY (fb L)).2.2.1 (CY (fb L)).2.2.2.2 (top A) [] (Na (CY (fb L)))).2.2.1.reverse,
  Uy (ch r A N (CY (fb L)).2.2.1 (CY (fb L)).2.2.2.2 (top A) [] (Na (CY (fb L)))).2.2.2 r.toNat,
  Iw (ch r A N (CY (fb L)).2.2.1 (CY (fb L)).2.2.2.2 (top A) [] (Na (CY (fb L)))).1 (ch r A N (CY (fb L)).2.2.1 (CY (fb L)).2.2.2.2 (top A) [] (Na (CY (fb L)))).2.2.1.reverse,
  IntKind.wrap .u32 (L.foldl (Nd (ch r A N (CY (fb L)).2.2.1 (CY (fb L)).2.2.2.2 (top A) [] (Na (CY (fb L)))).2.2.2) (Iw (ch r A N (CY (fb L)).2.2.1 (CY (fb L)).2.2.2.2 (top A) [] (Na (CY (fb L)))).1 (ch r A N (CY (fb L)).2.2.1 (CY (fb L)).2.2.2.2 (top A) [] (Na (CY (fb L)))).2.2.1.reverse)+1))
structure XW (p n r:Int)(x W:List Rg):Prop where
 ri:Ag p n r
 rn:RN x
 xl:x.length<=1000
 ws:WS x W
 wo:aD r (n - 1) W
 vd:Vd (flat W)
 hd:∀ q ∈ flat W,q.1 ≠ 1
 rg:∀ q ∈ flat W,0<=Yc q/\Yc q < r
 xe:∀ f ∈ x,0<=f.2.1
 xf:∀ f ∈ x,f.2.2.1.length<=1000
noncomputable abbrev all (n r:Int)(W:List Rg):List Hd:=Fg r (n - 1) (flat W) (flat W).length
theorem XW.Cd {p n r:Int}{x W:List Rg}(d:XW p n r x W):∀ h ∈ all n r W,ib r h:=fun h hh=>gC d.wo d.vd hh
theorem jI {R S:Int} {L:List Pl} {t:Nat} {q:Hd} (hq:Vo R S L t=some q):∀ s ∈ q.2.2.2.2,∃ p ∈ L,Qs p=s:=by
 unfold Vo at hq
 cases hp:L[t]? with
 | none=>rw [hp] at hq; cases hq
 | some p =>
   rw [hp] at hq
   simp only [] at hq
   split at hq
   · have e1:=(Option.some.inj hq).symm
     subst e1
     intro s hs
     obtain ⟨p', hp', rfl⟩:=List.mem_map.1 hs
     exact ⟨p', LP hp', rfl⟩
   · cases hq
theorem iX {R S:Int}{L:List Pl}{t:Nat}{q:Hd}(hq:q ∈ Fg R S L t):∀ s ∈ q.2.2.2.2,∃ p ∈ L,Qs p=s:=by
 unfold Fg at hq
 obtain ⟨t', _,h1⟩:=List.mem_filterMap.1 hq
 exact jI h1
theorem eW {R:Int} {A:List Hd}:∀ (N:Nat) (fl fr w:Int) (gs:List Hd) (lv:List Int) (x:Int),x ∈ (ch R A N fl fr w gs lv).2.2.2->x ∈ lv\/∃ h ∈ A,∃ s ∈ h.2.2.2.2,s.1=x
 | 0,fl,fr,w,gs,lv,x,h=>.inl h
 | N + 1,fl,fr,w,gs,lv,x,h=>by
   unfold ch at h
   split at h
   · cases hf:TN R w lv A with
     | none=>rw [hf] at h; exact .inl h
     | some g =>
       rw [hf] at h
       rcases eW N _ _ _ _ _ x h with h1 | h1
       · rcases (Ph x _ _).1 h1 with h2 | ⟨s,hs,h2⟩
         · exact .inl h2
         · exact .inr ⟨g,(Pc hf).1,s,hs,h2⟩
       · exact .inr h1
   · exact .inl h
theorem fk (L:List Pl):∀ (o:Option Pl) (q:Pl),L.foldl LZ o=some q->o=some q\/(q ∈ L/\q.1=4):=by
 induction L with
 | nil=>intro o q h; exact .inl h
 | cons p L ih =>
   intro o q h
   rcases ih _ _ h with h1 | h1
   · unfold LZ at h1
     split at h1
     · rename_i hc
       cases h1
       exact .inr ⟨List.mem_cons_self ..,hc.1⟩
     · exact .inl h1
   · exact .inr ⟨List.mem_cons_of_mem _ h1.1,h1.2⟩
theorem Vy {L:List Pl}{q:Pl}(h:fb L=some q):q ∈ L/\q.1=4:=by
 rcases fk L none q h with h1 | h1
 · cases h1
 · exact h1
theorem XW.fl {p n r:Int}{x W:List Rg}(d:XW p n r x W):0<=(CY (fb (flat W))).2.2.1/\(CY (fb (flat W))).2.2.1<=2147483647:=by
 cases h:fb (flat W) with
 | none=>exact ⟨by decide,by decide⟩
 | some q =>
   have:=nF (d.vd.ok _ (Vy h).1)
   show 0<=q.2.1/\q.2.1<=2147483647
   have h2:1<=q.2.1/\q.2.1<=2147483647:=this
   omega
theorem XW.Na {p n r:Int}{x W:List Rg}(d:XW p n r x W):∀ y ∈ Na (CY (fb (flat W))),0<=y/\y < r:=by
 cases h:fb (flat W) with
 | none=>intro y hy; simp [PKeep3.Na,CY] at hy
 | some q =>
   intro y hy
   have e:y=Yc q:=by simpa [PKeep3.Na,CY] using hy
   rw [e]
   exact d.rg q (Vy h).1
theorem cJ (s:FS):(Na s).length<=1/\(Na s).Nodup:=by
 unfold Na
 cases s.2.1 <;> simp
theorem XW.lv {p n r:Int}{x W:List Rg}(d:XW p n r x W)(N:Nat)(fl fr w:Int)(gs:List Hd):∀ y ∈ (ch r (all n r W) N fl fr w gs (PKeep3.Na (CY (fb (flat W))))).2.2.2,0<=y/\y < ((r.toNat:Nat):Int):=by
 intro y hy
 have hr:((r.toNat:Nat):Int)=r:=by have:=d.ri; unfold Ag at this; omega
 rw [hr]
 rcases eW N _ _ _ _ _ y hy with h1 | ⟨h,hh,s,hs,rfl⟩
 · exact d.Na y h1
 · obtain ⟨q,hq,rfl⟩:=iX hh s hs
   exact d.rg q hq
theorem WA {p n r:Int}{x W:List Rg}(d:XW p n r x W):(all n r W).length<=200:=Nat.le_trans (VD _ _ _ _) d.vd.len
theorem Zr {R:Int} {A:List Hd}:∀ (N:Nat) (fl fr w:Int) (gs:List Hd) (lv:List Int),(ch R A N fl fr w gs lv).2.2.1.length<=gs.length+N
 | 0,fl,fr,w,gs,lv=>Nat.le_refl _
 | N + 1,fl,fr,w,gs,lv=>by
   unfold ch
   split
   · cases hf:TN R w lv A with
     | none=>simp only []; omega
     | some g =>
       have:=Zr N fl fr g.2.1 (gs ++ [g]) (Gs lv g.2.2.2.2) (R:=R) (A:=A)
       rw [List.length_append,CW] at this
       simp only []; omega
   · simp only []; omega
end Go.Proofs.YthoimblkpcikdaaGreatDoor.PKeep3
namespace Go.Proofs.YthoimblkpcikdaaGreatDoor.PKeep4
open Go.RowKit Go.Proofs.YthoimblkpcikdaaGreatDoor.Mc Go.Proofs.YthoimblkpcikdaaGreatDoor.N Go.Proofs.YthoimblkpcikdaaGreatDoor.Plain Go.Proofs.YthoimblkpcikdaaGreatDoor.PRange Go.Proofs.YthoimblkpcikdaaGreatDoor.PWalk Go.Proofs.YthoimblkpcikdaaGreatDoor.PWalk2 Go.Proofs.YthoimblkpcikdaaGreatDoor.PRev Go.Proofs.YthoimblkpcikdaaGreatDoor.PPiece Go.Proofs.YthoimblkpcikdaaGreatDoor.PGrp Go.Proofs.YthoimblkpcikdaaGreatDoor.PGrp3 Go.Proofs.YthoimblkpcikdaaGreatDoor.PGrp4 Go.Proofs.YthoimblkpcikdaaGreatDoor.PGrp5 Go.Proofs.YthoimblkpcikdaaGreatDoor.PKeep1 Go.Proofs.YthoimblkpcikdaaGreatDoor.PKeep2 Go.Proofs.YthoimblkpcikdaaGreatDoor.PKeep3 Go.Proofs.YthoimblkpcikdaaGreatDoor.PFlo
open Go.Proofs.YthoimblkpcikdaaGreatDoor.PJoin (Fr AM)
open Go.Proofs.YthoimblkpcikdaaGreatDoor.PureKeys (Ab AO)
open Go.Proofs.YthoimblkpcikdaaGreatDoor.PPut (SM SK)
open Go.Proofs.YthoimblkpcikdaaGreatDoor.PCut (Ag)
set_option linter.unusedSimpArgs false
set_option linter.unusedVariables false
theorem Wt (fl:Int)(gs:List Hd)(hg:gs.length<=4000000000)(a b:Int) :
   ((cond (decide (0 < (gs.length:Int))) ((ix gs (IntKind.wrap .i64 ((gs.length:Int) - 1))).bind fun a72=>(gs[(IntKind.wrap .i64 ((gs.length:Int) - 1)).toNat]?).bind fun a73=>some (fl,a,b,(mx fl a73.1))) (some (fl,a,b,fl)):Option (Int × Int × Int × Int)))=some (fl,a,b,Iw fl gs):=by
 unfold Iw
 by_cases h:0 < gs.length
 · have h1:gs.length - 1 < gs.length:=by omega
   rw [AK (by omega),BK (by omega) (by omega),show (gs.length:Int) - 1=((gs.length - 1:Nat):Int) by omega]
   simp only [DP,Int.toNat_natCast,List.getElem?_eq_getElem h1,Option.bind_some]
 · rw [AJ (by omega),List.getElem?_eq_none (by omega)]
theorem gh (s:FS):SM (cond s.2.1 (Bb [] s.1 true) []) (Na s):=by
 unfold Na
 cases s.2.1 with
 | false=>exact SM.nil
 | true=>exact SM.nil.put s.1 fun x=>by simp
theorem YC (K:Nat) (hK:2000000<=K) {R:Type} (a b c:Int) {m:List (Int × Bool)} {lv:List Int} (hm:SM m lv) (hl:m.length<=1000) (KK:Int × Int × Int × List (Int × Bool) × List Int->Option R) (r:R) (h:∀ q:List (Int × Bool),q.Perm m->KK (a,b,c,m,q.map (·.1))=some r) :
   EN (MK K) K (a,b,c,(m,m),([]:List Int)) KK=some r:=by
 refine El (f:=MK K) (fun rest (acc:List Int)=>(a,b,c,(m,rest),acc)) (fun acc=>(a,b,c,m,acc)) (fun acc (e:Int × Bool)=>acc ++ [e.1]) (fun n acc=>acc.length+n<=1000) ?_ ?_ ?_ KK r m.length K m [] rfl (by omega) (by rw [List.length_nil]; omega) fun q hq=>?_
 · intro acc Kin Kout; rfl
 · intro rest acc Kin Kout hne hi
   unfold MK
   cases rest with
   | nil=>exact absurd rfl hne
   | cons e r =>
     simp only [List.isEmpty_cons,cond_false]
     congr 1
     funext j e
     rw [CW,BB (by omega)]
 · intro n acc e hi
   rw [List.length_append,CW]; omega
 · have e:=FN (fun e:Int × Bool=>e.1) q []
   rw [e,List.nil_append]
   exact h q hq
noncomputable def tail (K:Nat)(p n r:Int)(W:List Rg):Option (Int × Int × Int × List Hd × List Int × Int × Int) :=
(jf K p n r W).bind fun y4 =>
(jr K p n r W).bind fun y6 =>
((cond y6.2.2.2.2 (
some (Bb ([]:List (Int × Bool)) y6.2.2.2.1 true)) (
some ([]:List (Int × Bool))):Option (List (Int × Bool)))).bind fun y7 =>
(AE (MO K y4) K (0,0)).bind fun y23 =>
(AE (Ju K p n r y4) K (y6.1,y6.2.2.1,y6.2.1,y23,([]:List Hd),y7)).bind fun y49 =>
(ju K y49.2.2.2.1).bind fun y51 =>
EN (MK K) K (y49.1,y49.2.1,y49.2.2.1,(y49.2.2.2.2,y49.2.2.2.2),([]:List Int)) fun y67 =>
(jq K y67.2.2.2.2).bind fun y69 =>
((cond (decide (0 < (y51.length:Int))) (
(ix y51 (IntKind.wrap .i64 ((y51.length:Int) - 1))).bind fun a72 =>
(y51[(IntKind.wrap .i64 ((y51.length:Int) - 1)).toNat]?).bind fun a73 =>
some (y67.1,y67.2.1,y67.2.2.1,(mx y67.1 a73.1))) (
some (y67.1,y67.2.1,y67.2.2.1,y67.1)):Option (Int × Int × Int × Int))).bind fun y74 =>
(ji K p n r W y74.2.2.2 y67.2.2.2.1).bind fun y76 =>
some (y74.1,y74.2.1,y74.2.2.1,y51,y69,y74.2.2.2,y76)
theorem Ny (K:Nat)(hK:2000000<=K){p n r:Int}{x W:List Rg}(d:XW p n r x W):tail K p n r W=some (kept r (all n r W) (flat W) 202):=by
 have hri:=d.ri
 unfold Ag at hri
 have ZK:=d.wo.wl
 have hfok:∀ i (hi:i < W.length),df W[i]:=fun i hi=>df.of d.vd hi
 have h1:∀ i (hi:i < W.length),∀ q ∈ W[i].2.2.1,q.1 ≠ 1:=fun i hi q hq=>by
   obtain ⟨k,hk,rfl⟩:=List.getElem_of_mem hq
   exact d.hd _ (List.mem_of_getElem? (DZ W hi hk))
 have hal:(Fg r (n - 1) (flat W) (flat W).length).length<=200:=WA d
 have hfl:=d.fl
 have hl0:=cJ (CY (fb (flat W)))
 unfold tail kept all
 rw [Ul K hK d.ri d.wo d.vd,Option.bind_some,Wc K hK p n r (by omega) hfok,Option.bind_some]
 simp only []
 have hsm0:=gh (CY (fb (flat W)))
 have hm0:((cond (CY (fb (flat W))).2.1 (some (Bb ([]:List (Int × Bool)) (CY (fb (flat W))).1 true)) (some ([]:List (Int × Bool))):Option (List (Int × Bool))))=some (cond (CY (fb (flat W))).2.1 (Bb [] (CY (fb (flat W))).1 true) []):=by cases (CY (fb (flat W))).2.1 <;> rfl
 rw [hm0,Option.bind_some,cE K hK _ (by omega),Option.bind_some]
 have hcn:=bw (Fg r (n - 1) (flat W) (flat W).length) (top (Fg r (n - 1) (flat W) (flat W).length))
 obtain ⟨m', hm', hloop⟩:=XX K hK (by omega) d.Cd (by show (Fg r (n - 1) (flat W) (flat W).length).length<=1000; omega) (CY (fb (flat W))).2.2.1 (CY (fb (flat W))).2.2.2.2 (CY (fb (flat W))).2.2.2.1 hfl.1 202 (top (Fg r (n - 1) (flat W) (flat W).length)) [] _ _ K (by show Gm (Fg r (n - 1) (flat W) (flat W).length) _ < 202; omega) (by omega) (by rw [List.length_nil]; omega) hsm0 hl0.2 (by omega)
 unfold all at hm' hloop
 rw [hloop,Option.bind_some]
 have hcl:=Zr (R:=r) (A:=Fg r (n - 1) (flat W) (flat W).length) 202 (CY (fb (flat W))).2.2.1 (CY (fb (flat W))).2.2.2.2 (top (Fg r (n - 1) (flat W) (flat W).length)) [] (Na (CY (fb (flat W))))
 have hlv:=d.lv 202 (CY (fb (flat W))).2.2.1 (CY (fb (flat W))).2.2.2.2 (top (Fg r (n - 1) (flat W) (flat W).length)) []
 unfold all at hlv
 generalize ch r (Fg r (n - 1) (flat W) (flat W).length) 202 (CY (fb (flat W))).2.2.1 (CY (fb (flat W))).2.2.2.2 (top (Fg r (n - 1) (flat W) (flat W).length)) [] (Na (CY (fb (flat W))))=c at hm' hloop hcl hlv
 rw [List.length_nil] at hcl
 simp only []
 rw [Ys K hK _ (by omega),Option.bind_some]
 have hmm:=aF hm' hlv
 have hml:m'.length<=12:=by
   have e:=congrArg List.length hmm
   rw [List.length_map] at e
   have:=cU c.2.2.2 r.toNat
   omega
 refine YC K hK _ _ _ hm' (by omega) _ _ fun q hq=>?_
 have hql:=hq.length_eq
 have hsort:jq K (q.map (·.1))=some (Uy c.2.2.2 r.toNat):=by
   unfold jq Vr
   rw [cD hm'.sk hq,hmm,BB (by rw [List.length_map]; omega)]
 simp only []
 rw [hsort,Option.bind_some,Wt c.1 c.2.2.1.reverse (by rw [List.length_reverse]; omega),Option.bind_some]
 simp only []
 rw [YR K hK p n r (by omega) hfok h1 hm', Option.bind_some]
theorem Sg (K:Nat)(hK:2000000<=K){p n r:Int}{x W:List Rg}(d:XW p n r x W):jl K p n r x=some (kept r (all n r W) (flat W) 202):=by
 rw [<- Ny K hK d]
 unfold jl
 rw [XU K hK p n r d.rn (by have:=d.xl; omega) d.ws]
 rfl
theorem OJ (K:Nat)(hK:2000000<=K){p n r:Int}{x W:List Rg}(d:XW p n r x W):Vp K p n r x=some (kept r (all n r W) (flat W) 202):=by
 rw [<- Ny K hK d]
 unfold Vp
 rw [UY K hK p n r d.rn (by have:=d.xl; omega) d.ws]
 rfl
end Go.Proofs.YthoimblkpcikdaaGreatDoor.PKeep4
namespace Go.Proofs.YthoimblkpcikdaaGreatDoor.PKeep5
open Go.RowKit Go.Proofs.YthoimblkpcikdaaGreatDoor.Mc Go.Proofs.YthoimblkpcikdaaGreatDoor.N Go.Proofs.YthoimblkpcikdaaGreatDoor.Plain Go.Proofs.YthoimblkpcikdaaGreatDoor.PRange Go.Proofs.YthoimblkpcikdaaGreatDoor.PWalk Go.Proofs.YthoimblkpcikdaaGreatDoor.PWalk2 Go.Proofs.YthoimblkpcikdaaGreatDoor.PRev Go.Proofs.YthoimblkpcikdaaGreatDoor.PPiece Go.Proofs.YthoimblkpcikdaaGreatDoor.PGrp Go.Proofs.YthoimblkpcikdaaGreatDoor.PGrp3 Go.Proofs.YthoimblkpcikdaaGreatDoor.PGrp4 Go.Proofs.YthoimblkpcikdaaGreatDoor.PGrp5 Go.Proofs.YthoimblkpcikdaaGreatDoor.PKeep1 Go.Proofs.YthoimblkpcikdaaGreatDoor.PKeep2 Go.Proofs.YthoimblkpcikdaaGreatDoor.PKeep3 Go.Proofs.YthoimblkpcikdaaGreatDoor.PKeep4 Go.Proofs.YthoimblkpcikdaaGreatDoor.PFlo
open Go.Proofs.YthoimblkpcikdaaGreatDoor.PJoin (Fr AM Jq)
open Go.Proofs.YthoimblkpcikdaaGreatDoor.PureKeys (Ab AO)
open Go.Proofs.YthoimblkpcikdaaGreatDoor.PPut (SM SK)
open Go.Proofs.YthoimblkpcikdaaGreatDoor.PCut (Ag)
set_option linter.unusedSimpArgs false
set_option linter.unusedVariables false
end Go.Proofs.YthoimblkpcikdaaGreatDoor.PKeep5
namespace Go.Proofs.YthoimblkpcikdaaGreatDoor.PRaw
open Go.RowKit Go.Proofs.YthoimblkpcikdaaGreatDoor.Mc Go.Proofs.YthoimblkpcikdaaGreatDoor.N Go.Proofs.YthoimblkpcikdaaGreatDoor.Plain Go.Proofs.YthoimblkpcikdaaGreatDoor.PWalk Go.Proofs.YthoimblkpcikdaaGreatDoor.PWalk2 Go.Proofs.YthoimblkpcikdaaGreatDoor.PPiece Go.Proofs.YthoimblkpcikdaaGreatDoor.PGrp Go.Proofs.YthoimblkpcikdaaGreatDoor.PGrp3 Go.Proofs.YthoimblkpcikdaaGreatDoor.PGrp4 Go.Proofs.YthoimblkpcikdaaGreatDoor.PKeep3 Go.Proofs.YthoimblkpcikdaaGreatDoor.PG4
open Go.Proofs.YthoimblkpcikdaaGreatDoor.PJoin (Fr AM Jq)
open Go.Proofs.YthoimblkpcikdaaGreatDoor.PCut (Ag cV iQ Kx prt uD Gm Lg CB)
open Go.Proofs.YthoimblkpcikdaaGreatDoor.PHand (Xk Sm)
set_option linter.unusedSimpArgs false
set_option linter.unusedVariables false
def jk (f:Fr):Prop:=Jq f=true/\f.1 ≠ 1/\(0<=f.2.2.1/\f.2.2.1 < 4294967296)/\f.2.2.2.size<=100
structure js (p n r:Int)(x:List Rg):Prop where
 ri:Ag p n r
 rn:RN x
 len:x.length<=12
 nn:∀ f ∈ x,0<=f.1/\f.1 < r
 ep:∀ f ∈ x,0<=f.2.1/\f.2.1 < 4294967295
 fl:∀ f ∈ x,(f.2.2.1.length:Int)<=n - 1
 ok:∀ f ∈ x,∀ q ∈ f.2.2.1,jk q
theorem js.dev {p n r:Int}{x:List Rg}(h:js p n r x):∃ W,XW p n r x W:=by
 have hxl:=h.len
 obtain ⟨W,hW,hWl⟩:=mB h.rn (by omega)
 have hsub:∀ f ∈ W,f ∈ x:=fun f hf=>((hW.mem f).1 hf).1
 have hri:=h.ri
 unfold Ag at hri
 have hflat:∀ q ∈ flat W,∃ f ∈ x,jk (LY q)/\Yc q=f.1:=by
   intro q hq
   obtain ⟨f,hf,k,hk,rfl⟩:=Iz hq
   exact ⟨f,hsub f hf,h.ok f (hsub f hf) _ (List.getElem_mem hk),rfl⟩
 have hfl:(flat W).length<=9 * W.length:=SX fun f hf=>by
   have:=h.fl f (hsub f hf)
   omega
 refine ⟨W,⟨h.ri,h.rn,by omega,hW,⟨hW.bS,?_,fun f hf=>h.ep f (hsub f hf),fun f hf=>h.fl f (hsub f hf),by omega,by omega,by omega⟩,⟨?_,?_,?_,by omega⟩,?_,?_,fun f hf=>(h.ep f hf).1,fun f hf=>by have:=h.fl f hf; omega⟩⟩
 · refine List.pairwise_iff_getElem.2 fun i j hi hj hij e=>?_
   have h1:=List.pairwise_iff_getElem.1 hW.bS i j hi hj hij
   have h2:=h.rn.same (hsub _ (List.getElem_mem hi)) (hsub _ (List.getElem_mem hj)) e
   rw [h2] at h1
   omega
 · intro q hq
   obtain ⟨f,hf,hr,_⟩:=hflat q hq
   exact hr.1
 · intro q hq
   obtain ⟨f,hf,hr,_⟩:=hflat q hq
   exact hr.2.2.1
 · intro q hq
   obtain ⟨f,hf,hr,_⟩:=hflat q hq
   exact hr.2.2.2
 · intro q hq
   obtain ⟨f,hf,hr,_⟩:=hflat q hq
   exact hr.2.1
 · intro q hq
   obtain ⟨f,hf,_,he⟩:=hflat q hq
   rw [he]
   exact h.nn f hf
def Rw (f:Fr):Prop:=jk f/\f.2.1<=12
theorem RZ {a b v:Int}(ha:1<=a)(ha2:a<=2147483647)(hb:0<=b/\b < 4294967296)(hv:0<=v)(hva:v<=a):jk (4,a,b,p4 v):=by
 have hs:=Bd v
 have hg:g4 (p4 v) 0=v:=by
   have h1:=VA (⟨#[]⟩:ByteArray) (⟨#[]⟩:ByteArray) v hv (by omega)
   have e:(⟨#[]⟩:ByteArray) ++ p4 v ++ (⟨#[]⟩:ByteArray)=p4 v:=by rw [PR,Ld]
   rw [e] at h1
   exact h1
 refine ⟨?_,by show (4:Int) ≠ 1; decide,hb,by show (p4 v).size<=100; omega⟩
 show pr 4 a b (p4 v)=true
 unfold pr
 rw [decide_eq_false (by omega),decide_eq_false (by omega)]
 show (cond (((p4 v).size:Int) == 4) (decide (g4 (p4 v) 0<=a)) false)=true
 rw [hs,hg,decide_eq_true hva]
 rfl
theorem fv {p:Int}{w:List PBatch1.Wr}(hb:PBatch1.Bq w=0)(hp:32<=p)(hp2:p<=64){sq pv fr:Int}(h1:1<=sq)(h2:sq<=2147483647)(hpv:0<=pv)(hps:pv < sq)(hf:1<=fr)(hfs:fr<=sq):∀ q ∈ iQ (PBatch2.bb w) sq pv fr (p - 15).toNat,jk q/\q.2.1=sq:=by
 have hbb:=PCut.Zh hb
 have hr:0 < (p - 15).toNat:=by omega
 have hc:=PCut.Jb (PBatch2.bb w).size (p - 15).toNat hr
 have hc0:=(PCut.Pr (PBatch2.bb w).size (p - 15).toNat 0 hr).2 (by omega)
 intro q hq
 unfold iQ at hq
 rcases List.mem_append.1 hq with hq | hq
 · obtain ⟨i,hi⟩:=List.getElem?_of_mem hq
   have hil:=(List.getElem?_eq_some_iff.1 hi).1
   rw [PCut.Eo] at hil
   rw [PCut.dw _ _ _ _ _ hil] at hi
   rw [<- Option.some.inj hi]
   refine ⟨⟨PCut.cX _ sq _ i hr hil h1 h2,by show (2:Int) ≠ 1; decide,⟨by show (0:Int)<=(i:Int); omega,by show (i:Int) < _; omega⟩,?_⟩,rfl⟩
   show ((PBatch2.bb w).extract _ _).size<=100
   rw [ByteArray.size_extract]
   have e:(i+1) * (p - 15).toNat=i * (p - 15).toNat+(p - 15).toNat:=by rw [Nat.add_mul,Nat.one_mul]
   omega
 · rw [List.mem_singleton] at hq
   rw [hq]
   have hz:U ((PBatch2.bb w).size:Int):=⟨by omega,by omega⟩
   have hk:((Gm (PBatch2.bb w).size (p - 15).toNat:Nat):Int) ≠ 0:=by omega
   have hz0:((PBatch2.bb w).size:Int) ≠ 0:=by omega
   refine ⟨⟨PCut.dZ sq _ pv fr _ _ h1 h2 hk hpv hps hf hfs hz hz0,by show (3:Int) ≠ 1; decide,⟨by show (0:Int)<=((Gm _ _:Nat):Int); omega,by show ((Gm _ _:Nat):Int) < _; omega⟩,?_⟩,rfl⟩
   show (s4 _ _ _ _).size<=100
   rw [Ve]; omega
theorem gp (K:Nat) (hK:2000000<=K) {p n r:Int} (hR:Ag p n r) (hp2:p<=64) {sq pv fr:Int} (h1:1<=sq) (h2:sq<=2147483647) (hpv:0<=pv) (hps:pv < sq) (hf:1<=fr) (hfs:fr<=sq) (l:List Sm):∃ L:List Fr,((lQ K p n r sq pv fr (Xk l 3)).bind fun y160=>BN (fun y161=>some ([]:List (Int × Int × Int × ByteArray))) (fun y162=>some y162.2) y160)=some L/\(∀ q ∈ L,jk q/\q.2.1=sq)/\L.length<=81:=by
 have hR':=hR
 unfold Ag at hR'
 rw [Lg K hK p n r sq pv fr hpv _ (fun w hw=>by have:=PHand.Wh l 3 w hw; omega),Option.bind_some]
 unfold cV
 rw [if_neg (fun q=>q hR)]
 by_cases hb:PBatch1.Bq (Xk l 3)=0
 · rw [if_neg (fun q=>q hb),if_neg (by omega)]
   split
   · exact ⟨[],rfl,fun q hq=>by simp at hq,by simp⟩
   · rename_i hm
     have hmm:=PCut.Oa (a:=r - 3) (b:=n - 1) (by omega) (by omega) (by omega) (by omega)
     refine ⟨_,rfl,fv hb (by omega) hp2 h1 h2 hpv hps hf hfs,?_⟩
     have hl:=PCut.dm (PBatch2.bb (Xk l 3)) sq pv fr (p - 15).toNat
     show (iQ (PBatch2.bb (Xk l 3)) sq pv fr (p - 15).toNat).length<=81
     omega
 · rw [if_pos hb]
   exact ⟨[],rfl,fun q hq=>by simp at hq,by simp⟩
end Go.Proofs.YthoimblkpcikdaaGreatDoor.PRaw
namespace Go.Proofs.YthoimblkpcikdaaGreatDoor.PRaw2
open Go.RowKit Go.Proofs.YthoimblkpcikdaaGreatDoor.Mc Go.Proofs.YthoimblkpcikdaaGreatDoor.N Go.Proofs.YthoimblkpcikdaaGreatDoor.Plain Go.Proofs.YthoimblkpcikdaaGreatDoor.PWalk Go.Proofs.YthoimblkpcikdaaGreatDoor.PWalk2 Go.Proofs.YthoimblkpcikdaaGreatDoor.PPiece Go.Proofs.YthoimblkpcikdaaGreatDoor.PGrp Go.Proofs.YthoimblkpcikdaaGreatDoor.PGrp3 Go.Proofs.YthoimblkpcikdaaGreatDoor.PGrp4 Go.Proofs.YthoimblkpcikdaaGreatDoor.PKeep3 Go.Proofs.YthoimblkpcikdaaGreatDoor.PG4 Go.Proofs.YthoimblkpcikdaaGreatDoor.PRaw
open Go.Proofs.YthoimblkpcikdaaGreatDoor.PJoin (Fr AM Jq)
open Go.Proofs.YthoimblkpcikdaaGreatDoor.PCut (Ag CB)
open Go.Proofs.YthoimblkpcikdaaGreatDoor.PHand (Xk Sm)
set_option linter.unusedSimpArgs false
set_option linter.unusedVariables false
abbrev Pt:Type:=Int × Int × Int × List Sm × Int
def nP (z:Pt):Prop:=(0<=z.1/\z.1 < 4294967296)/\(0<=z.2.1/\z.2.1 < 4294967296)/\(0<=z.2.2.1/\z.2.2.1 < 4294967296)/\∀ s ∈ z.2.2.2.1,s.2.2.size<=1000000000
theorem tm {a b:Int}(ha:0<=a)(hb:0 < b):0<=a.tmod b/\a.tmod b < b:=by
 rw [Int.tmod_eq_emod_of_nonneg ha]
 exact ⟨Int.emod_nonneg _ (by omega),Int.emod_lt_of_pos _ hb⟩
theorem Xf (K:Nat) (hK:2000000<=K) {p n r:Int} (hR:Ag p n r) (hp2:p<=64) (x4:List Pt) (h4:∀ z ∈ x4,nP z) {i:Nat} (hi:i < min 20 x4.length) (L:List Fr) (hL:∀ q ∈ L,Rw q) (hl:L.length<=100 * i) :
   ∃ L', SL K p n r x4 ((i:Int),L)=some (.inl (((i+1:Nat):Int),L'))/\(∀ q ∈ L', Rw q)/\L'.length<=100 * (i+1):=by
 have hil:i < x4.length:=by omega
 have hz:=h4 _ (List.getElem_mem hil)
 generalize hzz:x4[i]=z at hz
 have hg:x4[i]? = some z:=by rw [List.getElem?_eq_getElem hil,hzz]
 obtain ⟨ha,hb,hc,hs⟩:=hz
 have hw:IntKind.wrap .i64 ((i:Int)+1)=((i+1:Nat):Int):=by rw [BK (by omega) (by omega)]; rfl
 have t12:=tm ha.1 (show (0:Int) < 12 by omega)
 unfold SL
 simp only [DP,hg,Option.bind_some,hw]
 rw [AK (by omega),decide_eq_true (show (i:Int) < 20 by omega),Option.bind_some,cond_true,Kt (x:=1+z.1.tmod 12) (by omega) (by omega)]
 generalize hq:1+z.1.tmod 12=sq at *
 by_cases h0:z.2.2.2.1.length=0
 · have t3:=tm hb.1 (show (0:Int) < 3 by omega)
   have ts:=tm hc.1 (show (0:Int) < sq+1 by omega)
   rw [beq_iff_eq.2 (show (z.2.2.2.1.length:Int)=0 by omega),cond_true,Kt (x:=sq+1) (by omega) (by omega),Ec (by rw [bne_iff_ne]; omega),Ez K _ (by omega) (by omega),Option.bind_some,CW,BB (by omega),Option.bind_some]
   refine ⟨_,rfl,fun q hq=>?_,by rw [List.length_append,CW]; omega⟩
   rcases List.mem_append.1 hq with hq | hq
   · exact hL q hq
   · rw [List.mem_singleton] at hq
     rw [hq]
     exact ⟨RZ (by omega) (by omega) (by omega) (by omega) (by omega),by show sq<=12; omega⟩
 · have tp:=tm hb.1 (show (0:Int) < sq by omega)
   have tf:=tm hc.1 (show (0:Int) < sq by omega)
   rw [beq_eq_false_iff_ne.2 (show (z.2.2.2.1.length:Int) ≠ 0 by omega),cond_false,Ec (by rw [bne_iff_ne]; omega),Ec (by rw [bne_iff_ne]; omega)]
   rw [show kQ K z.2.2.2.1 3=_ from PHand.To K hK z.2.2.2.1 3 (by omega) (by omega) hs,Option.bind_some,Kt (x:=1+z.2.2.1.tmod sq) (by omega) (by omega)]
   obtain ⟨M,hM,Cd,hml⟩:=gp K hK hR hp2 (sq:=sq) (pv:=z.2.1.tmod sq) (fr:=1+z.2.2.1.tmod sq) (by omega) (by omega) (by omega) (by omega) (by omega) (by omega) z.2.2.2.1
   rw [hM,Option.bind_some]
   have Cd:∀ q ∈ M,Rw q:=fun q hq=>⟨(Cd q hq).1,by have:=(Cd q hq).2; omega⟩
   have hdrop:∃ M', ((((cond ((z.2.2.2.2.tmod 5) == 4) (some (decide (0 < (M.length:Int)))) (some false):Option Bool)).bind fun y165=>cond y165 (Ai (Be (M.length:Int) 0 (IntKind.wrap .i64 ((M.length:Int) - 1))) <| some ((M.drop 0).take (((IntKind.wrap .i64 ((M.length:Int) - 1)).toNat) - 0))) (some M):Option (List Fr)))=some M' /\ (∀ q ∈ M', Rw q)/\M'.length<=81:=by
     by_cases h5:(z.2.2.2.2.tmod 5)=4
     · rw [beq_iff_eq.2 h5,cond_true,Option.bind_some]
       by_cases hm:0 < M.length
       · rw [AK (by omega),BK (by omega) (by omega),Ec (by unfold Be; exact decide_eq_true (by omega))]
         refine ⟨_,rfl,fun q hq=>Cd q (List.mem_of_mem_take hq),?_⟩
         rw [List.length_take,List.drop_zero]; omega
       · rw [AJ (by omega)]
         exact ⟨M,rfl,Cd,hml⟩
     · rw [beq_eq_false_iff_ne.2 h5]
       exact ⟨M,rfl,Cd,hml⟩
   obtain ⟨M', hM', hok', hml'⟩:=hdrop
   rw [hM', Option.bind_some,BB (by omega),Option.bind_some]
   refine ⟨_,rfl,fun q hq=>?_,by rw [List.length_append]; omega⟩
   rcases List.mem_append.1 hq with hq | hq
   · exact hL q hq
   · exact hok' q hq
theorem XP (K:Nat)(hK:2000000<=K){p n r:Int}(hR:Ag p n r)(hp2:p<=64)(x4:List Pt)(h4:∀ z ∈ x4,nP z):∃ L,AE (SL K p n r x4) K (0,[])=some L/\(∀ q ∈ L,Rw q)/\L.length<=2000:=by
 refine My (fun i (s:Int × List Fr)=>s.1=(i:Int)/\(∀ q ∈ s.2,Rw q)/\s.2.length<=100 * i) (fun L:List Fr=>(∀ q ∈ L,Rw q)/\L.length<=2000) (min 20 x4.length) ⟨rfl,fun q hq=>by simp at hq,by simp⟩ (by omega) ?_ ?_
 · rintro i ⟨j,L⟩ hi ⟨hj,hL,hl⟩
   simp only at hj hL hl
   subst hj
   obtain ⟨L', h1,h2,h3⟩:=Xf K hK hR hp2 x4 h4 hi L hL hl
   exact ⟨_,h1,rfl,h2,h3⟩
 · rintro ⟨j,L⟩ ⟨hj,hL,hl⟩
   simp only at hj hL hl
   subst hj
   refine ⟨L,?_,hL,by omega⟩
   unfold SL
   simp only []
   by_cases h:min 20 x4.length < x4.length
   · rw [AK (by omega),decide_eq_false (by omega)]; rfl
   · rw [AJ (by omega)]; rfl
abbrev S6:Type:=List Fr × Int × Int × Int × Int × List Rg
theorem XM (K:Nat) (hK:2000000<=K) {p n r:Int} (hR:Ag p n r) (x5:List Int) (h5:∀ e ∈ x5,0<=e) (L:List Fr) (hL:∀ q ∈ L,Rw q) (hl:L.length<=2000):∃ x,AE (Lw K x5) K (L,0,p,n,r,[])=some (p,n,r,x)/\js p n r x/\x.map (·.1)=((List.range r.toNat).map fun i:Nat=>(i:Int))/\(∀ f ∈ x,f.2.1 < 30)/\∀ f ∈ x,∀ q ∈ f.2.2.1,q.2.1<=12:=by
 have hR':=hR
 unfold Ag at hR'
 have main : ∃ y,AE (Lw K x5) K (L,0,p,n,r,[])=some y/\∃ x,y=(p,n,r,x)/\(x.map (·.1)=(List.range r.toNat).map fun i:Nat=>(i:Int))/\(∀ f ∈ x,0<=f.2.1/\f.2.1 < 30)/\(∀ f ∈ x,(f.2.2.1.length:Int)<=n - 1)/\∀ f ∈ x,∀ q ∈ f.2.2.1,Rw q:=by
   refine My (fun i (s:S6)=>s.2.1=(i:Int)/\s.2.2.1=p/\s.2.2.2.1=n/\s.2.2.2.2.1=r/\(∀ q ∈ s.1,Rw q)/\s.1.length<=2000/\(s.2.2.2.2.2.map (·.1)=(List.range i).map fun i:Nat=>(i:Int))/\(∀ f ∈ s.2.2.2.2.2,0<=f.2.1/\f.2.1 < 30)/\(∀ f ∈ s.2.2.2.2.2,(f.2.2.1.length:Int)<=n - 1)/\∀ f ∈ s.2.2.2.2.2,∀ q ∈ f.2.2.1,Rw q) _ r.toNat ⟨rfl,rfl,rfl,rfl,hL,hl,rfl,fun f hf=>by simp at hf,fun f hf=>by simp at hf,fun f hf=>by simp at hf⟩ (by omega) ?_ ?_
   · rintro i ⟨M,j,p', n', r', x⟩ hi ⟨hj,hp,hn,hr,hM,hml,hx,he,hf,ho⟩
     simp only at hj hp hn hr hM hml hx he hf ho
     subst hj hp hn hr
     have hxl:x.length=i:=by have:=congrArg List.length hx; rwa [List.length_map,List.length_map,List.length_range] at this
     have hw:IntKind.wrap .i64 ((i:Int)+1)=((i+1:Nat):Int):=by rw [BK (by omega) (by omega)]; rfl
     unfold Lw
     simp only [hw]
     rw [AK (by omega)]
     have hep:∃ e,((cond (decide ((i:Int) < (x5.length:Int))) ((ix x5 (i:Int)).bind fun a200=>some ((i:Int),(a200.tmod 9))) (cond (decide (0 < (M.length:Int))) (some ((i:Int),(IntKind.wrap .u32 (IntKind.wrap .i64 ((i:Int)+10))))) (some ((i:Int),0))):Option (Int × Int)))=some ((i:Int),e)/\0<=e/\e < 30:=by
       by_cases h:i < x5.length
       · have t9:=tm (h5 _ (List.getElem_mem h)) (show (0:Int) < 9 by omega)
         rw [AK (by omega),DP,List.getElem?_eq_getElem h,Option.bind_some]
         exact ⟨_,rfl,by omega,by omega⟩
       · rw [AJ (by omega)]
         by_cases h2:0 < M.length
         · rw [AK (by omega),BK (x:=(i:Int)+10) (by omega) (by omega),Kt (by omega) (by omega)]
           exact ⟨_,rfl,by omega,by omega⟩
         · rw [AJ (by omega)]
           exact ⟨_,rfl,by omega,by omega⟩
     obtain ⟨e,hee,he0,he1⟩:=hep
     rw [hee,Option.bind_some]
     have hmn:mn (M.length:Int) (n' - 1)=((min M.length (n' - 1).toNat:Nat):Int):=by
       unfold mn
       split <;> omega
     have hfr:∃ M' G,((cond (decide (0 < e)) ((ed K p' n' r').bind fun y202=>Ai (Be (M.length:Int) 0 (mn (M.length:Int) y202)) <| Ai (decide ((([]:List Fr).length+(cut M 0 (mn (M.length:Int) y202)).length) * 32<=140737488355328)) <| Ai (Be (M.length:Int) (mn (M.length:Int) y202) (M.length:Int)) <| some ((cut M (mn (M.length:Int) y202) (M.length:Int)),(i:Int),e,(([]:List Fr) ++ (cut M 0 (mn (M.length:Int) y202))))) (some (M,(i:Int),e,([]:List Fr))):Option (List Fr × Int × Int × List Fr)))=some (M', (i:Int),e,G)/\(∀ q ∈ M', Rw q)/\M'.length<=2000/\(∀ q ∈ G,Rw q)/\(G.length:Int)<=n' - 1:=by
       by_cases h:0 < e
       · rw [AK h,CB K hR,Option.bind_some,hmn,Ec (by unfold Be; exact decide_eq_true (by omega)),BB (by unfold cut; rw [List.length_drop,List.length_take,List.length_nil]; omega),Ec (by unfold Be; exact decide_eq_true (by omega))]
         refine ⟨_,_,rfl,?_,?_,?_,?_⟩
         · intro q hq
           exact hM q (List.mem_of_mem_take (List.mem_of_mem_drop hq))
         · unfold cut
           rw [List.length_drop,List.length_take]; omega
         · intro q hq
           rw [List.nil_append] at hq
           exact hM q (List.mem_of_mem_take (List.mem_of_mem_drop hq))
         · unfold cut
           rw [List.nil_append,List.length_drop,List.length_take]; omega
       · rw [AJ h]
         exact ⟨_,_,rfl,hM,hml,fun q hq=>by simp at hq,by rw [List.length_nil]; omega⟩
     obtain ⟨M', G,hG,g1,g2,g3,g4⟩:=hfr
     simp only []
     rw [hG,Option.bind_some,CW,BB (by omega)]
     refine ⟨_,rfl,rfl,rfl,rfl,rfl,g1,g2,?_,?_,?_,?_⟩
     · show (x ++ [_]).map _=_
       rw [List.map_append,hx,List.range_succ,List.map_append]; rfl
     · intro f hfm
       rcases List.mem_append.1 hfm with hfm | hfm
       · exact he f hfm
       · rw [List.mem_singleton] at hfm; rw [hfm]; exact ⟨he0,he1⟩
     · intro f hfm
       rcases List.mem_append.1 hfm with hfm | hfm
       · exact hf f hfm
       · rw [List.mem_singleton] at hfm; rw [hfm]; exact g4
     · intro f hfm
       rcases List.mem_append.1 hfm with hfm | hfm
       · exact ho f hfm
       · rw [List.mem_singleton] at hfm; rw [hfm]; exact g3
   · rintro ⟨M,j,p', n', r', x⟩ ⟨hj,hp,hn,hr,hM,hml,hx,he,hf,ho⟩
     simp only at hj hp hn hr hM hml hx he hf ho
     subst hj hp hn hr
     refine ⟨_,?_,x,rfl,hx,he,hf,ho⟩
     unfold Lw
     simp only []
     rw [AJ (by omega)]
 obtain ⟨y,hy,x,rfl,hx,he,hf,ho⟩:=main
 have hxl:x.length=r.toNat:=by have:=congrArg List.length hx; rwa [List.length_map,List.length_map,List.length_range] at this
 have hnd:RN x:=by
   unfold RN
   rw [hx]
   unfold List.Nodup
   rw [List.pairwise_map]
   exact List.pairwise_lt_range.imp fun {a b} q=>by omega
 refine ⟨x,hy,⟨hR,hnd,by omega,fun f hfm=>?_,fun f hfm=>by have:=he f hfm; omega,hf,fun f hfm q hq=>(ho f hfm q hq).1⟩,hx,fun f hfm=>(he f hfm).2,fun f hfm q hq=>(ho f hfm q hq).2⟩
 have hm:f.1 ∈ x.map (·.1):=List.mem_map.2 ⟨f,hfm,rfl⟩
 rw [hx] at hm
 obtain ⟨i,hi,he⟩:=List.mem_map.1 hm
 rw [List.mem_range] at hi
 rw [<- he]
 omega
theorem dU (K:Nat)(hK:2000000<=K){p n r:Int}(hR:Ag p n r)(hp2:p<=64)(x4:List Pt)(h4:∀ z ∈ x4,nP z)(x5:List Int)(h5:∀ e ∈ x5,0<=e):∃ x,je K p n r x4 x5=some x/\js p n r x/\x.map (·.1)=((List.range r.toNat).map fun i:Nat=>(i:Int))/\(∀ f ∈ x,f.2.1 < 30)/\∀ f ∈ x,∀ q ∈ f.2.2.1,q.2.1<=12:=by
 obtain ⟨L,h1,h2,h3⟩:=XP K hK hR hp2 x4 h4
 obtain ⟨x,h6,h7,h8⟩:=XM K hK hR x5 h5 L h2 h3
 refine ⟨x,?_,h7,h8⟩
 unfold je
 rw [h1,Option.bind_some,h6]; rfl
end Go.Proofs.YthoimblkpcikdaaGreatDoor.PRaw2
namespace Go.Proofs.YthoimblkpcikdaaGreatDoor.PChain
open Go.RowKit Go.Proofs.YthoimblkpcikdaaGreatDoor.Mc Go.Proofs.YthoimblkpcikdaaGreatDoor.N Go.Proofs.YthoimblkpcikdaaGreatDoor.Plain Go.Proofs.YthoimblkpcikdaaGreatDoor.PWalk Go.Proofs.YthoimblkpcikdaaGreatDoor.PWalk2 Go.Proofs.YthoimblkpcikdaaGreatDoor.PRev Go.Proofs.YthoimblkpcikdaaGreatDoor.PPiece Go.Proofs.YthoimblkpcikdaaGreatDoor.PGrp Go.Proofs.YthoimblkpcikdaaGreatDoor.PGrp3 Go.Proofs.YthoimblkpcikdaaGreatDoor.PGrp4 Go.Proofs.YthoimblkpcikdaaGreatDoor.PKeep1 Go.Proofs.YthoimblkpcikdaaGreatDoor.PKeep2 Go.Proofs.YthoimblkpcikdaaGreatDoor.PKeep3 Go.Proofs.YthoimblkpcikdaaGreatDoor.PKeep4 Go.Proofs.YthoimblkpcikdaaGreatDoor.PKeep5 Go.Proofs.YthoimblkpcikdaaGreatDoor.PRaw Go.Proofs.YthoimblkpcikdaaGreatDoor.PRaw2 Go.Proofs.YthoimblkpcikdaaGreatDoor.PFlo
open Go.Proofs.YthoimblkpcikdaaGreatDoor.PJoin (Fr fin DH)
open Go.Proofs.YthoimblkpcikdaaGreatDoor.PCut (Ag)
open Go.Proofs.YthoimblkpcikdaaGreatDoor.PHand (Sm)
open Go.Proofs.YthoimblkpcikdaaGreatDoor.PBatch3 (KB)
set_option linter.unusedSimpArgs false
set_option linter.unusedVariables false
theorem alive (K:Nat) (hK:2000000<=K):jm K=some true:=by
 have hx:js 32 3 4 []:=⟨by unfold Ag; omega,List.nodup_nil,by simp,fun f hf=>by simp at hf,fun f hf=>by simp at hf,fun f hf=>by simp at hf,fun f hf=>by simp at hf⟩
 obtain ⟨W,d⟩:=hx.dev
 have hW:W=[]:=by
   cases W with
   | nil=>rfl
   | cons f W=>have:=((d.ws.mem f).1 (List.mem_cons_self ..)).1; simp at this
 subst hW
 have hk:=Sg K hK d
 have hch:ch 4 [] 202 0 0 0 [] []=(0,0,[],[]):=rfl
 have e:kept 4 (all 3 4 []) (flat []) 202=(0,0,0,[],[],0,1):=by
   show kept 4 [] [] 202=_
   unfold kept
   show ((ch 4 [] 202 0 0 0 [] []).1,(ch 4 [] 202 0 0 0 [] []).2.1,(0:Int),(ch 4 [] 202 0 0 0 [] []).2.2.1.reverse,Uy (ch 4 [] 202 0 0 0 [] []).2.2.2 4,Iw (ch 4 [] 202 0 0 0 [] []).1 (ch 4 [] 202 0 0 0 [] []).2.2.1.reverse,IntKind.wrap .u32 (([]:List Pl).foldl (Nd (ch 4 [] 202 0 0 0 [] []).2.2.2) (Iw (ch 4 [] 202 0 0 0 [] []).1 (ch 4 [] 202 0 0 0 [] []).2.2.1.reverse)+1))=_
   rw [hch]
   have e1:Uy [] 4=[]:=by
     apply List.eq_nil_of_length_eq_zero
     unfold Uy
     simp
   rw [e1]
   rfl
 rw [e] at hk
 unfold jm
 rw [hk]
 rfl
theorem Ix:∀ (ns:List Nat) (n:Nat),n ∈ ns->n<=ns.sum
 | [],_,h=>by simp at h
 | m :: ns,n,h=>by
   rw [List.sum_cons]
   rcases List.mem_cons.1 h with rfl | h
   · omega
   · have:=Ix ns n h; omega
theorem args (x1:Int)(x2:Int)(x3:Int)(x4:List Pt)(x5:List Int)(g:gO [.int .i64,.int .i64,.int .i64,.sl (.int .u32 (.int .u32 (.int .u32 (.sl (.int .i64 (.bool (.str .nil))) (.int .i64 .nil))))),.sl (.int .u32 .nil)] (x1,x2,x3,x4,x5))(b:XI [.int .i64,.int .i64,.int .i64,.sl (.int .u32 (.int .u32 (.int .u32 (.sl (.int .i64 (.bool (.str .nil))) (.int .i64 .nil))))),.sl (.int .u32 .nil)] (x1,x2,x3,x4,x5)<=1048576):(∀ z ∈ x4,nP z)/\∀ e ∈ x5,0<=e:=by
 have b':0+(0+(0+((x4.map fun z:Pt=>((z.2.2.2.1.map fun y:Sm=>(y.2.2.size+0)+1).sum+0)+1).sum+(x5.map fun _=>0+1).sum)))<=1048576:=b
 obtain ⟨_,_,_,⟨_,g4⟩,⟨_,g5⟩⟩:=g
 refine ⟨fun z hz=>?_,fun e he=>(FO (x:=e) (g5 e he).1).1⟩
 have gz:=g4 z hz
 refine ⟨FO (x:=z.1) gz.1,FO (x:=z.2.1) gz.2.1,FO (x:=z.2.2.1) gz.2.2.1,fun s hs=>?_⟩
 have h1:=Ix _ _ (List.mem_map.2 ⟨z,hz,rfl⟩:_ ∈ x4.map fun z:Pt=>((z.2.2.2.1.map fun y:Sm=>(y.2.2.size+0)+1).sum+0)+1)
 have h2:=Ix _ _ (List.mem_map.2 ⟨s,hs,rfl⟩:_ ∈ z.2.2.2.1.map fun y:Sm=>(y.2.2.size+0)+1)
 omega
end Go.Proofs.YthoimblkpcikdaaGreatDoor.PChain
