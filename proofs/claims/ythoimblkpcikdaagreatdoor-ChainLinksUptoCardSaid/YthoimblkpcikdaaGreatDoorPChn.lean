/- PGrp, PGrp2, PGrp3, PGrp4, PGrp5, PFlo, PKeep1, PKeep2, PKeep3, PKeep4, PKeep5, PRaw, PRaw2, PChain -/
import Derived.Test.YthoimblkpcikdaaGreatDoorPRev
import Derived.Test.YthoimblkpcikdaaGreatDoorPJoin2
import Derived.Test.YthoimblkpcikdaaGreatDoorPCut
import Derived.Test.YthoimblkpcikdaaGreatDoorPFlat
import Derived.Test.YthoimblkpcikdaaGreatDoorPHand
namespace Go.Proofs.YthoimblkpcikdaaGreatDoor.PGrp
open Go.RowKit Go.Proofs.YthoimblkpcikdaaGreatDoor.Mc Go.Proofs.YthoimblkpcikdaaGreatDoor.N Go.Proofs.YthoimblkpcikdaaGreatDoor.Plain Go.Proofs.YthoimblkpcikdaaGreatDoor.PWalk Go.Proofs.YthoimblkpcikdaaGreatDoor.PWalk2 Go.Proofs.YthoimblkpcikdaaGreatDoor.PRev Go.Proofs.YthoimblkpcikdaaGreatDoor.PPiece
open Go.Proofs.YthoimblkpcikdaaGreatDoor.PJoin (Fr AL Gm)
open Go.Proofs.YthoimblkpcikdaaGreatDoor.PureKeys (AU AK)
set_option linter.unusedSimpArgs false
set_option linter.unusedVariables false
def ET (p:Pl):Fr:=(p.1,p.2.1,p.2.2.1,p.2.2.2.1)
def MF (p:Pl):Int × Int:=(p.2.2.2.2.2.1,p.2.2.2.2.2.2)
abbrev ep (p:Pl):Int:=p.2.2.2.2.1
def lJ (S:Int)(a b:Pl):Bool:=if ep a=ep b then b.2.2.2.2.2.2 == a.2.2.2.2.2.2+1 else a.2.2.2.2.2.2 == S && (b.2.2.2.2.2.2 == 1 && ep b == ep a+1)
def Oh (S:Int)(L:List Pl)(t:Nat):Bool:=match L[t - 1]?,L[t]? with | some a,some b=>lJ S a b | _,_=>false
def newAt (L:List Pl)(t:Nat):Bool:=match L[t - 1]?,L[t]? with | some a,some b=>ep a != ep b | _,_=>false
def whole (S:Int)(L:List Pl)(t:Nat):Nat->Bool
 | 0=>true
 | n+1=>decide (0 < t) && Oh S L t && whole S L (t - 1) n
def news (L:List Pl)(t:Nat):Nat->Nat
 | 0=>0
 | n+1=>(if newAt L t then 1 else 0)+news L (t - 1) n
def back (L:List Pl)(t:Nat):Nat->List Pl
 | 0=>(L[t]?).toList
 | n+1=>(L[t]?).toList ++ back L (t - 1) n
structure Xf (g:Int)(S:Int)(W:List Rg):Prop where
 Yg:W.Pairwise fun a b=>a.2.1 < b.2.1
 sM:W.Pairwise fun a b=>a.1 ≠ b.1
 ep:∀ f ∈ W,0<=f.2.1/\f.2.1 < 4294967295
 len:∀ f ∈ W,(f.2.2.1.length:Int)<=S
 XL:2<=S/\S<=9
 regs:4<=g/\g<=12
 wl:W.length<=12
def off (W:List Rg)(i:Nat):Nat:=(flat (W.take i)).length
theorem Je (W:List Rg){i:Nat}(h:i < W.length):off W (i+1)=off W i+W[i].2.2.1.length:=by
 unfold off
 rw [AL h,KT,List.length_append,Cv]
theorem Sk (W:List Rg):off W 0=0:=rfl
theorem Nt (W:List Rg){i:Nat}(h:i < W.length):flat W=flat (W.take i) ++ (MA W[i] ++ flat (W.drop (i+1))):=by
 conv=>lhs; rw [<- List.take_append_drop i W,List.drop_eq_getElem_cons h]
 unfold flat
 rw [List.flatMap_append,List.flatMap_cons]
theorem Di (W:List Rg){i k:Nat}(h:i < W.length)(hk:k < W[i].2.2.1.length):(flat W)[off W i+k]? = some (Dv W[i] k W[i].2.2.1[k]):=by
 rw [Nt W h]
 unfold off
 rw [List.getElem?_append_right (by omega),Nat.add_sub_cancel_left,List.getElem?_append_left (by rw [Cv]; exact hk),Mr _ hk]
theorem Sr (W:List Rg):∀ (m:Nat),m<=W.length->∀ (t:Nat),t < off W m->∃ i k,∃ (h:i < W.length) (hk:k < W[i].2.2.1.length),i < m/\t=off W i+k
 | 0,_,t,h=>by rw [Sk] at h; omega
 | m + 1,hm,t,h=>by
   rw [Je W (by omega)] at h
   rcases Nat.lt_or_ge t (off W m) with h1 | h1
   · obtain ⟨i,k,a,b,c,d⟩:=Sr W m (by omega) t h1
     exact ⟨i,k,a,b,by omega,d⟩
   · exact ⟨m,t - off W m,by omega,by omega,by omega,by omega⟩
theorem eB (W:List Rg):off W W.length=(flat W).length:=by unfold off; rw [List.take_length]
def wb (R S:Int) (W:List Rg):Nat->Nat->Nat->Int->List Fr->List (Int × Int)->Option (List Fr × List (Int × Int))
 | 0,i,k,_,fs,ss=>match (flat W)[off W i+k]? with | some p=>some (fs ++ [ET p],ss ++ [MF p]) | none=>none
 | n + 1,i,k,c,fs,ss=>match (flat W)[off W i+k]? with
   | some p =>
     if 0 < k then wb R S W n i (k - 1) c (fs ++ [ET p]) (ss ++ [MF p])
     else if i=0\/R - 2 < c+1\/¬ (((W[i - 1]?).map fun f:Rg=>f.2.1+1)=(W[i]?).map fun f:Rg=>f.2.1)\/¬ (((W[i - 1]?).map fun f:Rg=>(f.2.2.1.length:Int))=some S) then none
     else wb R S W n (i - 1) (S.toNat - 1) (c+1) (fs ++ [ET p]) (ss ++ [MF p])
   | none=>none
theorem QN {W:List Rg}{i k:Nat}(f:Rg)(r:Fr):ep (Dv f k r)=f.2.1:=rfl
theorem ZZ {R S:Int} {W:List Rg} (h:Xf R S W):∀ (n i k:Nat) (c:Int) (fs:List Fr) (ss:List (Int × Int)) (hi:i < W.length) (hk:k < W[i].2.2.1.length),1<=c->c<=R - 2 ->
   wb R S W n i k c fs ss=if whole S (flat W) (off W i+k) n=true/\c+(news (flat W) (off W i+k) n:Int)<=R - 2 then some (fs ++ (back (flat W) (off W i+k) n).map ET,ss ++ (back (flat W) (off W i+k) n).map MF) else none
 | 0,i,k,c,fs,ss,hi,hk,hc1,hc=>by
   unfold wb whole news back
   rw [Di W hi hk,if_pos ⟨rfl,by simpa using hc⟩]; rfl
 | n + 1, i, k,c,fs,ss,hi,hk,hc1,hc=>by
   have hp:=Di W hi hk
   unfold wb whole news back
   rw [hp]
   simp only []
   by_cases h0:0 < k
   · rw [if_pos h0,ZZ h n i (k - 1) c _ _ hi (by omega) hc1 hc]
     have hq:=Di W hi (show k - 1 < W[i].2.2.1.length by omega)
     have e1:off W i+k - 1=off W i+(k - 1):=by omega
     have hgo:Oh S (flat W) (off W i+k)=true:=by
       unfold Oh
       rw [e1,hq,hp]
       simp only []
       unfold lJ
       rw [if_pos (by rw [QN (W:=W) (i:=i),QN (W:=W) (i:=i)])]
       simp only [Dv,beq_iff_eq]
       omega
     have hnw:newAt (flat W) (off W i+k)=false:=by
       unfold newAt
       rw [e1,hq,hp]
       simp [ep,Dv]
     rw [hgo,hnw,e1,decide_eq_true (show 0 < off W i+k by omega)]
     simp only [Bool.true_and,Bool.false_eq_true,if_false,Nat.zero_add,Option.toList_some,List.map_append,List.map_cons,List.map_nil,List.append_assoc]
   · rw [if_neg h0]
     obtain rfl:k=0:=by omega
     have hwi:W[i]? = some W[i]:=List.getElem?_eq_getElem hi
     by_cases hi0:i=0
     · subst hi0
       rw [if_pos (.inl rfl),if_neg]
       rintro ⟨h1,_⟩
       rw [Sk] at h1
       simp at h1
     · have hi1:i - 1 < W.length:=by omega
       have hwj:W[i - 1]? = some W[i - 1]:=List.getElem?_eq_getElem hi1
       have hasc:=List.pairwise_iff_getElem.1 h.Yg (i - 1) i hi1 hi (by omega)
       have hoff:off W i=off W (i - 1)+W[i - 1].2.2.1.length:=by
         have:=Je W hi1
         rwa [show i - 1+1=i by omega] at this
       rw [hwj,hwi]
       simp only [Option.map_some,Option.some.injEq]
       by_cases hS:(W[i - 1].2.2.1.length:Int)=S
       · have hs2:=h.XL.1
         have hlen0:0 < W[i - 1].2.2.1.length:=by omega
         have hq:=Di W hi1 (show W[i - 1].2.2.1.length - 1 < W[i - 1].2.2.1.length by omega)
         have e1:off W i+0 - 1=off W (i - 1)+(W[i - 1].2.2.1.length - 1):=by omega
         have hnw:newAt (flat W) (off W i+0)=true:=by
           unfold newAt
           rw [e1,hq,hp]
           simp only [ep,Dv,bne_iff_ne,ne_eq]
           omega
         have hgo:Oh S (flat W) (off W i+0)=decide (W[i - 1].2.1+1=W[i].2.1):=by
           unfold Oh
           rw [e1,hq,hp]
           simp only []
           unfold lJ
           rw [if_neg (by rw [QN (W:=W) (i:=i),QN (W:=W) (i:=i)]; omega)]
           simp only [Dv,ep]
           have q1:(((W[i - 1].2.2.1.length - 1+1:Nat):Int) == S)=true:=by rw [beq_iff_eq]; omega
           have q2:(((0+1:Nat):Int) == 1)=true:=rfl
           rw [q1,q2,Bool.true_and,Bool.true_and]
           by_cases he:W[i - 1].2.1+1=W[i].2.1
           · rw [decide_eq_true he,beq_iff_eq]; exact he.symm
           · rw [decide_eq_false he,beq_eq_false_iff_ne]; exact fun h=>he h.symm
         rw [hgo,hnw]
         by_cases he:W[i - 1].2.1+1=W[i].2.1
         · by_cases hr:R - 2 < c+1
           · rw [if_pos (.inr (.inl hr)),if_neg]
             rintro ⟨_,h2⟩
             simp only [if_true] at h2
             omega
           · rw [if_neg (by rintro (h1 | h1 | h1 | h1) <;> first | exact hi0 h1 | exact hr h1 | exact h1 he | exact h1 hS)]
             have hsn:S.toNat - 1=W[i - 1].2.2.1.length - 1:=by omega
             rw [hsn,ZZ h n (i - 1) _ (c+1) _ _ hi1 (by omega) (by omega) (by omega),e1,decide_eq_true he,decide_eq_true (show 0 < off W i+0 by omega)]
             simp only [Bool.true_and,if_true,Option.toList_some,List.map_append,List.map_cons,List.map_nil,List.append_assoc]
             have e3:c+1+(news (flat W) (off W (i - 1)+(W[i - 1].2.2.1.length - 1)) n:Int)=c+((1+news (flat W) (off W (i - 1)+(W[i - 1].2.2.1.length - 1)) n:Nat):Int):=by omega
             rw [e3]
         · rw [if_pos (.inr (.inr (.inl he))),if_neg]
           rintro ⟨h1,_⟩
           rw [decide_eq_false he] at h1
           simp at h1
       · rw [if_pos (.inr (.inr (.inr hS))),if_neg]
         rintro ⟨h1,_⟩
         rw [Bool.and_eq_true,Bool.and_eq_true] at h1
         obtain ⟨⟨h1,h2⟩,_⟩:=h1
         have h1:=of_decide_eq_true h1
         unfold Oh at h2
         rw [hp] at h2
         obtain ⟨i', k', hi', hk', hlt,ht⟩:=Sr W i (by omega) (off W i+0 - 1) (by omega)
         rw [ht,Di W hi' hk'] at h2
         simp only [] at h2
         have hasc2:=List.pairwise_iff_getElem.1 h.Yg i' i hi' hi hlt
         unfold lJ at h2
         rw [if_neg (by rw [QN (W:=W) (i:=i),QN (W:=W) (i:=i)]; omega)] at h2
         simp only [Dv,ep,Bool.and_eq_true,beq_iff_eq] at h2
         rcases Nat.lt_or_ge i' (i - 1) with h3 | h3
         · have:=List.pairwise_iff_getElem.1 h.Yg i' (i - 1) hi' hi1 h3
           omega
         · have e5:i' = i - 1:=by omega
           subst e5
           have:=h.len _ (List.getElem_mem hi1)
           omega
end Go.Proofs.YthoimblkpcikdaaGreatDoor.PGrp
namespace Go.Proofs.YthoimblkpcikdaaGreatDoor.PGrp2
open Go.RowKit Go.Proofs.YthoimblkpcikdaaGreatDoor.Mc Go.Proofs.YthoimblkpcikdaaGreatDoor.N Go.Proofs.YthoimblkpcikdaaGreatDoor.Plain Go.Proofs.YthoimblkpcikdaaGreatDoor.PWalk Go.Proofs.YthoimblkpcikdaaGreatDoor.PWalk2 Go.Proofs.YthoimblkpcikdaaGreatDoor.PRev Go.Proofs.YthoimblkpcikdaaGreatDoor.PPiece Go.Proofs.YthoimblkpcikdaaGreatDoor.PGrp
open Go.Proofs.YthoimblkpcikdaaGreatDoor.PJoin (Fr AL Gm Small CW fin Fz)
open Go.Proofs.YthoimblkpcikdaaGreatDoor.PureKeys (AU AK)
open Go.Proofs.YthoimblkpcikdaaGreatDoor.PCut (Ah Du)
set_option linter.unusedSimpArgs false
set_option linter.unusedVariables false
theorem dA (K:Nat) {p n r:Int} (hR:Ah p n r) {W:List Rg} (h:Xf r (n - 1) W) (y30:Int × Int × Int × Int × Int × Int) (N:Nat) (hN:y30.2.1=(N:Int)) (hN2:N < 4294967296):∀ (t:Nat) (i k j m:Nat) (c:Int) (fs:List Fr) (ss:List (Int × Int)) (K':Nat),off W i+k=t->∀ (hi:i < W.length),k < W[i].2.2.1.length->j+m=N->1<=c->c<=r - 2->fs.length+t<=1000->ss.length+t<=1000->t < K' ->
   AB (Gl K p n r W y30) K' ((i:Int),(k:Int),c,(j:Int),fs,ss)=some (match wb r (n - 1) W m i k c fs ss with | some ab=>.inr ab | none=>.inl ()):=by
 have hR':=hR
 unfold Ah at hR'
 intro t
 induction t using Nat.strongRecOn with
 | _ t ih =>
 intro i k j m c fs ss K' ht hi hk hj hc1 hc hfs hss hK'
 obtain ⟨K', rfl⟩:∃ q,K' = q+1:=⟨K' - 1,by omega⟩
 have hwi:W[i]? = some W[i]:=List.getElem?_eq_getElem hi
 have hfk:W[i].2.2.1[k]? = some W[i].2.2.1[k]:=List.getElem?_eq_getElem hk
 have hp:=Di W hi hk
 have ae:=h.wl
 have hkl:k < 10:=by have:=h.len _ (List.getElem_mem hi); have:=h.XL; omega
 have hone:∀ {α:Type} (a:α),[a].length=1:=fun _=>rfl
 have ek:(k:Int)+1=((k+1:Nat):Int):=by omega
 cases m with
 | zero =>
   obtain rfl:j=N:=by omega
   rw [AK (r:=.inr (fs ++ [ET (Dv W[i] k W[i].2.2.1[k])],ss ++ [MF (Dv W[i] k W[i].2.2.1[k])]))]
   · unfold wb
     rw [hp]
   · unfold Gl
     simp only [Bz,hwi,hfk,Option.bind_some,hone]
     rw [Ak (by omega),Ak (by omega),hN,Aq (x:=(j:Int)) (by omega) (by omega),beq_self_eq_true,cond_true,Aq (by omega) (by omega),ek]
     rfl
 | succ m =>
   have hne:((j:Int) == IntKind.wrap .i64 y30.2.1)=false:=by rw [hN,Aq (by omega) (by omega),beq_eq_false_iff_ne]; omega
   by_cases hk0:0 < k
   · rw [AU (b:=(((i:Nat):Int),((k - 1:Nat):Int),c,((j+1:Nat):Int),fs ++ [ET (Dv W[i] k W[i].2.2.1[k])],ss ++ [MF (Dv W[i] k W[i].2.2.1[k])]))]
     · rw [ih (t - 1) (by omega) i (k - 1) (j+1) m c _ _ K' (by omega) hi (by omega) (by omega) hc1 hc (by rw [List.length_append,hone]; omega) (by rw [List.length_append,hone]; omega) (by omega)]
       conv=>rhs; unfold wb
       rw [hp]
       simp only []
       rw [if_pos hk0]
     · unfold Gl
       simp only [Bz,hwi,hfk,Option.bind_some,hone]
       rw [Ak (by omega),Ak (by omega),hne,cond_false,AE (by omega),Aq (x:=(k:Int) - 1) (by omega) (by omega),Aq (x:=(k:Int)+1) (by omega) (by omega),ek,show (k:Int) - 1=((k - 1:Nat):Int) by omega,Option.bind_some]
       simp only [BM]
       rw [Aq (by omega) (by omega)]
       rfl
   · obtain rfl:k=0:=by omega
     have hst:∀ b:Bool,(cond ((i:Int) == 0) (some true) (cond (decide ((IntKind.wrap .i64 (r - 2)) < (IntKind.wrap .i64 (c+1)))) (some true) ((ix W (IntKind.wrap .i64 ((i:Int) - 1))).bind fun a148=>(ix W (i:Int)).bind fun a149=>cond ((IntKind.wrap .u32 (a148.2.1+1)) != a149.2.1) (some true) ((ix W (IntKind.wrap .i64 ((i:Int) - 1))).bind fun a150=>(ng K p n r).bind fun y151=>some ((a150.2.2.1.length:Int) != y151)))):Option Bool)=some b ->
         Gl K p n r W y30 ((i:Int),((0:Nat):Int),c,(j:Int),fs,ss)=cond b (some (.inr (.inl ()))) ((ix W (IntKind.wrap .i64 ((i:Int) - 1))).bind fun a153=>cond (decide ((IntKind.wrap .i64 ((a153.2.2.1.length:Int) - 1)) < 0)) (some (.inr (.inl ()))) (some (.inl ((IntKind.wrap .i64 ((i:Int) - 1)),(IntKind.wrap .i64 ((a153.2.2.1.length:Int) - 1)),(IntKind.wrap .i64 (c+1)),((j+1:Nat):Int),(fs ++ [ET (Dv W[i] 0 W[i].2.2.1[0])]),(ss ++ [MF (Dv W[i] 0 W[i].2.2.1[0])]))))):=by
       intro b hb
       unfold Gl
       simp only [hb]
       simp only [Bz,hwi,hfk,Option.bind_some,hone]
       rw [Ak (by omega),Ak (by omega),hne,cond_false,AF (by omega),Aq (x:=((0:Nat):Int)+1) (by omega) (by omega),ek]
       cases b with
       | true=>rfl
       | false =>
         simp only [cond_false]
         cases hq:ix W (IntKind.wrap .i64 ((i:Int) - 1)) with
         | none=>rfl
         | some a =>
           simp only [Option.bind_some]
           by_cases hd:IntKind.wrap .i64 ((a.2.2.1.length:Int) - 1) < 0
           · rw [AE hd,AE hd]; rfl
           · rw [AF hd,AF hd,Option.bind_some]
             simp only [BM]
             rw [Aq (x:=(j:Int)+1) (by omega) (by omega)]
             rfl
     have hwb:wb r (n - 1) W (m+1) i 0 c fs ss=if i=0\/r - 2 < c+1\/¬ (((W[i - 1]?).map fun f:Rg=>f.2.1+1)=(W[i]?).map fun f:Rg=>f.2.1)\/¬ (((W[i - 1]?).map fun f:Rg=>(f.2.2.1.length:Int))=some (n - 1)) then none else wb r (n - 1) W m (i - 1) ((n - 1).toNat - 1) (c+1) (fs ++ [ET (Dv W[i] 0 W[i].2.2.1[0])]) (ss ++ [MF (Dv W[i] 0 W[i].2.2.1[0])]):=by
       conv=>lhs; unfold wb
       rw [hp]
       simp only []
       rw [if_neg (by omega)]
     have out:∀ hb:(i=0\/r - 2 < c+1\/¬ (((W[i - 1]?).map fun f:Rg=>f.2.1+1)=(W[i]?).map fun f:Rg=>f.2.1)\/¬ (((W[i - 1]?).map fun f:Rg=>(f.2.2.1.length:Int))=some (n - 1))),Gl K p n r W y30 ((i:Int),((0:Nat):Int),c,(j:Int),fs,ss)=some (.inr (.inl ()))->AB (Gl K p n r W y30) (K' + 1) ((i:Int),((0:Nat):Int),c,(j:Int),fs,ss)=some (match wb r (n - 1) W (m+1) i 0 c fs ss with | some ab=>.inr ab | none=>.inl ()):=by
       intro hb hs
       rw [AK hs,hwb,if_pos hb]
     by_cases hi0:i=0
     · exact out (.inl hi0) (by rw [hst true (by rw [beq_iff_eq.2 (by omega),cond_true])]; rfl)
     · have e0 : ((i:Int) == 0)=false:=by rw [beq_eq_false_iff_ne]; omega
       have ei:(i:Int) - 1=((i - 1:Nat):Int):=by omega
       have hi1:i - 1 < W.length:=by omega
       have hwj:W[i - 1]? = some W[i - 1]:=List.getElem?_eq_getElem hi1
       have hej:=h.ep _ (List.getElem_mem hi1)
       have hlj:=h.len _ (List.getElem_mem hi1)
       have hss:=h.XL
       have wi:IntKind.wrap .i64 ((i:Int) - 1)=((i - 1:Nat):Int):=by rw [Aq (by omega) (by omega),ei]
       by_cases hr:r - 2 < c+1
       · exact out (.inr (.inl hr)) (by rw [hst true (by rw [e0,cond_false,Aq (by omega) (by omega),Aq (by omega) (by omega),AE hr])]; rfl)
       · by_cases he:W[i - 1].2.1+1=W[i].2.1
         · by_cases hS:(W[i - 1].2.2.1.length:Int)=n - 1
           · have hl0:W[i - 1].2.2.1.length - 1=(n - 1).toNat - 1:=by omega
             have hoff:off W i=off W (i - 1)+W[i - 1].2.2.1.length:=by
               have:=Je W hi1
               rwa [show i - 1+1=i by omega] at this
             have tst:=hst false (by
               rw [e0,cond_false,Aq (by omega) (by omega),Aq (by omega) (by omega),AF hr]
               simp only [wi,Bz,hwj,hwi,Option.bind_some]
               rw [Iz (by omega) (by omega),he,bne_self_eq_false,cond_false,Du K hR,Option.bind_some,hS,bne_self_eq_false])
             rw [AU (b:=(((i - 1:Nat):Int),(((n - 1).toNat - 1:Nat):Int),c+1,((j+1:Nat):Int),fs ++ [ET (Dv W[i] 0 W[i].2.2.1[0])],ss ++ [MF (Dv W[i] 0 W[i].2.2.1[0])]))]
             · rw [ih (t - 1) (by omega) (i - 1) ((n - 1).toNat - 1) (j+1) m (c+1) _ _ K' (by omega) hi1 (by omega) (by omega) (by omega) (by omega) (by rw [List.length_append,hone]; omega) (by rw [List.length_append,hone]; omega) (by omega)]
               rw [hwb,if_neg]
               rw [hwj,hwi]
               simp only [Option.map_some,Option.some.injEq]
               rintro (h1 | h1 | h1 | h1)
               · exact hi0 h1
               · exact hr h1
               · exact h1 he
               · exact h1 hS
             · rw [tst,cond_false]
               simp only [wi,Bz,hwj,Option.bind_some]
               rw [Aq (x:=(W[i - 1].2.2.1.length:Int) - 1) (by omega) (by omega),AF (by omega),Aq (by omega) (by omega),show (W[i - 1].2.2.1.length:Int) - 1=(((n - 1).toNat - 1:Nat):Int) by omega]
           · refine out (.inr (.inr (.inr ?_))) ?_
             · rw [hwj,Option.map_some,Option.some.injEq]; exact hS
             · rw [hst true ?_]
               · rfl
               · rw [e0,cond_false,Aq (by omega) (by omega),Aq (by omega) (by omega),AF hr]
                 simp only [wi,Bz,hwj,hwi,Option.bind_some]
                 rw [Iz (by omega) (by omega),he,bne_self_eq_false,cond_false,Du K hR,Option.bind_some,bne_iff_ne.2 hS]
         · refine out (.inr (.inr (.inl ?_))) ?_
           · rw [hwj,hwi,Option.map_some,Option.map_some,Option.some.injEq]; exact he
           · rw [hst true ?_]
             · rfl
             · rw [e0,cond_false,Aq (by omega) (by omega),Aq (by omega) (by omega),AF hr]
               simp only [wi,Bz,hwj,hwi,Option.bind_some]
               rw [Iz (by omega) (by omega),bne_iff_ne.2 he,cond_true]
end Go.Proofs.YthoimblkpcikdaaGreatDoor.PGrp2
namespace Go.Proofs.YthoimblkpcikdaaGreatDoor.PGrp3
open Go.RowKit Go.Proofs.YthoimblkpcikdaaGreatDoor.Mc Go.Proofs.YthoimblkpcikdaaGreatDoor.N Go.Proofs.YthoimblkpcikdaaGreatDoor.Plain Go.Proofs.YthoimblkpcikdaaGreatDoor.PWalk Go.Proofs.YthoimblkpcikdaaGreatDoor.PWalk2 Go.Proofs.YthoimblkpcikdaaGreatDoor.PRev Go.Proofs.YthoimblkpcikdaaGreatDoor.PPiece Go.Proofs.YthoimblkpcikdaaGreatDoor.PGrp Go.Proofs.YthoimblkpcikdaaGreatDoor.PGrp2
open Go.Proofs.YthoimblkpcikdaaGreatDoor.PJoin (Fr AL Gm Small CW fin Fz)
open Go.Proofs.YthoimblkpcikdaaGreatDoor.PureKeys (AU AK)
open Go.Proofs.YthoimblkpcikdaaGreatDoor.PCut (Ah Du)
set_option linter.unusedSimpArgs false
set_option linter.unusedVariables false
noncomputable def jn (l:List Fr):PJoin.Out:=match l[l.length - 1]? with
 | none=>(0,0,0,[],2)
 | some z=>if (∀ j,j < l.length->((l[j]?.map Gm).getD false)=true)/\z.1=3/\z.2.2.1=((l.length - 1:Nat):Int)/\∀ j,j < l.length - 1->((l[j]?.map (Fz z.2.1 j)).getD false)=true then fin (CW l (l.length - 1)) z else (0,0,0,[],2)
def lA (l:List Fr):Prop:=2<=l.length/\l.length<=1000/\∀ f ∈ l,f.2.2.2.size<=1000
theorem lA.small {l:List Fr}(h:lA l):Small l:=⟨h.2.1,fun f hf=>by have:=h.2.2 f hf; omega⟩
theorem lA.vh {l:List Fr}(h:lA l)(i:Nat):(CW l i).size<=1500000:=by
 have h1:=PFlat.dK l i
 have h2:=PFlat.eo h.2.2
 have h3:=h.2.1
 omega
theorem eU (K:Nat)(hK:2000000<=K){l:List Fr}(h:lA l):oM K l=some (jn l):=by
 have h1:l.length - 1 < l.length:=by have:=h.1; omega
 rw [PJoin2.aO K hK l h.small (fun i _=>h.vh i) h.1 _ (List.getElem?_eq_getElem h1)]
 unfold jn
 rw [List.getElem?_eq_getElem h1]
theorem br (K:Nat)(hK:2000000<=K){l:List Fr}(h:lA l):jM K l=some (jn l):=by
 have h1:l.length - 1 < l.length:=by have:=h.1; omega
 rw [PJoin.De K hK l h.small (h.vh _) h.1 _ (List.getElem?_eq_getElem h1)]
 unfold jn
 rw [List.getElem?_eq_getElem h1]
def ES (L:List Pl)(t n:Nat):List Pl:=(L.take (t+1)).drop (t - n)
theorem Ej {L:List Pl}{t n:Nat}(ht:t < L.length)(hn:n<=t):(ES L t n).length=n+1:=by
 unfold ES
 rw [List.length_drop,List.length_take]; omega
theorem Un {L:List Pl}{t n j:Nat}(ht:t < L.length)(hn:n<=t)(hj:j<=n):(ES L t n)[j]? = L[t - n+j]? := by
 unfold ES
 rw [List.getElem?_drop,List.getElem?_take,if_pos (by omega)]
theorem TR {L:List Pl}{t n:Nat}(ht:t+1 < L.length)(hn:n<=t):ES L (t+1) (n+1)=ES L t n ++ [L[t+1]]:=by
 unfold ES
 rw [AL ht,List.drop_append_of_le_length (by rw [List.length_take]; omega),show t+1 - (n+1)=t - n by omega]
theorem Gs {S:Int}{L:List Pl}:∀ {n t:Nat},whole S L t n=true->n<=t
 | 0,t,_=>Nat.zero_le _
 | n+1,t,h=>by
   unfold whole at h
   rw [Bool.and_eq_true,Bool.and_eq_true] at h
   have h0:=of_decide_eq_true h.1.1
   have:=Gs h.2
   omega
theorem NU {L:List Pl}:∀ {n t:Nat},t < L.length->n<=t->(back L t n).reverse=ES L t n
 | 0,t,ht,_=>by
   unfold back ES
   rw [List.getElem?_eq_getElem ht,Option.toList_some,List.reverse_singleton,AL ht,List.drop_append,List.drop_eq_nil_of_le (by rw [List.length_take]; omega),List.length_take]
   rw [show t - 0 - min t L.length=0 by omega]; rfl
 | n+1,t,ht,hn=>by
   obtain ⟨t,rfl⟩:∃ q,t=q+1:=⟨t - 1,by omega⟩
   unfold back
   rw [List.reverse_append,Nat.add_sub_cancel,NU (by omega) (by omega),List.getElem?_eq_getElem ht,Option.toList_some,List.reverse_singleton,TR ht (by omega)]
theorem MC {L:List Pl}{t n:Nat}{p:Pl}(h:p ∈ ES L t n):p ∈ L:=List.mem_of_mem_take (List.mem_of_mem_drop h)
structure Vd (L:List Pl):Prop where
 ok:∀ p ∈ L,Gm (ET p)=true
 b:∀ p ∈ L,0<=p.2.2.1/\p.2.2.1 < 4294967296
 sz:∀ p ∈ L,p.2.2.2.1.size<=100
 len:L.length<=200
theorem Rk {L:List Pl}(h:Vd L){t n:Nat}(ht:t < L.length)(hn:n<=t)(h1:1<=n):lA ((ES L t n).map ET):=by
 have hl:=h.len
 refine ⟨by rw [List.length_map,Ej ht hn]; omega,by rw [List.length_map,Ej ht hn]; omega,fun f hf=>?_⟩
 obtain ⟨p,hp,rfl⟩:=List.mem_map.1 hf
 have:=h.sz p (MC hp)
 show p.2.2.2.1.size<=1000
 omega
noncomputable def Pm (R S:Int)(L:List Pl)(t:Nat):Option Hd:=match L[t]? with
 | none=>none
 | some p=>if p.1=3/\whole S L t p.2.2.1.toNat=true/\1+(news L t p.2.2.1.toNat:Int)<=R - 2/\(jn ((ES L t p.2.2.1.toNat).map ET)).2.2.2.2=0 then some ((jn ((ES L t p.2.2.1.toNat).map ET)).1,(jn ((ES L t p.2.2.1.toNat).map ET)).2.1,(jn ((ES L t p.2.2.1.toNat).map ET)).2.2.1,(jn ((ES L t p.2.2.1.toNat).map ET)).2.2.2.1,(ES L t p.2.2.1.toNat).map MF) else none
noncomputable def DI (R S:Int)(L:List Pl)(t:Nat):List Hd:=(List.range t).filterMap (Pm R S L)
theorem Si (R S:Int)(L:List Pl)(t:Nat):DI R S L (t+1)=DI R S L t ++ (Pm R S L t).toList:=by
 unfold DI
 rw [List.range_succ,List.filterMap_append]
 congr 1
theorem RF (R S:Int)(L:List Pl)(t:Nat):(DI R S L t).length<=t:=by
 unfold DI
 exact Nat.le_trans (List.length_filterMap_le _ _) (by simp)
theorem VB {p:Pl}(h:Gm (ET p)=true)(h3:p.1=3):p.2.2.1 ≠ 0:=by
 intro h0
 have e:ET p=(3,p.2.1,0,p.2.2.2.1):=by unfold ET; rw [h3,h0]
 rw [e] at h
 unfold Gm pr at h
 simp only [] at h
 cases hc:(decide (p.2.1 < 1) || decide (2147483647 < p.2.1)) with
 | true=>rw [hc] at h; exact Bool.false_ne_true h
 | false=>rw [hc] at h; exact Bool.false_ne_true h
theorem eK {p:Pl}(h:Gm (ET p)=true)(h3:p.1=3):LL p.1 p.2.1 p.2.2.1 p.2.2.2.1=.inr (.inr (.inr (.inl (p.2.1,p.2.2.1,g4 p.2.2.2.1 0,g4 p.2.2.2.1 4,g4 p.2.2.2.1 8,g4 p.2.2.2.1 12,0)))):=by
 unfold LL
 rw [show pr p.1 p.2.1 p.2.2.1 p.2.2.2.1=true from h,h3]; rfl
theorem dt {k a b:Int} {t:ByteArray} (h:k ≠ 3):(∃ e,LL k a b t=.inl e)\/(∃ e,LL k a b t=.inr (.inl e))\/(∃ e,LL k a b t=.inr (.inr (.inl e)))\/∃ e,LL k a b t=.inr (.inr (.inr (.inr e))):=by
 unfold LL
 cases pr k a b t with
 | false=>exact .inl ⟨_,rfl⟩
 | true =>
   rw [cond_true]
   cases k == 1 with
   | true=>exact .inr (.inl ⟨_,rfl⟩)
   | false =>
     rw [cond_false]
     cases k == 2 with
     | true=>exact .inr (.inr (.inl ⟨_,rfl⟩))
     | false =>
       rw [cond_false,beq_eq_false_iff_ne.2 h,cond_false]
       exact .inr (.inr (.inr ⟨_,rfl⟩))
theorem YM (K:Nat) (hK:2000000<=K) {p n r:Int} (hR:Ah p n r) {W:List Rg} (h:Xf r (n - 1) W) (hv:Vd (flat W)) {i k:Nat} (hi:i < W.length) (hk:k < W[i].2.2.1.length) :
   ∃ y,pM K p n r W (i:Int) (k:Int)=some y/\y.2.2.2.2.2=(Pm r (n - 1) (flat W) (off W i+k)).isSome/\∀ q,Pm r (n - 1) (flat W) (off W i+k)=some q->(y.1,y.2.1,y.2.2.1,y.2.2.2.1,y.2.2.2.2.1)=q:=by
 have hR':=hR
 unfold Ah at hR'
 have hwi:W[i]? = some W[i]:=List.getElem?_eq_getElem hi
 have hfk:W[i].2.2.1[k]? = some W[i].2.2.1[k]:=List.getElem?_eq_getElem hk
 have hp:=Di W hi hk
 have hm:Dv W[i] k W[i].2.2.1[k] ∈ flat W:=List.mem_of_getElem? hp
 have hsz:=hv.sz _ hm
 have hb:=hv.b _ hm
 have Cc:=hv.ok _ hm
 have htl:off W i+k < (flat W).length:=(List.getElem?_eq_some_iff.1 hp).1
 have hl:=hv.len
 unfold pM Pm
 simp only [Bz,hwi,hfk,Option.bind_some]
 rw [OO K _ _ _ _ (by simp only [Dv] at hsz; omega),hp]
 simp only [Option.bind_some]
 by_cases h3:(Dv W[i] k W[i].2.2.1[k]).1=3
 · have ho:=eK Cc h3
   simp only [Dv] at ho
   rw [ho]
   simp only [BM,Option.bind_some]
   have hb1:(Dv W[i] k W[i].2.2.1[k]).2.2.1 ≠ 0:=VB Cc h3
   have hN:(W[i].2.2.1[k]).2.2.1=(((Dv W[i] k W[i].2.2.1[k]).2.2.1.toNat:Nat):Int):=by simp only [Dv] at hb ⊢; omega
   have hw:=dA K hR h ((W[i].2.2.1[k]).2.1,(W[i].2.2.1[k]).2.2.1,g4 (W[i].2.2.1[k]).2.2.2 0,g4 (W[i].2.2.1[k]).2.2.2 4,g4 (W[i].2.2.1[k]).2.2.2 8,g4 (W[i].2.2.1[k]).2.2.2 12) (Dv W[i] k W[i].2.2.1[k]).2.2.1.toNat hN (by omega) (off W i+k) i k 0 (Dv W[i] k W[i].2.2.1[k]).2.2.1.toNat 1 [] [] K rfl hi hk (by omega) (by omega) (by omega) (by simp only [List.length_nil]; omega) (by simp only [List.length_nil]; omega) (by omega)
   simp only [Int.natCast_zero] at hw
   rw [hw]
   rw [ZZ h _ i k 1 [] [] hi hk (by omega) (by omega)]
   by_cases hc:whole (n - 1) (flat W) (off W i+k) (Dv W[i] k W[i].2.2.1[k]).2.2.1.toNat=true/\(1:Int)+(news (flat W) (off W i+k) (Dv W[i] k W[i].2.2.1[k]).2.2.1.toNat:Int)<=r - 2
   · rw [if_pos hc]
     have hn:=Gs hc.1
     have hbs:=NU htl hn
     have hfew:=Rk hv htl hn (by omega)
     have hsl:=Ej htl hn
     simp only [Option.bind_some,BM,List.nil_append]
     rw [bh K hK _ (by rw [List.length_map,<- List.length_reverse,hbs,hsl]; omega),Option.bind_some,bk K hK _ (by rw [List.length_map,<- List.length_reverse,hbs,hsl]; omega),Option.bind_some,<- List.map_reverse,<- List.map_reverse,hbs,eU K hK hfew]
     refine ⟨_,rfl,?_,?_⟩
     · by_cases hj:(jn ((ES (flat W) (off W i+k) (Dv W[i] k W[i].2.2.1[k]).2.2.1.toNat).map ET)).2.2.2.2=0
       · rw [if_pos ⟨h3,hc.1,hc.2,hj⟩]
         simp only [hj]; rfl
       · rw [if_neg (fun q=>hj q.2.2.2)]
         simp only [Option.isSome_none,beq_eq_false_iff_ne]
         exact hj
     · intro q hq
       by_cases hj:(jn ((ES (flat W) (off W i+k) (Dv W[i] k W[i].2.2.1[k]).2.2.1.toNat).map ET)).2.2.2.2=0
       · rw [if_pos ⟨h3,hc.1,hc.2,hj⟩] at hq
         exact Option.some.inj hq
       · rw [if_neg (fun q=>hj q.2.2.2)] at hq
         cases hq
   · rw [if_neg hc,if_neg (fun q=>hc ⟨q.2.1,q.2.2.1⟩)]
     exact ⟨_,rfl,rfl,fun q hq=>by cases hq⟩
 · rw [if_neg (fun q=>h3 q.1)]
   have h3':(W[i].2.2.1[k]).1 ≠ 3:=h3
   rcases dt (a:=(W[i].2.2.1[k]).2.1) (b:=(W[i].2.2.1[k]).2.2.1) (t:=(W[i].2.2.1[k]).2.2.2) h3' with ⟨e,he⟩ | ⟨e,he⟩ | ⟨e,he⟩ | ⟨e,he⟩ <;> rw [he] <;> exact ⟨_,rfl,rfl,fun q hq=>by cases hq⟩
end Go.Proofs.YthoimblkpcikdaaGreatDoor.PGrp3
namespace Go.Proofs.YthoimblkpcikdaaGreatDoor.PGrp4
open Go.RowKit Go.Proofs.YthoimblkpcikdaaGreatDoor.Mc Go.Proofs.YthoimblkpcikdaaGreatDoor.N Go.Proofs.YthoimblkpcikdaaGreatDoor.Plain Go.Proofs.YthoimblkpcikdaaGreatDoor.PWalk Go.Proofs.YthoimblkpcikdaaGreatDoor.PWalk2 Go.Proofs.YthoimblkpcikdaaGreatDoor.PRev Go.Proofs.YthoimblkpcikdaaGreatDoor.PPiece Go.Proofs.YthoimblkpcikdaaGreatDoor.PGrp Go.Proofs.YthoimblkpcikdaaGreatDoor.PGrp2 Go.Proofs.YthoimblkpcikdaaGreatDoor.PGrp3
open Go.Proofs.YthoimblkpcikdaaGreatDoor.PJoin (Fr AL Gm Small CW fin Fz)
open Go.Proofs.YthoimblkpcikdaaGreatDoor.PureKeys (AU AK)
open Go.Proofs.YthoimblkpcikdaaGreatDoor.PCut (Ah Du CB)
set_option linter.unusedSimpArgs false
set_option linter.unusedVariables false
theorem BB {α:Type}(a:α):[a].length=1:=rfl
theorem dE (W:List Rg){i:Nat}(h:i < W.length):off W i+W[i].2.2.1.length<=(flat W).length:=by
 rw [Nt W h]
 unfold off
 rw [List.length_append,List.length_append,Cv]; omega
theorem Jy (K:Nat) (hK:2000000<=K) {p n r:Int} (hR:Ah p n r) {W:List Rg} (h:Xf r (n - 1) W) (hv:Vd (flat W)) {i:Nat} (hi:i < W.length) :
   AB (Qg K W[i] p n r W ((i:Int),DI r (n - 1) (flat W) (off W i))) K (0,DI r (n - 1) (flat W) (off W i))=some (DI r (n - 1) (flat W) (off W i+W[i].2.2.1.length)):=by
 have hl:=hv.len
 have ho:=dE W hi
 refine Ag (fun k=>((k:Int),DI r (n - 1) (flat W) (off W i+k))) W[i].2.2.1.length rfl (by omega) (fun k hk=>?_) ?_
 · obtain ⟨y,hy,hs,hq⟩:=YM K hK hR h hv hi hk
   have hlen:=RF r (n - 1) (flat W) (off W i+k)
   unfold Qg
   simp only []
   rw [AE (by omega),hy]
   simp only [Option.bind_some]
   rw [hs,<- Nat.add_assoc,Si,Aq (by omega) (by omega)]
   cases hd:Pm r (n - 1) (flat W) (off W i+k) with
   | none =>
     simp only [Option.isSome_none,cond_false,Option.bind_some,Option.toList_none,List.append_nil]
     rfl
   | some q =>
     rw [Option.isSome_some,cond_true,BB,Ak (by omega),Option.bind_some,hq q hd]
     rfl
 · unfold Qg
   simp only []
   rw [AF (by omega)]
theorem Uj (K:Nat)(hK:2000000<=K){p n r:Int}(hR:Ah p n r){W:List Rg}(h:Xf r (n - 1) W)(hv:Vd (flat W)):lT K p n r W=some (DI r (n - 1) (flat W) (flat W).length):=by
 have ae:=h.wl
 unfold lT
 suffices hL:AB (XV K p n r W) K (0,[])=some (DI r (n - 1) (flat W) (flat W).length) from by rw [hL]; rfl
 refine Ag (fun i=>((i:Int),DI r (n - 1) (flat W) (off W i))) W.length rfl (by omega) (fun i hi=>?_) ?_
 · unfold XV
   simp only []
   rw [AE (by omega),Bz,List.getElem?_eq_getElem hi,Option.bind_some,Jy K hK hR h hv hi,Option.bind_some,Aq (by omega) (by omega),Je W hi]
   rfl
 · unfold XV
   simp only []
   rw [AF (by omega),eB]
abbrev ZO (p:Pl):Int:=p.2.2.2.2.2.1
abbrev mR (p:Pl):Int:=p.2.2.2.2.2.2
theorem GX {W:List Rg}{p:Pl}(h:p ∈ flat W):∃ f ∈ W,∃ k,∃ hk:k < f.2.2.1.length,p=Dv f k f.2.2.1[k]:=by
 obtain ⟨f,hf,hp⟩:=List.mem_flatMap.1 h
 obtain ⟨k,hk⟩:=List.getElem?_of_mem hp
 have hk1:k < f.2.2.1.length:=by have:=(List.getElem?_eq_some_iff.1 hk).1; rwa [Cv] at this
 rw [Mr f hk1] at hk
 exact ⟨f,hf,k,hk1,(Option.some.inj hk).symm⟩
theorem eY {R S:Int}{W:List Rg}(h:Xf R S W){p:Pl}(hp:p ∈ flat W):0<=ep p/\ep p < 4294967295/\1<=mR p/\mR p<=10:=by
 obtain ⟨f,hf,k,hk,rfl⟩:=GX hp
 have h1:=h.ep f hf
 have h2:=h.len f hf
 have h3:=h.XL
 refine ⟨h1.1,h1.2,?_,?_⟩
 · show (1:Int)<=((k+1:Nat):Int); omega
 · show ((k+1:Nat):Int)<=10; omega
theorem Yu {R S:Int}{W:List Rg}(h:Xf R S W):(flat W).Pairwise fun a b=>ep a<=ep b:=by
 unfold flat
 rw [List.pairwise_flatMap]
 have e:∀ {f:Rg} {x:Pl},x ∈ MA f->ep x=f.2.1:=by
   intro f x hx
   obtain ⟨k,hk⟩:=List.getElem?_of_mem hx
   have hk1:k < f.2.2.1.length:=by have:=(List.getElem?_eq_some_iff.1 hk).1; rwa [Cv] at this
   rw [Mr f hk1] at hk
   rw [<- Option.some.inj hk]; rfl
 refine ⟨fun f _=>?_,h.Yg.imp fun {a b} hab x hx y hy=>by rw [e hx,e hy]; omega⟩
 refine List.pairwise_iff_getElem.2 fun i j hi hj _=>?_
 rw [e (List.getElem_mem hi),e (List.getElem_mem hj)]
 exact Int.le_refl _
theorem Sq {W:List Rg}{g:Rg->Int}(h:W.Pairwise fun a b=>g a ≠ g b){f f':Rg}(hf:f ∈ W)(hf':f' ∈ W)(e:g f=g f'):f=f':=by
 obtain ⟨i,hi,rfl⟩:=List.getElem_of_mem hf
 obtain ⟨j,hj,rfl⟩:=List.getElem_of_mem hf'
 have:=List.pairwise_iff_getElem.1 h
 rcases Nat.lt_trichotomy i j with h1 | h1 | h1
 · exact absurd e (this i j hi hj h1)
 · subst h1; rfl
 · exact absurd e.symm (this j i hj hi h1)
theorem PS {R S:Int}{W:List Rg}(h:Xf R S W){p q:Pl}(hp:p ∈ flat W)(hq:q ∈ flat W):ep p=ep q ↔ ZO p=ZO q:=by
 obtain ⟨f,hf,k,hk,rfl⟩:=GX hp
 obtain ⟨f', hf', k', hk', rfl⟩:=GX hq
 constructor
 · intro e
   have:f=f':=Sq (g:=fun f=>f.2.1) (h.Yg.imp fun {a b} hab=>by show a.2.1 ≠ b.2.1; omega) hf hf' e
   show f.1=f'.1
   rw [this]
 · intro e
   have:f=f':=Sq (g:=fun f=>f.1) h.sM hf hf' e
   show f.2.1=f'.2.1
   rw [this]
theorem dD (K:Nat){p n r:Int}(hR:Ah p n r){a b:Pl}(ha:0<=ep a/\ep a < 4294967295/\1<=mR a/\mR a<=10):nM K p n r a.1 a.2.1 a.2.2.1 a.2.2.2.1 a.2.2.2.2.1 a.2.2.2.2.2.1 a.2.2.2.2.2.2 b.1 b.2.1 b.2.2.1 b.2.2.2.1 b.2.2.2.2.1 b.2.2.2.2.2.1 b.2.2.2.2.2.2=some (lJ (n - 1) a b):=by
 obtain ⟨h1,h2,h3,h4⟩:=ha
 simp only [ep,ZO,mR] at h1 h2 h3 h4
 unfold nM lJ
 by_cases e:ep a=ep b
 · rw [if_pos e,beq_iff_eq.2 (show a.2.2.2.2.1=b.2.2.2.2.1 from e),cond_true,Aq (by omega) (by omega)]
 · rw [if_neg e,beq_eq_false_iff_ne.2 (show a.2.2.2.2.1 ≠ b.2.2.2.2.1 from e),cond_false,CB K hR,Option.bind_some,Iz (by omega) (by omega)]
   cases a.2.2.2.2.2.2 == n - 1 <;> cases b.2.2.2.2.2.2 == 1 <;> rfl
def Cp (acc:List Int)(l:List (Int × Int)):List Int:=l.foldl (fun a s=>if s.1 ∈ a then a else a ++ [s.1]) acc
theorem SX (acc:List Int)(l:List (Int × Int))(s:Int × Int):Cp acc (l ++ [s])=if s.1 ∈ Cp acc l then Cp acc l else Cp acc l ++ [s.1]:=by unfold Cp; rw [List.foldl_append]; rfl
theorem Qv (x:Int):∀ (l:List (Int × Int)) (acc:List Int),x ∈ Cp acc l ↔ x ∈ acc\/∃ s ∈ l,s.1=x
 | [],acc=>by simp [Cp]
 | s :: l,acc=>by
   have e:Cp acc (s :: l)=Cp (if s.1 ∈ acc then acc else acc ++ [s.1]) l:=rfl
   rw [e,Qv x l]
   by_cases h:s.1 ∈ acc
   · rw [if_pos h]
     constructor
     · rintro (h1 | ⟨q,hq,h1⟩)
       · exact .inl h1
       · exact .inr ⟨q,.tail _ hq,h1⟩
     · rintro (h1 | ⟨q,hq,h1⟩)
       · exact .inl h1
       · rcases List.mem_cons.1 hq with rfl | hq
         · exact .inl (h1 ▸ h)
         · exact .inr ⟨q,hq,h1⟩
   · rw [if_neg h]
     constructor
     · rintro (h1 | ⟨q,hq,h1⟩)
       · rcases List.mem_append.1 h1 with h1 | h1
         · exact .inl h1
         · exact .inr ⟨s,.head _,(List.mem_singleton.1 h1).symm⟩
       · exact .inr ⟨q,.tail _ hq,h1⟩
     · rintro (h1 | ⟨q,hq,h1⟩)
       · exact .inl (List.mem_append.2 (.inl h1))
       · rcases List.mem_cons.1 hq with rfl | hq
         · exact .inl (List.mem_append.2 (.inr (List.mem_singleton.2 h1.symm)))
         · exact .inr ⟨q,hq,h1⟩
theorem Xe (l:List (Int × Int)):∀ acc,(Cp acc l).length<=acc.length+l.length:=by
 induction l with
 | nil=>intro acc; exact Nat.le_refl _
 | cons s l ih =>
   intro acc
   have e:Cp acc (s :: l)=Cp (if s.1 ∈ acc then acc else acc ++ [s.1]) l:=rfl
   rw [e]
   have:=ih (if s.1 ∈ acc then acc else acc ++ [s.1])
   split at this
   · rw [if_pos (by assumption)]; rw [List.length_cons]; omega
   · rw [if_neg (by assumption)]; rw [List.length_append,BB] at this; rw [List.length_cons]; omega
theorem Xk {f:Int->Option (Int ⊕ (Unit ⊕ Unit))} (x2:Int) (l:List Int) (hf:∀ i:Nat,i<=l.length->f (i:Int)=match l[i]? with | some a=>cond (a == x2) (some (.inr (.inl ()))) (some (.inl ((i+1:Nat):Int))) | none=>some (.inr (.inr ()))) (K:Nat) (hK:l.length < K) :
   AB f K 0=some (if x2 ∈ l then .inl () else .inr ()):=by
 have go : ∀ (m i K':Nat),m+i=l.length->m < K' -> (∀ j,j < i->l[j]? ≠ some x2)->AB f K' (i:Int)=some (if x2 ∈ l then .inl () else .inr ()):=by
   intro m
   induction m with
   | zero =>
     intro i K' hi hK' hj
     obtain ⟨K', rfl⟩:∃ q,K' = q+1:=⟨K' - 1,by omega⟩
     rw [AK (r:=.inr ()) (by rw [hf i (by omega),List.getElem?_eq_none (by omega)]),if_neg]
     intro hx
     obtain ⟨j,h⟩:=List.getElem?_of_mem hx
     exact hj j (by have:=(List.getElem?_eq_some_iff.1 h).1; omega) h
   | succ m ih =>
     intro i K' hi hK' hj
     obtain ⟨K', rfl⟩:∃ q,K' = q+1:=⟨K' - 1,by omega⟩
     have hl:i < l.length:=by omega
     by_cases he:l[i]=x2
     · rw [AK (r:=.inl ()) (by rw [hf i (by omega),List.getElem?_eq_getElem hl]; simp only []; rw [beq_iff_eq.2 he,cond_true]),if_pos (he ▸ List.getElem_mem hl)]
     · rw [AU (b:=((i+1:Nat):Int)) (by rw [hf i (by omega),List.getElem?_eq_getElem hl]; simp only []; rw [beq_eq_false_iff_ne.2 he,cond_false])]
       refine ih (i+1) K' (by omega) (by omega) fun j hj'=>?_
       rcases Nat.lt_or_ge j i with h1 | h1
       · exact hj j h1
       · obtain rfl:j=i:=by omega
         rw [List.getElem?_eq_getElem hl]
         exact fun e=>he (Option.some.inj e)
 exact go l.length 0 K (by omega) hK (fun j hj=>by omega)
theorem XA (K:Nat)(hK:2000000<=K)(x:Int)(l:List Int)(hl:l.length<=1000000):Su K x l=some (decide (x ∈ l)):=by
 unfold Su
 rw [Xk x l (fun i hi=>?_) K (by omega)]
 · by_cases h:x ∈ l
   · rw [if_pos h,decide_eq_true h]; rfl
   · rw [if_neg h,decide_eq_false h]; rfl
 · unfold XF
   by_cases h:i < l.length
   · rw [AE (by omega),Bz,Int.toNat_natCast,List.getElem?_eq_getElem h,Option.bind_some,Option.bind_some,Aq (by omega) (by omega)]; rfl
   · rw [AF (by omega),List.getElem?_eq_none (by omega)]
theorem av (K:Nat)(hK:2000000<=K)(x:Int)(l:List Int)(hl:l.length<=1000000):mY K l x=some (decide (x ∈ l)):=by
 unfold mY
 rw [Xk x l (fun i hi=>?_) K (by omega)]
 · by_cases h:x ∈ l
   · rw [if_pos h,decide_eq_true h]; rfl
   · rw [if_neg h,decide_eq_false h]; rfl
 · unfold gk
   by_cases h:i < l.length
   · rw [AE (by omega),Bz,List.getElem?_eq_getElem h,Option.bind_some,Aq (by omega) (by omega)]; rfl
   · rw [AF (by omega),List.getElem?_eq_none (by omega)]
theorem SG (acc:List Int)(l:List (Int × Int)){i:Nat}(h:i < l.length):Cp acc (l.take (i+1))=cond (!(decide (l[i].1 ∈ Cp acc (l.take i)))) (Cp acc (l.take i) ++ [l[i].1]) (Cp acc (l.take i)):=by
 rw [AL h,SX]
 by_cases hm:l[i].1 ∈ Cp acc (l.take i)
 · rw [if_pos hm,decide_eq_true hm]; rfl
 · rw [if_neg hm,decide_eq_false hm]; rfl
theorem SL (K:Nat)(hK:2000000<=K)(acc:List Int)(a b c:Int)(w:List PBatch1.Wr)(l:List (Int × Int))(ha:acc.length<=1000)(hl:l.length<=1000):pq K acc a b c w l=some (Cp acc l):=by
 unfold pq
 suffices hL:AB (Wa K l) K (0,acc)=some (Cp acc l) from by rw [Ak (by rw [List.length_nil]; omega),List.nil_append,hL]; rfl
 refine Ag (fun i=>((i:Int),Cp acc (l.take i))) l.length rfl (by omega) (fun i hi=>?_) ?_
 · have h1:=Xe (l.take i) acc
   rw [List.length_take] at h1
   unfold Wa
   simp only [Bz,Int.toNat_natCast,List.getElem?_eq_getElem hi,Option.bind_some,BB]
   rw [AE (by omega),XA K hK _ _ (by omega),Option.bind_some,SG acc l hi,Aq (by omega) (by omega)]
   cases !decide (l[i].1 ∈ Cp acc (l.take i)) with
   | true=>rw [cond_true,cond_true,Ak (by omega)]; rfl
   | false=>rw [cond_false,cond_false]; rfl
 · unfold Wa
   simp only []
   rw [AF (by omega),List.take_length]
theorem Ff (K:Nat)(hK:2000000<=K)(acc:List Int)(a b c:Int)(w:List PBatch1.Wr)(l:List (Int × Int))(ha:acc.length<=1000)(hl:l.length<=1000):Tp K acc a b c w l=some (Cp acc l):=by
 unfold Tp
 suffices hL:AB (Lu K l) K (0,acc)=some (Cp acc l) from by rw [Ak (by rw [List.length_nil]; omega),List.nil_append,hL]; rfl
 refine Ag (fun i=>((i:Int),Cp acc (l.take i))) l.length rfl (by omega) (fun i hi=>?_) ?_
 · have h1:=Xe (l.take i) acc
   rw [List.length_take] at h1
   unfold Lu
   simp only [Bz,Int.toNat_natCast,List.getElem?_eq_getElem hi,Option.bind_some,BB]
   rw [AE (by omega),XA K hK _ _ (by omega),Option.bind_some,SG acc l hi,Aq (by omega) (by omega)]
   cases !decide (l[i].1 ∈ Cp acc (l.take i)) with
   | true=>rw [cond_true,cond_true,Ak (by omega)]; rfl
   | false=>rw [cond_false,cond_false]; rfl
 · unfold Lu
   simp only []
   rw [AF (by omega),List.take_length]
theorem OT {R S:Int} {W:List Rg} (h:Xf R S W):∀ {n t:Nat},t < (flat W).length->n<=t->(Cp [] ((ES (flat W) t n).map MF)).length=news (flat W) t n+1
 | 0,t,ht,_=>by
   have e:ES (flat W) t 0=[(flat W)[t]]:=by
     have:=NU (L:=flat W) (n:=0) ht (by omega)
     rw [<- this]
     unfold back
     rw [List.getElem?_eq_getElem ht]; rfl
   rw [e]; rfl
 | n + 1, t, ht,hn=>by
   obtain ⟨t,rfl⟩:∃ q,t=q+1:=⟨t - 1,by omega⟩
   have ih:=OT h (n:=n) (t:=t) (by omega) (by omega)
   rw [TR ht (by omega),List.map_append,List.map_cons,List.map_nil,SX]
   unfold news newAt
   rw [Nat.add_sub_cancel,List.getElem?_eq_getElem ht,List.getElem?_eq_getElem (show t < (flat W).length by omega)]
   simp only []
   have m1:=List.getElem_mem ht
   have m0:=List.getElem_mem (show t < (flat W).length by omega)
   have key:(MF (flat W)[t+1]).1 ∈ Cp [] ((ES (flat W) t n).map MF) ↔ ep (flat W)[t]=ep (flat W)[t+1]:=by
     rw [Qv]
     constructor
     · rintro (h1 | ⟨s,hs,he⟩)
       · simp at h1
       · obtain ⟨q,hq,rfl⟩:=List.mem_map.1 hs
         obtain ⟨j,hj⟩:=List.getElem?_of_mem hq
         have hjl:=(List.getElem?_eq_some_iff.1 hj).1
         rw [Ej (by omega) (by omega)] at hjl
         rw [Un (by omega) (by omega) (by omega)] at hj
         obtain ⟨hj1,hj2⟩:=List.getElem?_eq_some_iff.1 hj
         have e1:ep q=ep (flat W)[t+1]:=(PS h (MC hq) m1).2 he
         have hm:=List.pairwise_iff_getElem.1 (Yu h)
         have h3:=hm t (t+1) (by omega) ht (by omega)
         have h4:ep q<=ep (flat W)[t]:=by
           rcases Nat.lt_or_ge (t - n+j) t with h5 | h5
           · have:=hm (t - n+j) t hj1 (by omega) h5
             rw [hj2] at this
             exact this
           · have h6:t - n+j=t:=by omega
             rw [<- hj2]
             simp only [h6]
             exact Int.le_refl _
         omega
     · intro he
       refine .inr ⟨MF (flat W)[t],?_,?_⟩
       · refine List.mem_map.2 ⟨_,?_,rfl⟩
         have:=Un (L:=flat W) (t:=t) (n:=n) (j:=n) (by omega) (by omega) (by omega)
         rw [show t - n+n=t by omega,List.getElem?_eq_getElem (show t < (flat W).length by omega)] at this
         exact List.mem_of_getElem? this
       · exact (PS h m0 m1).1 he
   by_cases he:ep (flat W)[t]=ep (flat W)[t+1]
   · rw [if_pos (key.2 he),ih,if_neg (by rw [bne_iff_ne]; exact fun h=>h he)]; omega
   · rw [if_neg (fun h=>he (key.1 h)),List.length_append,BB,ih,if_pos (by rw [bne_iff_ne]; exact he)]; rw [Nat.add_comm 1]
end Go.Proofs.YthoimblkpcikdaaGreatDoor.PGrp4
namespace Go.Proofs.YthoimblkpcikdaaGreatDoor.PGrp5
open Go.RowKit Go.Proofs.YthoimblkpcikdaaGreatDoor.Mc Go.Proofs.YthoimblkpcikdaaGreatDoor.N Go.Proofs.YthoimblkpcikdaaGreatDoor.Plain Go.Proofs.YthoimblkpcikdaaGreatDoor.PWalk Go.Proofs.YthoimblkpcikdaaGreatDoor.PWalk2 Go.Proofs.YthoimblkpcikdaaGreatDoor.PRev Go.Proofs.YthoimblkpcikdaaGreatDoor.PPiece Go.Proofs.YthoimblkpcikdaaGreatDoor.PGrp Go.Proofs.YthoimblkpcikdaaGreatDoor.PGrp2 Go.Proofs.YthoimblkpcikdaaGreatDoor.PGrp3 Go.Proofs.YthoimblkpcikdaaGreatDoor.PGrp4
open Go.Proofs.YthoimblkpcikdaaGreatDoor.PJoin (Fr AL Gm Small CW fin Fz)
open Go.Proofs.YthoimblkpcikdaaGreatDoor.PureKeys (AU AK)
open Go.Proofs.YthoimblkpcikdaaGreatDoor.PCut (Ah Du CB)
set_option linter.unusedSimpArgs false
set_option linter.unusedVariables false
theorem ml {x:Int}(h0:0<=x)(h1:x < 4294967296):IntKind.wrap .u64 x=x:=by
 show x % 18446744073709551616=x
 omega
def fl (S:Int)(L:List Pl)(lo q:Nat):Bool:=if q=0 then true else whole S L (lo+(q - 1)) (q - 1)
theorem fC (S:Int)(L:List Pl)(lo q:Nat):fl S L lo (q+1)=cond (fl S L lo q) (if q=0 then true else Oh S L (lo+q)) false:=by
 unfold fl
 rw [if_neg (by omega),Nat.add_sub_cancel]
 by_cases h:q=0
 · subst h; rfl
 · rw [if_neg h,if_neg h]
   obtain ⟨q,rfl⟩:∃ m,q=m+1:=⟨q - 1,by omega⟩
   have e:whole S L (lo+(q+1)) (q+1)=(decide (0 < lo+(q+1)) && Oh S L (lo+(q+1)) && whole S L (lo+q) q):=rfl
   rw [e,decide_eq_true (by omega),Bool.true_and,Nat.add_sub_cancel]
   cases whole S L (lo+q) q <;> cases Oh S L (lo+(q+1)) <;> rfl
theorem dj (K:Nat) (hK:2000000<=K) {p n r:Int} (hR:Ah p n r) {W:List Rg} (h:Xf r (n - 1) W) (hv:Vd (flat W)) (a:Pl) {t N:Nat} (ht:t < (flat W).length) (hN:N<=t) (ha:a.2.2.1=(N:Int)) (out:List Hd) :
   AB (Ra K a p n r (flat W) ((t:Int),out)) K (true,((t - N:Nat):Int),[],[])=some (whole (n - 1) (flat W) t N,(ES (flat W) t N).map ET,(ES (flat W) t N).map MF):=by
 have hl:=hv.len
 have hsl:=Ej ht hN
 refine Ag (fun q=>(fl (n - 1) (flat W) (t - N) q,((t - N+q:Nat):Int),((ES (flat W) t N).take q).map ET,((ES (flat W) t N).take q).map MF)) (N+1) ?_ (by omega) (fun q hq=>?_) ?_
 · simp only [List.take_zero,List.map_nil]; rfl
 · have hlt:t - N+q < (flat W).length:=by omega
   have hqs:q < (ES (flat W) t N).length:=by omega
   have hsq:(ES (flat W) t N)[q]=(flat W)[t - N+q]:=by
     have:=Un (j:=q) ht hN (by omega)
     rw [List.getElem?_eq_getElem hqs,List.getElem?_eq_getElem hlt] at this
     exact Option.some.inj this
   have hfl:((cond (fl (n - 1) (flat W) (t - N) q) (cond (((t - N+q:Nat):Int) == (IntKind.wrap .i64 ((t:Int) - (IntKind.wrap .i64 a.2.2.1)))) (some true) ((ix (flat W) (IntKind.wrap .i64 (((t - N+q:Nat):Int) - 1))).bind fun a231=>(ix (flat W) ((t - N+q:Nat):Int)).bind fun a232=>(nM K p n r a231.1 a231.2.1 a231.2.2.1 a231.2.2.2.1 a231.2.2.2.2.1 a231.2.2.2.2.2.1 a231.2.2.2.2.2.2 a232.1 a232.2.1 a232.2.2.1 a232.2.2.2.1 a232.2.2.2.2.1 a232.2.2.2.2.2.1 a232.2.2.2.2.2.2).bind fun y233=>some y233)) (some false)):Option Bool)=some (fl (n - 1) (flat W) (t - N) (q+1)):=by
     rw [fC,ha,Aq (x:=(N:Int)) (by omega) (by omega),Aq (x:=(t:Int) - (N:Int)) (by omega) (by omega)]
     cases fl (n - 1) (flat W) (t - N) q with
     | false=>rfl
     | true =>
       rw [cond_true,cond_true]
       by_cases h0:q=0
       · subst h0
         rw [beq_iff_eq.2 (by omega),cond_true,if_pos rfl]
       · rw [beq_eq_false_iff_ne.2 (by omega),cond_false,if_neg h0,Aq (by omega) (by omega),show ((t - N+q:Nat):Int) - 1=((t - N+q - 1:Nat):Int) by omega,Bz,Bz,List.getElem?_eq_getElem hlt,List.getElem?_eq_getElem (show t - N+q - 1 < (flat W).length by omega),Option.bind_some,Option.bind_some,dD K hR (eY h (List.getElem_mem _)),Option.bind_some]
         unfold Oh
         rw [List.getElem?_eq_getElem hlt,List.getElem?_eq_getElem (show t - N+q - 1 < (flat W).length by omega)]
   have ht1:((ES (flat W) t N).take q).length<=200:=by rw [List.length_take]; omega
   unfold Ra
   simp only []
   rw [AE (by omega),hfl,Option.bind_some,Bz,List.getElem?_eq_getElem hlt,Option.bind_some,BB,Ak (by rw [List.length_map]; omega),Option.bind_some,BB,Ak (by rw [List.length_map]; omega),Aq (by omega) (by omega),AL hqs,List.map_append,List.map_append,hsq]
   rfl
 · unfold Ra
   simp only []
   rw [AF (by omega),List.take_of_length_le (by omega)]
   congr 3
   unfold fl
   rw [if_neg (by omega),show t - N+(N+1 - 1)=t by omega,Nat.add_sub_cancel]
theorem PC (K:Nat) (hK:2000000<=K) {p n r:Int} (hR:Ah p n r) {W:List Rg} (h:Xf r (n - 1) W) (hv:Vd (flat W)):pK K p n r (flat W)=some (DI r (n - 1) (flat W) (flat W).length):=by
 have hl:=hv.len
 have hR':=hR
 unfold Ah at hR'
 unfold pK
 suffices hL:AB (Ue K p n r (flat W)) K (0,[])=some (DI r (n - 1) (flat W) (flat W).length) by rw [hL]; rfl
 refine Ag (fun t=>((t:Int),DI r (n - 1) (flat W) t)) (flat W).length rfl (by omega) (fun t ht=>?_) ?_
 · have hg : (flat W)[t]? = some (flat W)[t]:=List.getElem?_eq_getElem ht
   have hm:=List.getElem_mem ht
   have hb:=hv.b _ hm
   have hhl:=RF r (n - 1) (flat W) t
   obtain ⟨N,hN⟩:∃ N:Nat,(flat W)[t].2.2.1=(N:Int):=⟨(flat W)[t].2.2.1.toNat,by omega⟩
   have hN':(flat W)[t].2.2.1.toNat=N:=by omega
   suffices hx:∃ q,DI r (n - 1) (flat W) (t+1)=q/\Ue K p n r (flat W) ((t:Int),DI r (n - 1) (flat W) t)=some (.inl (((t+1:Nat):Int),q)) by
     obtain ⟨q,h1,h2⟩:=hx
     rw [h2,<- h1]
   have hcnd:((cond ((flat W)[t].1 != 3) (some true) (some (decide ((IntKind.wrap .u64 (t:Int)) < (IntKind.wrap .u64 (flat W)[t].2.2.1)))):Option Bool))=some (decide ((flat W)[t].1 ≠ 3\/t < N)):=by
     rw [hN,ml (by omega) (by omega),ml (by omega) (by omega)]
     by_cases h3:(flat W)[t].1=3
     · rw [h3,bne_self_eq_false,cond_false]
       congr 1
       rw [decide_eq_decide]
       constructor
       · intro q; exact .inr (by omega)
       · rintro (q | q)
         · exact absurd rfl q
         · omega
     · rw [bne_iff_ne.2 h3,cond_true,decide_eq_true (.inl h3)]
   rw [Si]
   unfold Ue
   simp only []
   rw [AE (by omega)]
   simp only [Bz,hg,Option.bind_some]
   rw [hcnd,Option.bind_some]
   by_cases hc:(flat W)[t].1 ≠ 3\/t < N
   · rw [decide_eq_true hc,cond_true,Option.bind_some,Aq (by omega) (by omega)]
     refine ⟨_,rfl,?_⟩
     have hd:Pm r (n - 1) (flat W) t=none:=by
       unfold Pm
       rw [hg]
       simp only []
       rw [if_neg]
       rintro ⟨q1,q2,_⟩
       rcases hc with h3 | h3
       · exact h3 q1
       · have:=Gs q2; omega
     rw [hd,Option.toList_none,List.append_nil]
     rfl
   · have h3:(flat W)[t].1=3:=by
       apply Decidable.byContradiction
       intro q; exact hc (.inl q)
     have hNt:N<=t:=by
       apply Decidable.byContradiction
       intro q; exact hc (.inr (by omega))
     have h1:1<=N:=by
       have:=VB (hv.ok _ hm) h3
       omega
     have hsl:=Ej ht hNt
     have hsr:=dj K hK hR h hv (flat W)[t] ht hNt hN (DI r (n - 1) (flat W) t)
     have hfew:=Rk hv ht hNt h1
     have hrg:=OT h ht hNt
     rw [decide_eq_false hc,cond_false]
     rw [hN,Aq (x:=(N:Int)) (by omega) (by omega),Aq (x:=(t:Int) - (N:Int)) (by omega) (by omega),show (t:Int) - (N:Int)=((t - N:Nat):Int) by omega,hsr]
     simp only [Option.bind_some]
     rw [br K hK hfew]
     simp only [Option.bind_some]
     rw [SL K hK [] _ _ _ _ _ (by rw [List.length_nil]; omega) (by rw [List.length_map]; omega),Option.bind_some,Aq (x:=r - 2) (by omega) (by omega),hrg]
     refine ⟨_,rfl,?_⟩
     have hd:Pm r (n - 1) (flat W) t=if whole (n - 1) (flat W) t N=true/\(jn ((ES (flat W) t N).map ET)).2.2.2.2=0/\((news (flat W) t N+1:Nat):Int)<=r - 2 then some ((jn ((ES (flat W) t N).map ET)).1,(jn ((ES (flat W) t N).map ET)).2.1,(jn ((ES (flat W) t N).map ET)).2.2.1,(jn ((ES (flat W) t N).map ET)).2.2.2.1,(ES (flat W) t N).map MF) else none:=by
       unfold Pm
       rw [hg]
       simp only [hN']
       by_cases q:whole (n - 1) (flat W) t N=true/\(jn ((ES (flat W) t N).map ET)).2.2.2.2=0/\((news (flat W) t N+1:Nat):Int)<=r - 2
       · rw [if_pos q,if_pos ⟨h3,q.1,by omega,q.2.1⟩]
       · rw [if_neg q,if_neg (fun q'=>q ⟨q'.2.1,q'.2.2.2,by have:=q'.2.2.1; omega⟩)]
     rw [hd]
     cases hw:whole (n - 1) (flat W) t N with
     | false=>rw [cond_false,Option.bind_some,cond_false,Option.bind_some,if_neg (fun q=>by cases q.1),Aq (by omega) (by omega),Option.toList_none,List.append_nil]; rfl
     | true =>
       rw [cond_true]
       by_cases hj:(jn ((ES (flat W) t N).map ET)).2.2.2.2=0
       · rw [beq_iff_eq.2 hj,cond_true,Option.bind_some]
         by_cases hr:((news (flat W) t N+1:Nat):Int)<=r - 2
         · rw [decide_eq_true hr,cond_true,if_pos ⟨rfl,hj,hr⟩,BB,Ak (by omega),Option.bind_some,Aq (by omega) (by omega)]
           rfl
         · rw [decide_eq_false hr,cond_false,if_neg (fun q=>hr q.2.2),Option.bind_some,Aq (by omega) (by omega),Option.toList_none,List.append_nil]; rfl
       · rw [beq_eq_false_iff_ne.2 hj,cond_false,Option.bind_some,cond_false,if_neg (fun q=>hj q.2.1),Option.bind_some,Aq (by omega) (by omega),Option.toList_none,List.append_nil]; rfl
 · unfold Ue
   simp only []
   rw [AF (by omega)]
end Go.Proofs.YthoimblkpcikdaaGreatDoor.PGrp5
namespace Go.Proofs.YthoimblkpcikdaaGreatDoor.PFlo
open Go.RowKit Go.Proofs.YthoimblkpcikdaaGreatDoor.Mc Go.Proofs.YthoimblkpcikdaaGreatDoor.N Go.Proofs.YthoimblkpcikdaaGreatDoor.Plain Go.Proofs.YthoimblkpcikdaaGreatDoor.PWalk Go.Proofs.YthoimblkpcikdaaGreatDoor.PWalk2 Go.Proofs.YthoimblkpcikdaaGreatDoor.PPiece Go.Proofs.YthoimblkpcikdaaGreatDoor.PGrp Go.Proofs.YthoimblkpcikdaaGreatDoor.PGrp3 Go.Proofs.YthoimblkpcikdaaGreatDoor.PGrp4
open Go.Proofs.YthoimblkpcikdaaGreatDoor.PJoin (Fr AL Gm)
open Go.Proofs.YthoimblkpcikdaaGreatDoor.PPut (SM)
set_option linter.unusedSimpArgs false
set_option linter.unusedVariables false
def uA (q p:Pl):Bool:=decide (q.2.1 < p.2.1) || (p.2.1 == q.2.1 && decide (q.2.2.1<=p.2.2.1))
def pY (o:Option Pl)(p:Pl):Bool:=match o with | none=>true | some q=>uA q p
def Hk (o:Option Pl)(p:Pl):Option Pl:=if p.1=4/\pY o p=true then some p else o
def fb (L:List Pl):Option Pl:=L.foldl Hk none
abbrev FS:Type:=Int × Bool × Int × Int × Int
def BI:Option Pl->FS
 | none=>(0,false,0,0,0)
 | some q=>(ZO q,true,q.2.1,q.2.2.1,g4 q.2.2.2.1 0)
theorem Xo {k a b:Int} {t:ByteArray} (h:pr k a b t=true):k=1\/k=2\/k=3\/k=4:=by
 unfold pr at h
 cases hc:(decide (a < 1) || decide (2147483647 < a)) with
 | true=>rw [hc] at h; exact absurd h Bool.false_ne_true
 | false =>
   rw [hc,cond_false] at h
   by_cases h1:k=1
   · exact .inl h1
   · rw [beq_eq_false_iff_ne.2 h1,cond_false] at h
     by_cases h2:k=2
     · exact .inr (.inl h2)
     · rw [beq_eq_false_iff_ne.2 h2,cond_false] at h
       by_cases h3:k=3
       · exact .inr (.inr (.inl h3))
       · rw [beq_eq_false_iff_ne.2 h3,cond_false] at h
         by_cases h4:k=4
         · exact .inr (.inr (.inr h4))
         · rw [beq_eq_false_iff_ne.2 h4,cond_false] at h
           cases h
theorem iY {k a b:Int}{t:ByteArray}(h:pr k a b t=true):1<=a/\a<=2147483647:=by
 unfold pr at h
 by_cases h1:a < 1
 · rw [decide_eq_true h1] at h; cases h
 · by_cases h2:2147483647 < a
   · rw [decide_eq_false h1,decide_eq_true h2] at h; cases h
   · omega
theorem fE {a b:Int}{t:ByteArray}(h:pr 4 a b t=true):LL 4 a b t=.inr (.inr (.inr (.inr (a,b,g4 t 0,0)))):=by unfold LL; rw [h]; rfl
theorem eH {k a b:Int}{t:ByteArray}(h:pr k a b t=true)(h4:k ≠ 4):(∃ e,LL k a b t=.inr (.inl e))\/(∃ e,LL k a b t=.inr (.inr (.inl e)))\/∃ e,LL k a b t=.inr (.inr (.inr (.inl e))):=by
 rcases Xo h with rfl | rfl | rfl | rfl
 · exact .inl ⟨_,by unfold LL; rw [h]; rfl⟩
 · exact .inr (.inl ⟨_,by unfold LL; rw [h]; rfl⟩)
 · exact .inr (.inr ⟨_,by unfold LL; rw [h]; rfl⟩)
 · exact absurd rfl h4
def ef (f:Rg):Prop:=f.2.2.1.length<=1000/\∀ r ∈ f.2.2.1,Gm r=true/\r.2.2.2.size<=100
theorem ef.of {W:List Rg}(hv:Vd (flat W)){i:Nat}(hi:i < W.length):ef W[i]:=by
 have h1:=dE W hi
 have h2:=hv.len
 refine ⟨by omega,fun r hr=>?_⟩
 obtain ⟨k,hk⟩:=List.getElem_of_mem hr
 obtain ⟨hk,rfl⟩:=hk
 have hm:=List.mem_of_getElem? (Di W hi hk)
 have e:ET (Dv W[i] k W[i].2.2.1[k])=W[i].2.2.1[k]:=rfl
 have h3:=hv.ok _ hm
 rw [e] at h3
 exact ⟨h3,hv.sz _ hm⟩
def eG (o:Option Pl)(k:Nat):Int × Bool × Int × Int × Int × Int:=((BI o).1,(BI o).2.1,(k:Int),(BI o).2.2.1,(BI o).2.2.2.1,(BI o).2.2.2.2)
theorem Ta {σ:Type}(g:σ->Pl->σ)(o:σ)(f:Rg){k:Nat}(hk:k < f.2.2.1.length):((MA f).take (k+1)).foldl g o=g (((MA f).take k).foldl g o) (Dv f k f.2.2.1[k]):=by
 have hp:k < (MA f).length:=by rw [Cv]; exact hk
 have he:(MA f)[k]=Dv f k f.2.2.1[k]:=by
   have:=Mr f hk
   rw [List.getElem?_eq_getElem hp] at this
   exact Option.some.inj this
 rw [AL hp,List.foldl_append,he]; rfl
theorem WY (K:Nat) {f:Rg} (hf:ef f) (o:Option Pl) {k:Nat} (hk:k < f.2.2.1.length):Nx K f (eG o k)=some (.inl (eG (Hk o (Dv f k f.2.2.1[k])) (k+1))):=by
 have hl:=hf.1
 have hr:=hf.2 _ (List.getElem_mem hk)
 have hw:IntKind.wrap .i64 ((k:Int)+1)=((k+1:Nat):Int):=by rw [Aq (by omega) (by omega)]; rfl
 unfold Nx eG
 simp only []
 rw [AE (by omega),Bz,List.getElem?_eq_getElem hk,Option.bind_some,OO K _ _ _ _ (by omega),hw]
 have hpr:pr (f.2.2.1[k]).1 (f.2.2.1[k]).2.1 (f.2.2.1[k]).2.2.1 (f.2.2.1[k]).2.2.2=true:=hr.1
 by_cases h4:(f.2.2.1[k]).1=4
 · have ho:LL (f.2.2.1[k]).1 (f.2.2.1[k]).2.1 (f.2.2.1[k]).2.2.1 (f.2.2.1[k]).2.2.2=.inr (.inr (.inr (.inr ((f.2.2.1[k]).2.1,(f.2.2.1[k]).2.2.1,g4 (f.2.2.1[k]).2.2.2 0,0)))):=by
     rw [h4] at hpr ⊢
     exact fE hpr
   rw [ho]
   have hs:Hk o (Dv f k f.2.2.1[k])=if pY o (Dv f k f.2.2.1[k])=true then some (Dv f k f.2.2.1[k]) else o:=by
     unfold Hk
     have:(Dv f k f.2.2.1[k]).1=4:=h4
     simp only [this,true_and]
   rw [hs]
   cases o with
   | none=>rfl
   | some q =>
     have hb:pY (some q) (Dv f k f.2.2.1[k])=(decide (q.2.1 < (f.2.2.1[k]).2.1) || ((f.2.2.1[k]).2.1 == q.2.1 && decide (q.2.2.1<=(f.2.2.1[k]).2.2.1))):=rfl
     show ((((cond (decide (q.2.1 < (f.2.2.1[k]).2.1)) (some true) (cond ((f.2.2.1[k]).2.1 == q.2.1) (some (decide (q.2.2.1<=(f.2.2.1[k]).2.2.1))) (some false)):Option Bool)).bind fun y=>cond y (some (f.1,true,(f.2.2.1[k]).2.1,(f.2.2.1[k]).2.2.1,g4 (f.2.2.1[k]).2.2.2 0)) (some (BI (some q)))).bind fun y:FS=>(some (.inl (y.1,y.2.1,((k+1:Nat):Int),y.2.2.1,y.2.2.2.1,y.2.2.2.2)):Option ((Int × Bool × Int × Int × Int × Int) ⊕ FS)))=_
     by_cases h1:q.2.1 < (f.2.2.1[k]).2.1
     · rw [if_pos (by rw [hb,decide_eq_true h1]; rfl),AE h1]; rfl
     · rw [AF h1]
       by_cases h2:(f.2.2.1[k]).2.1=q.2.1
       · rw [beq_iff_eq.2 h2,cond_true]
         by_cases h3:q.2.2.1<=(f.2.2.1[k]).2.2.1
         · rw [if_pos (by rw [hb,beq_iff_eq.2 h2,decide_eq_true h3,Bool.and_self,Bool.or_true]),decide_eq_true h3]; rfl
         · rw [if_neg (by rw [hb,decide_eq_false h1,decide_eq_false h3,Bool.and_false,Bool.or_false]; exact Bool.false_ne_true),decide_eq_false h3]; rfl
       · rw [beq_eq_false_iff_ne.2 h2,cond_false,if_neg (by rw [hb,decide_eq_false h1,beq_eq_false_iff_ne.2 h2]; exact Bool.false_ne_true)]; rfl
 · have hs:Hk o (Dv f k f.2.2.1[k])=o:=by
     unfold Hk
     rw [if_neg]
     rintro ⟨q,_⟩
     exact h4 q
   rw [hs]
   rcases eH hpr h4 with ⟨e,he⟩ | ⟨e,he⟩ | ⟨e,he⟩ <;> rw [he] <;> rfl
theorem TS (K:Nat)(hK:2000000<=K){f:Rg}(hf:ef f)(o:Option Pl):AB (Nx K f) K (eG o 0)=some (BI ((MA f).foldl Hk o)):=by
 have hl:=hf.1
 refine Ag (fun k=>eG (((MA f).take k).foldl Hk o) k) f.2.2.1.length rfl (by omega) (fun k hk=>?_) ?_
 · rw [Ta Hk o f hk]
   exact WY K hf _ hk
 · unfold Nx eG
   simp only []
   rw [AF (by omega),List.take_of_length_le (by rw [Cv]; exact Nat.le_refl _)]
theorem PY (W:List Rg){i:Nat}(hi:i < W.length):flat (W.take (i+1))=flat (W.take i) ++ MA W[i]:=by rw [AL hi,KT]
theorem YG (K:Nat)(hK:2000000<=K)(a b c:Int){W:List Rg}(hW:W.length<=1000)(hf:∀ i (hi:i < W.length),ef W[i]):lP K a b c W=some ((BI (fb (flat W))).2.2.1,(BI (fb (flat W))).2.2.2.1,(BI (fb (flat W))).2.2.2.2,(BI (fb (flat W))).1,(BI (fb (flat W))).2.1):=by
 unfold lP
 suffices hL:AB (RT K W) K (0,false,0,0,0,0)=some (BI (fb (flat W))) by rw [hL]; rfl
 refine Ag (fun i=>eG (fb (flat (W.take i))) i) W.length rfl (by omega) (fun i hi=>?_) ?_
 · have hin:=TS K hK (hf i hi) (fb (flat (W.take i)))
   have e:fb (flat (W.take (i+1)))=(MA W[i]).foldl Hk (fb (flat (W.take i))):=by unfold fb; rw [PY W hi,List.foldl_append]
   unfold RT
   rw [e]
   unfold eG at hin ⊢
   simp only []
   rw [AE (by omega),Bz,List.getElem?_eq_getElem hi,Option.bind_some]
   rw [show (((0:Nat):Int))=0 from rfl] at hin
   rw [hin,Option.bind_some,Aq (by omega) (by omega)]
   rfl
 · unfold RT eG
   simp only []
   rw [AF (by omega),List.take_length]
def RB (L:List Pl)(i:Nat)(b:Int):Prop:=(b = -1/\(L.take i).foldl Hk none=none)\/∃ (n:Nat) (q:Pl),b=(n:Int)/\L[n]? = some q/\(L.take i).foldl Hk none=some q
theorem Yp (K:Nat) (hK:2000000<=K) (L:List Pl) (hL:L.length<=1000):∃ b,AB (RW K L) K (-1,0)=some b/\RB L L.length b:=by
 refine GQ (fun i (z:Int × Int)=>z.2=(i:Int)/\RB L i z.1) (fun b=>RB L L.length b) L.length ⟨rfl,.inl ⟨rfl,rfl⟩⟩ (by omega) ?_ ?_
 · rintro i ⟨b,j⟩ hi ⟨hj,hb⟩
   simp only at hj hb
   subst hj
   have hg:L[i]? = some L[i]:=List.getElem?_eq_getElem hi
   have hst:(L.take (i+1)).foldl Hk none=Hk ((L.take i).foldl Hk none) L[i]:=by rw [AL hi,List.foldl_append]; rfl
   have hw:IntKind.wrap .i64 ((i:Int)+1)=((i+1:Nat):Int):=by rw [Aq (by omega) (by omega)]; rfl
   unfold RW
   simp only [Bz,Int.toNat_natCast,hg,Option.bind_some,hw]
   rw [AE (by omega)]
   unfold RB
   rw [hst]
   by_cases h4:L[i].1=4
   · rw [h4]
     simp only [bne_self_eq_false,cond_false]
     rcases hb with ⟨rfl,hn⟩ | ⟨n,q,rfl,hq,hn⟩
     · rw [hn]
       refine ⟨_,rfl,rfl,.inr ⟨i,L[i],rfl,hg,?_⟩⟩
       unfold Hk
       rw [if_pos ⟨h4,rfl⟩]
     · rw [hn,AF (by omega)]
       simp only [Bz,Int.toNat_natCast,hq,Option.bind_some]
       have hs:Hk (some q) L[i]=if uA q L[i]=true then some L[i] else some q:=by
         unfold Hk
         simp only [h4,pY,true_and]
       rw [hs]
       unfold uA
       by_cases h1:q.2.1 < L[i].2.1
       · rw [decide_eq_true h1]
         exact ⟨_,rfl,rfl,.inr ⟨i,L[i],rfl,hg,rfl⟩⟩
       · rw [decide_eq_false h1,Bool.false_or,cond_false]
         by_cases h2:L[i].2.1=q.2.1
         · rw [beq_iff_eq.2 h2,cond_true,Bool.true_and]
           by_cases h3:q.2.2.1<=L[i].2.2.1
           · rw [decide_eq_true h3]
             exact ⟨_,rfl,rfl,.inr ⟨i,L[i],rfl,hg,rfl⟩⟩
           · rw [decide_eq_false h3]
             exact ⟨_,rfl,rfl,.inr ⟨n,q,rfl,hq,rfl⟩⟩
         · rw [beq_eq_false_iff_ne.2 h2,cond_false]
           exact ⟨_,rfl,rfl,.inr ⟨n,q,rfl,hq,rfl⟩⟩
   · have hs:∀ o,Hk o L[i]=o:=by
       intro o
       unfold Hk
       rw [if_neg (fun q=>h4 q.1)]
     rw [hs,bne_iff_ne.2 h4]
     exact ⟨_,rfl,rfl,hb⟩
 · rintro ⟨b,j⟩ ⟨hj,hb⟩
   simp only at hj hb
   subst hj
   unfold RW
   simp only []
   rw [AF (by omega)]
   exact ⟨_,rfl,hb⟩
def LY (live:List Int)(t:Int)(p:Pl):Int:=if ZO p ∈ live then mx t p.2.1 else t
theorem ZJ (K:Nat){f:Rg}(hf:ef f)(h1:∀ r ∈ f.2.2.1,r.1 ≠ 1){m:List (Int × Bool)}{live:List Int}(hm:SM m live)(t:Int){k:Nat}(hk:k < f.2.2.1.length):NH K f m (t,(k:Int))=some (.inl (LY live t (Dv f k f.2.2.1[k]),((k+1:Nat):Int))):=by
 have hl:=hf.1
 have hr:=hf.2 _ (List.getElem_mem hk)
 have hn:=h1 _ (List.getElem_mem hk)
 have hw:IntKind.wrap .i64 ((k:Int)+1)=((k+1:Nat):Int):=by rw [Aq (by omega) (by omega)]; rfl
 unfold NH
 simp only []
 rw [AE (by omega),Bz,List.getElem?_eq_getElem hk,Option.bind_some,OO K _ _ _ _ (by omega),hw]
 have hpr:pr (f.2.2.1[k]).1 (f.2.2.1[k]).2.1 (f.2.2.1[k]).2.2.1 (f.2.2.1[k]).2.2.2=true:=hr.1
 have hx:LY live t (Dv f k f.2.2.1[k])=cond (decide (f.1 ∈ live)) (mx t (f.2.2.1[k]).2.1) t:=by
   unfold LY
   by_cases h:f.1 ∈ live
   · rw [decide_eq_true h,if_pos (show ZO (Dv f k f.2.2.1[k]) ∈ live from h)]; rfl
   · rw [decide_eq_false h,if_neg (show ¬ ZO (Dv f k f.2.2.1[k]) ∈ live from h)]; rfl
 rw [hx,hm.get]
 rcases Xo hpr with h | h | h | h
 · exact absurd h hn
 · have ho:LL (f.2.2.1[k]).1 (f.2.2.1[k]).2.1 (f.2.2.1[k]).2.2.1 (f.2.2.1[k]).2.2.2=.inr (.inr (.inl ((f.2.2.1[k]).2.1,(f.2.2.1[k]).2.2.1,(f.2.2.1[k]).2.2.2,0))):=by unfold LL; rw [hpr,h]; rfl
   rw [ho]
   cases decide (f.1 ∈ live) <;> rfl
 · obtain ⟨e,ho⟩:∃ e,LL (f.2.2.1[k]).1 (f.2.2.1[k]).2.1 (f.2.2.1[k]).2.2.1 (f.2.2.1[k]).2.2.2=.inr (.inr (.inr (.inl e))):=by unfold LL; rw [hpr,h]; exact ⟨_,rfl⟩
   rw [ho]
   cases decide (f.1 ∈ live) <;> rfl
 · obtain ⟨e,ho⟩:∃ e,LL (f.2.2.1[k]).1 (f.2.2.1[k]).2.1 (f.2.2.1[k]).2.2.1 (f.2.2.1[k]).2.2.2=.inr (.inr (.inr (.inr e))):=by unfold LL; rw [hpr,h]; exact ⟨_,rfl⟩
   rw [ho]
   cases decide (f.1 ∈ live) <;> rfl
theorem aX (K:Nat) (hK:2000000<=K) (a b c:Int) {W:List Rg} (hW:W.length<=1000) (hf:∀ i (hi:i < W.length),ef W[i]) (h1:∀ i (hi:i < W.length),∀ r ∈ W[i].2.2.1,r.1 ≠ 1) {m:List (Int × Bool)} {live:List Int} (hm:SM m live) (t:Int):lI K a b c W t m=some (IntKind.wrap .u32 ((flat W).foldl (LY live) t+1)):=by
 unfold lI
 suffices hL:AB (XU K W m) K (t,0)=some ((flat W).foldl (LY live) t) by rw [hL]; rfl
 refine Ag (fun i=>((flat (W.take i)).foldl (LY live) t,(i:Int))) W.length rfl (by omega) (fun i hi=>?_) ?_
 · have hfi:=hf i hi
   have hl:=hfi.1
   have hin:AB (NH K W[i] m) K ((flat (W.take i)).foldl (LY live) t,0)=some ((MA W[i]).foldl (LY live) ((flat (W.take i)).foldl (LY live) t)):=by
     refine Ag (fun k=>(((MA W[i]).take k).foldl (LY live) ((flat (W.take i)).foldl (LY live) t),(k:Int))) W[i].2.2.1.length rfl (by omega) (fun k hk=>?_) ?_
     · rw [Ta (LY live) _ W[i] hk]
       exact ZJ K hfi (h1 i hi) hm _ hk
     · unfold NH
       simp only []
       rw [AF (by omega),List.take_of_length_le (l:=MA W[i]) (by rw [Cv]; exact Nat.le_refl _)]
   unfold XU
   simp only []
   rw [AE (by omega),Bz,List.getElem?_eq_getElem hi,Option.bind_some,hin,Option.bind_some,Aq (by omega) (by omega),PY W hi,List.foldl_append]
   rfl
 · unfold XU
   simp only []
   rw [AF (by omega),List.take_length]
end Go.Proofs.YthoimblkpcikdaaGreatDoor.PFlo
namespace Go.Proofs.YthoimblkpcikdaaGreatDoor.PKeep1
open Go.RowKit Go.Proofs.YthoimblkpcikdaaGreatDoor.Mc Go.Proofs.YthoimblkpcikdaaGreatDoor.N Go.Proofs.YthoimblkpcikdaaGreatDoor.Plain Go.Proofs.YthoimblkpcikdaaGreatDoor.PRange Go.Proofs.YthoimblkpcikdaaGreatDoor.PWalk Go.Proofs.YthoimblkpcikdaaGreatDoor.PWalk2 Go.Proofs.YthoimblkpcikdaaGreatDoor.PRev Go.Proofs.YthoimblkpcikdaaGreatDoor.PPiece Go.Proofs.YthoimblkpcikdaaGreatDoor.PGrp Go.Proofs.YthoimblkpcikdaaGreatDoor.PGrp3 Go.Proofs.YthoimblkpcikdaaGreatDoor.PGrp4
open Go.Proofs.YthoimblkpcikdaaGreatDoor.PJoin (Fr AL Gm fin CW Fz)
open Go.Proofs.YthoimblkpcikdaaGreatDoor.PureKeys (AU AK)
open Go.Proofs.YthoimblkpcikdaaGreatDoor.PPut (SM)
set_option linter.unusedSimpArgs false
set_option linter.unusedVariables false
theorem iI (x:ByteArray)(p:Int):0<=g4 x p:=by
 have h0:=PLay.Bf x p
 have h1:=PLay.Bf x (p+1)
 have h2:=PLay.Bf x (p+2)
 have h3:=PLay.Bf x (p+3)
 rw [PG4.gY]
 omega
theorem fa {a b:Int} {t:ByteArray} (h:pr 3 a b t=true):g4 t 0 < a/\b ≠ 0:=by
 unfold pr at h
 cases hc:(decide (a < 1) || decide (2147483647 < a)) with
 | true=>rw [hc] at h; exact absurd h Bool.false_ne_true
 | false =>
   rw [hc] at h
   by_cases hb:b=0
   · subst hb; exact absurd h Bool.false_ne_true
   · have h1:(cond (b != 0) (cond ((t.size:Int) == 16) (decide (g4 t 0 < a) && (decide (1<=g4 t 4) && (decide (g4 t 4<=a) && (g4 t 12 != 0)))) false) false)=true:=h
     rw [bne_iff_ne.2 hb,cond_true] at h1
     cases hs:(t.size:Int) == 16 with
     | false=>rw [hs] at h1; exact absurd h1 Bool.false_ne_true
     | true =>
       rw [hs,cond_true,Bool.and_eq_true] at h1
       exact ⟨of_decide_eq_true h1.1,hb⟩
structure cS (R:Int)(h:Hd):Prop where
 pv:0<=h.2.1/\h.2.1 < h.1
 sq:h.1<=2147483647
 sp:h.2.2.2.2.length<=200
 rg:((Cp [] h.2.2.2.2).length:Int)<=R - 2
theorem ot {l:List Fr} (h:(jn l).2.2.2.2=0):∃ z,l[l.length - 1]? = some z/\Gm z=true/\z.1=3/\(jn l).1=z.2.1/\(jn l).2.1=g4 z.2.2.2 0:=by
 unfold jn at h ⊢
 cases hz:l[l.length - 1]? with
 | none=>rw [hz] at h; exact absurd (show (2:Int)=0 from h) (by decide)
 | some z =>
   rw [hz] at h
   simp only [] at h ⊢
   have hl:=(List.getElem?_eq_some_iff.1 hz).1
   split at h
   · rename_i hc
     rw [if_pos hc]
     have hp:=hc.1 (l.length - 1) hl
     rw [hz] at hp
     refine ⟨z,rfl,hp,hc.2.1,?_⟩
     unfold fin at h ⊢
     split at h
     · exact absurd h (by decide)
     · rename_i h1
       split at h
       · exact absurd h (by decide)
       · rename_i h2
         split at h
         · rename_i h3; exact absurd h h3
         · rename_i h3
           rw [if_neg h1,if_neg h2,if_neg h3]
           exact ⟨rfl,rfl⟩
   · exact absurd h (by decide)
theorem jS {R S:Int} {W:List Rg} (h:Xf R S W) (hv:Vd (flat W)) {t:Nat} {q:Hd} (hq:Pm R S (flat W) t=some q):cS R q:=by
 unfold Pm at hq
 cases hp:(flat W)[t]? with
 | none=>rw [hp] at hq; cases hq
 | some p =>
   rw [hp] at hq
   simp only [] at hq
   split at hq
   · rename_i hc
     obtain ⟨h3,hw,hn,hj⟩:=hc
     have htl:=(List.getElem?_eq_some_iff.1 hp).1
     have hN:=Gs hw
     have hsl:=Ej htl hN
     have hl:=hv.len
     obtain ⟨z,hz,hz1,hz2,hz3,hz4⟩:=ot hj
     have e1:=(Option.some.inj hq).symm
     subst e1
     have hpr:pr z.1 z.2.1 z.2.2.1 z.2.2.2=true:=hz1
     rw [hz2] at hpr
     have ha:=PFlo.iY hpr
     have hs:=fa hpr
     refine ⟨?_,?_,?_,?_⟩
     · show 0<=(jn _).2.1/\(jn _).2.1 < (jn _).1
       rw [hz3,hz4]
       exact ⟨iI _ _,hs.1⟩
     · show (jn _).1<=_
       rw [hz3]; exact ha.2
     · show (List.map MF _).length<=_
       rw [List.length_map,hsl]; omega
     · show ((Cp [] (List.map MF _)).length:Int)<=_
       rw [OT h htl hN]; omega
   · cases hq
theorem ki {R S:Int}{W:List Rg}(h:Xf R S W)(hv:Vd (flat W)){t:Nat}{q:Hd}(hq:q ∈ DI R S (flat W) t):cS R q:=by
 unfold DI at hq
 obtain ⟨t', _,h1⟩:=List.mem_filterMap.1 hq
 exact jS h hv h1
theorem HB:∀ (l:List (Int × Int)) {acc:List Int},acc.Nodup->(Cp acc l).Nodup
 | [],acc,h=>h
 | s :: l,acc,h=>by
   have e:Cp acc (s :: l)=Cp (if s.1 ∈ acc then acc else acc ++ [s.1]) l:=rfl
   rw [e]
   refine HB l ?_
   split
   · exact h
   · rename_i hn
     rw [List.nodup_append]
     refine ⟨h,by simp,fun a ha b hb=>?_⟩
     rw [List.mem_singleton] at hb
     subst hb
     rintro rfl
     exact hn ha
theorem fW (l:List (Int × Int)) (acc:List Int):(Cp acc l).length<=acc.length+(Cp [] l).length:=by
 have key:∀ (l:List (Int × Int)) (a b:List Int),(∀ x,x ∈ b->x ∈ a)->(Cp a l).length+b.length<=a.length+(Cp b l).length:=by
   intro l
   induction l with
   | nil=>intro a b _; show a.length+b.length<=a.length+b.length; exact Nat.le_refl _
   | cons s l ih =>
     intro a b hab
     have e1:Cp a (s :: l)=Cp (if s.1 ∈ a then a else a ++ [s.1]) l:=rfl
     have e2:Cp b (s :: l)=Cp (if s.1 ∈ b then b else b ++ [s.1]) l:=rfl
     rw [e1,e2]
     by_cases ha:s.1 ∈ a
     · rw [if_pos ha]
       by_cases hb:s.1 ∈ b
       · rw [if_pos hb]; exact ih a b hab
       · rw [if_neg hb]
         have:=ih a (b ++ [s.1]) (fun x hx=>by
           rcases List.mem_append.1 hx with q | q
           · exact hab x q
           · rw [List.mem_singleton] at q; rw [q]; exact ha)
         rw [List.length_append,BB] at this
         omega
     · have hb:s.1 ∉ b:=fun q=>ha (hab _ q)
       rw [if_neg ha,if_neg hb]
       have:=ih (a ++ [s.1]) (b ++ [s.1]) (fun x hx=>by
         rcases List.mem_append.1 hx with q | q
         · exact List.mem_append.2 (.inl (hab x q))
         · exact List.mem_append.2 (.inr q))
       rw [List.length_append,List.length_append,BB] at this
       omega
 have:=key l acc [] (fun x hx=>by simp at hx)
 simpa using this
def kx (m:List (Int × Bool))(l:List (Int × Int)):List (Int × Bool):=l.foldl (fun a s=>Be a s.1 true) m
theorem WW:∀ (l:List (Int × Int)) {m:List (Int × Bool)} {lv:List Int},SM m lv->SM (kx m l) (Cp lv l)
 | [],m,lv,h=>h
 | s :: l,m,lv,h=>by
   have e:Cp lv (s :: l)=Cp (if s.1 ∈ lv then lv else lv ++ [s.1]) l:=rfl
   rw [e]
   refine WW l (h.put s.1 fun x=>?_)
   split
   · rename_i hm
     constructor
     · exact .inr
     · rintro (rfl | q)
       · exact hm
       · exact q
   · rw [List.mem_append,List.mem_singleton]
     exact ⟨fun q=>q.symm,fun q=>q.symm⟩
theorem Wh:∀ (q:List (Int × Bool)) {a:List (Int × Bool)} {l:List Int},SM a l->∃ l', SM (q.foldl (fun a e=>Be a e.1 true) a) l' /\ ∀ x,x ∈ l' ↔ x ∈ l\/x ∈ q.map (·.1)
 | [],a,l,h=>⟨l,h,fun x=>by simp⟩
 | e :: q,a,l,h=>by
   obtain ⟨l', h1,h2⟩:=Wh q (h.put e.1 (l':=e.1 :: l) fun x=>by rw [List.mem_cons])
   refine ⟨l', h1,fun x=>?_⟩
   rw [h2,List.mem_cons,List.map_cons,List.mem_cons]
   constructor
   · rintro ((a | a) | a)
     · exact .inr (.inl a)
     · exact .inl a
     · exact .inr (.inr a)
   · rintro (a | a | a)
     · exact .inl (.inr a)
     · exact .inl (.inl a)
     · exact .inr a
theorem Tq (K:Nat) (hK:2000000<=K) (a b c:Int) (w:List PBatch1.Wr) (sp:List (Int × Int)) (hs:sp.length<=1000) {m:List (Int × Bool)} {lv:List Int} (hm:SM m lv) (hl:m.length<=1000):lQ K a b c w sp m=some (m,kx m sp):=by
 unfold lQ
 refine FN (f:=cM K) (fun rest (a:List (Int × Bool))=>(a,(m,rest))) (fun a=>(a,m)) (fun a (e:Int × Bool)=>Be a e.1 true) (fun _ _=>True) ?_ ?_ (fun _ _ _ _=>trivial) _ _ m.length K m [] rfl (by omega) trivial fun q hq=>?_
 · intro a Kin Kout; rfl
 · intro rest a Kin Kout hne _
   unfold cM
   cases rest with
   | nil=>exact absurd rfl hne
   | cons e r=>rfl
 · obtain ⟨l', h1,h2⟩:=Wh q SM.nil
   have e:q.foldl (fun a (e:Int × Bool)=>Be a e.1 true) []=m:=h1.uniq hm fun x=>by
     rw [h2,<- hm.mem x]
     have:=(hq.map (·.1)).mem_iff (a:=x)
     rw [this]
     simp
   rw [e]
   suffices hL:AB (Qo K sp) K (0,m)=some (kx m sp) by rw [hL]; rfl
   refine Ag (fun i=>((i:Int),kx m (sp.take i))) sp.length rfl (by omega) (fun i hi=>?_) ?_
   · unfold Qo
     simp only []
     rw [AE (by omega),Bz,List.getElem?_eq_getElem hi,Option.bind_some,Aq (by omega) (by omega),AL hi]
     unfold kx
     rw [List.foldl_append]; rfl
   · unfold Qo
     simp only []
     rw [AF (by omega),List.take_length]
def may (R want:Int)(lv:List Int)(h:Hd):Bool:=h.1 == want && decide (((Cp lv h.2.2.2.2).length:Int) < R)
def Kw (R want:Int)(lv:List Int)(A:List Hd):Option Hd:=A.reverse.find? (may R want lv)
theorem UH (R want:Int)(lv:List Int)(A:List Hd){i:Nat}(hi:i < A.length):Kw R want lv (A.take (i+1))=cond (may R want lv A[i]) (some A[i]) (Kw R want lv (A.take i)):=by
 unfold Kw
 rw [AL hi,List.reverse_append,List.reverse_singleton,List.singleton_append,List.find?_cons]
 cases may R want lv A[i] <;> rfl
theorem Jn (K:Nat)(hK:2000000<=K)(p n r want:Int){h:Hd}(hh:cS r h){m:List (Int × Bool)}{lv:List Int}(hm:SM m lv)(hn:lv.Nodup)(hl:lv.length<=100):pO K h.1 h.2.1 h.2.2.1 h.2.2.2.1 h.2.2.2.2 want p n r m=some (may r want lv h,m):=by
 unfold pO may
 have hml:=hm.len hn
 have hsp:=hh.sp
 by_cases he:h.1=want
 · rw [beq_iff_eq.2 he,cond_true,Bool.true_and,Tq K hK _ _ _ _ _ (by omega) hm (by omega),Option.bind_some,(WW h.2.2.2.2 hm).len (HB _ hn)]
 · rw [beq_eq_false_iff_ne.2 he,cond_false,Bool.false_and]
theorem bL (K:Nat) (hK:2000000<=K) (p n r want:Int) {A:List Hd} (hA:∀ h ∈ A,cS r h) (hAl:A.length<=1000) {m:List (Int × Bool)} {lv:List Int} (hm:SM m lv) (hn:lv.Nodup) (hl:lv.length<=100) :
   mr K A want p n r m=some (match Kw r want lv A with | some h=>(h.1,h.2.1,h.2.2.1,h.2.2.2.1,h.2.2.2.2,true,m) | none=>(0,0,0,[],[],false,m)):=by
 have go:∀ (i:Nat) (hi:i<=A.length) (K':Nat),i < K' -> AB (TW K A want p n r) K' ((i:Int) - 1,m)=some (match Kw r want lv (A.take i) with | some h=>.inl (h.1,h.2.1,h.2.2.1,h.2.2.2.1,h.2.2.2.2,m) | none=>.inr m):=by
   intro i
   induction i with
   | zero =>
     intro _ K' hK'
     obtain ⟨K', rfl⟩:∃ q,K' = q+1:=⟨K' - 1,by omega⟩
     rw [AK (r:=.inr m)]
     · rfl
     · unfold TW
       simp only []
       rw [AF (by omega)]
   | succ i ih =>
     intro hi K' hK'
     obtain ⟨K', rfl⟩:∃ q,K' = q+1:=⟨K' - 1,by omega⟩
     have hg:A[i]? = some A[i]:=List.getElem?_eq_getElem (by omega)
     have hb:TW K A want p n r (((i+1:Nat):Int) - 1,m)=cond (may r want lv A[i]) (some (.inr (.inl (A[i].1,A[i].2.1,A[i].2.2.1,A[i].2.2.2.1,A[i].2.2.2.2,m)))) (some (.inl ((i:Int) - 1,m))):=by
       unfold TW
       simp only []
       rw [show ((i+1:Nat):Int) - 1=(i:Int) by omega,AE (by omega)]
       simp only [Bz,Int.toNat_natCast,hg,Option.bind_some]
       rw [Jn K hK p n r want (hA _ (List.getElem_mem _)) hm hn hl,Option.bind_some,Aq (by omega) (by omega)]
     rw [UH r want lv A (by omega)]
     cases hmay:may r want lv A[i] with
     | true=>rw [AK (by rw [hb,hmay,cond_true]),cond_true]
     | false=>rw [AU (by rw [hb,hmay,cond_false]),cond_false,ih (by omega) K' (by omega)]
 unfold mr
 rw [Aq (by omega) (by omega),go A.length (Nat.le_refl _) K (by omega),List.take_length,Option.bind_some]
 cases Kw r want lv A <;> rfl
theorem bD (K:Nat) (hK:2000000<=K) (p n r want:Int) {A:List Hd} (hA:∀ h ∈ A,cS r h) (hAl:A.length<=1000) {lv:List Int} (hl:lv.length<=100) :
   pa K p n r A want lv=some (match Kw r want lv A with | some h=>(h.1,h.2.1,h.2.2.1,h.2.2.2.1,h.2.2.2.2,true) | none=>(0,0,0,[],[],false)):=by
 have go:∀ (i:Nat) (hi:i<=A.length) (K':Nat),i < K' -> AB (Tu K r A want lv) K' ((i:Int) - 1)=some (match Kw r want lv (A.take i) with | some h=>.inl (h.1,h.2.1,h.2.2.1,h.2.2.2.1,h.2.2.2.2) | none=>.inr ()):=by
   intro i
   induction i with
   | zero =>
     intro _ K' hK'
     obtain ⟨K', rfl⟩:∃ q,K' = q+1:=⟨K' - 1,by omega⟩
     rw [AK (r:=.inr ())]
     · rfl
     · unfold Tu
       rw [AF (by omega)]
   | succ i ih =>
     intro hi K' hK'
     obtain ⟨K', rfl⟩:∃ q,K' = q+1:=⟨K' - 1,by omega⟩
     have hg:A[i]? = some A[i]:=List.getElem?_eq_getElem (by omega)
     have hb:Tu K r A want lv (((i+1:Nat):Int) - 1)=cond (may r want lv A[i]) (some (.inr (.inl (A[i].1,A[i].2.1,A[i].2.2.1,A[i].2.2.2.1,A[i].2.2.2.2)))) (some (.inl ((i:Int) - 1))):=by
       have hsp:=(hA _ (List.getElem_mem (show i < A.length by omega))).sp
       unfold Tu may
       rw [show ((i+1:Nat):Int) - 1=(i:Int) by omega,AE (by omega)]
       simp only [Bz,Int.toNat_natCast,hg,Option.bind_some]
       by_cases he:A[i].1=want
       · rw [beq_iff_eq.2 he,cond_true,Bool.true_and,Ff K hK _ _ _ _ _ _ (by omega) (by omega),Option.bind_some,Option.bind_some,Aq (by omega) (by omega)]
       · rw [beq_eq_false_iff_ne.2 he,cond_false,Bool.false_and,Option.bind_some,Aq (by omega) (by omega)]
     rw [UH r want lv A (by omega)]
     cases hmay:may r want lv A[i] with
     | true=>rw [AK (by rw [hb,hmay,cond_true]),cond_true]
     | false=>rw [AU (by rw [hb,hmay,cond_false]),cond_false,ih (by omega) K' (by omega)]
 unfold pa
 rw [Aq (by omega) (by omega),go A.length (Nat.le_refl _) K (by omega),List.take_length,Option.bind_some]
 cases Kw r want lv A <;> rfl
end Go.Proofs.YthoimblkpcikdaaGreatDoor.PKeep1
namespace Go.Proofs.YthoimblkpcikdaaGreatDoor.PKeep2
open Go.RowKit Go.Proofs.YthoimblkpcikdaaGreatDoor.Mc Go.Proofs.YthoimblkpcikdaaGreatDoor.N Go.Proofs.YthoimblkpcikdaaGreatDoor.Plain Go.Proofs.YthoimblkpcikdaaGreatDoor.PRange Go.Proofs.YthoimblkpcikdaaGreatDoor.PWalk Go.Proofs.YthoimblkpcikdaaGreatDoor.PWalk2 Go.Proofs.YthoimblkpcikdaaGreatDoor.PRev Go.Proofs.YthoimblkpcikdaaGreatDoor.PPiece Go.Proofs.YthoimblkpcikdaaGreatDoor.PGrp Go.Proofs.YthoimblkpcikdaaGreatDoor.PGrp3 Go.Proofs.YthoimblkpcikdaaGreatDoor.PGrp4 Go.Proofs.YthoimblkpcikdaaGreatDoor.PKeep1
open Go.Proofs.YthoimblkpcikdaaGreatDoor.PJoin (Fr AL)
open Go.Proofs.YthoimblkpcikdaaGreatDoor.PureKeys (AU AK)
open Go.Proofs.YthoimblkpcikdaaGreatDoor.PPut (SM)
set_option linter.unusedSimpArgs false
set_option linter.unusedVariables false
def top (A:List Hd):Int:=A.foldl (fun t h=>mx t h.1) 0
theorem GL (A:List Hd){i:Nat}(hi:i < A.length):top (A.take (i+1))=mx (top (A.take i)) A[i].1:=by unfold top; rw [AL hi,List.foldl_append]; rfl
theorem dg (K:Nat)(hK:2000000<=K)(A:List Hd)(hA:A.length<=1000):AB (OW K A) K (0,0)=some (top A):=by
 refine Ag (fun i=>(top (A.take i),(i:Int))) A.length rfl (by omega) (fun i hi=>?_) ?_
 · unfold OW
   simp only []
   rw [AE (by omega)]
   simp only [Bz,Int.toNat_natCast,List.getElem?_eq_getElem hi,Option.bind_some]
   rw [Aq (by omega) (by omega),GL A hi]
   rfl
 · unfold OW
   simp only []
   rw [AF (by omega),List.take_length]
def GI (A:List Hd)(i:Nat)(b:Int):Prop:=(i=0/\b = -1)\/∃ (g:Nat) (h:Hd),b=(g:Int)/\A[g]? = some h/\h.1=top (A.take i)/\(A.take i).reverse.find? (fun q=>q.1 == top (A.take i))=some h
theorem fI (K:Nat) (hK:2000000<=K) (A:List Hd) (hA:A.length<=1000) (h1:∀ h ∈ A,0 < h.1):∃ b,AB (Xd K A) K (-1,0)=some b/\GI A A.length b:=by
 refine GQ (fun i (z:Int × Int)=>z.2=(i:Int)/\GI A i z.1) (fun b=>GI A A.length b) A.length ⟨rfl,.inl ⟨rfl,rfl⟩⟩ (by omega) ?_ ?_
 · rintro i ⟨b,j⟩ hi ⟨hj,hb⟩
   simp only at hj hb
   subst hj
   have hg:A[i]? = some A[i]:=List.getElem?_eq_getElem hi
   have hp:=h1 _ (List.getElem_mem hi)
   have hw:IntKind.wrap .i64 ((i:Int)+1)=((i+1:Nat):Int):=by rw [Aq (by omega) (by omega)]; rfl
   have hrev:(A.take (i+1)).reverse=A[i] :: (A.take i).reverse:=by rw [AL hi,List.reverse_append]; rfl
   unfold Xd
   simp only [Bz,hg,Option.bind_some,hw]
   rw [AE (by omega)]
   rcases hb with ⟨rfl,rfl⟩ | ⟨g,h,rfl,hgh,hht,hfi⟩
   · refine ⟨_,rfl,rfl,.inr ⟨0,A[0],rfl,hg,?_,?_⟩⟩
     · rw [GL A hi]
       show A[0].1=mx 0 A[0].1
       unfold mx
       rw [if_pos (by omega)]
     · rw [hrev,List.find?_cons,GL A hi]
       have:(A[0].1 == mx (top (A.take 0)) A[0].1)=true:=by
         rw [beq_iff_eq]
         show A[0].1=mx 0 A[0].1
         unfold mx
         rw [if_pos (by omega)]
       rw [this]
   · rw [AF (by omega)]
     simp only [Bz,hgh,Option.bind_some]
     by_cases hc:h.1<=A[i].1
     · rw [decide_eq_true hc]
       have e:top (A.take (i+1))=A[i].1:=by
         rw [GL A hi,<- hht]
         unfold mx
         split
         · rfl
         · omega
       refine ⟨_,rfl,rfl,.inr ⟨i,A[i],rfl,hg,e.symm,?_⟩⟩
       rw [hrev,List.find?_cons,e,beq_self_eq_true]
     · rw [decide_eq_false hc]
       have e:top (A.take (i+1))=top (A.take i):=by
         rw [GL A hi,<- hht]
         unfold mx
         rw [if_neg (by omega)]
       refine ⟨_,rfl,rfl,.inr ⟨g,h,rfl,hgh,by rw [e]; exact hht,?_⟩⟩
       rw [hrev,List.find?_cons,e]
       have:(A[i].1 == top (A.take i))=false:=by rw [beq_eq_false_iff_ne]; omega
       rw [this]
       exact hfi
 · rintro ⟨b,j⟩ ⟨hj,hb⟩
   simp only at hj hb
   subst hj
   unfold Xd
   simp only []
   rw [AF (by omega)]
   exact ⟨_,rfl,hb⟩
theorem find_congr {α:Type}{p q:α->Bool}:∀ {l:List α},(∀ a ∈ l,p a=q a)->l.find? p=l.find? q
 | [],_=>rfl
 | x :: l,h=>by
   rw [List.find?_cons,List.find?_cons,h x (List.mem_cons_self ..),find_congr fun a ha=>h a (List.mem_cons_of_mem _ ha)]
theorem JE (K:Nat) (hK:2000000<=K) {r:Int} {A:List Hd} (hA:∀ h ∈ A,cS r h) (hAl:A.length<=1000) {lv:List Int} (hl:lv.length<=1) :
   (A=[]/\top A=0/\lS K A=some (0,0,0,[],[],false))\/∃ h,h ∈ A/\h.1=top A/\Kw r (top A) lv A=some h/\lS K A=some (h.1,h.2.1,h.2.2.1,h.2.2.2.1,h.2.2.2.2,true):=by
 have h1:∀ h ∈ A,0 < h.1:=fun h hh=>by have:=(hA h hh).pv; omega
 obtain ⟨b,hb,hg⟩:=fI K hK A hAl h1
 unfold lS
 rw [hb,Option.bind_some]
 rcases hg with ⟨h0,rfl⟩ | ⟨g,h,rfl,hgh,hht,hfi⟩
 · have:A=[]:=List.eq_nil_of_length_eq_zero h0
   subst this
   exact .inl ⟨rfl,rfl,rfl⟩
 · rw [List.take_length] at hht hfi
   refine .inr ⟨h,List.mem_of_getElem? hgh,hht,?_,?_⟩
   · unfold Kw
     rw [<- hfi]
     refine find_congr fun q hq=>?_
     unfold may
     have hm:q ∈ A:=List.mem_reverse.1 hq
     have h2:=(hA q hm).rg
     have h3:=fW q.2.2.2.2 lv
     rw [decide_eq_true (by omega),Bool.and_true]
   · rw [AF (by omega),Bz,hgh]; rfl
def ch (R:Int)(A:List Hd):Nat->Int->Int->Int->List Hd->List Int->Int × Int × List Hd × List Int
 | 0,fl,fr,_,gs,lv=>(fl,fr,gs,lv)
 | n+1,fl,fr,w,gs,lv=>if fl < w then (match Kw R w lv A with | none=>(w,mx fr w,gs,lv) | some h=>ch R A n fl fr h.2.1 (gs ++ [h]) (Cp lv h.2.2.2.2)) else (fl,fr,gs,lv)
theorem Eh {R w:Int}{lv:List Int}{A:List Hd}{h:Hd}(hf:Kw R w lv A=some h):h ∈ A/\h.1=w/\((Cp lv h.2.2.2.2).length:Int) < R:=by
 unfold Kw at hf
 have h1:=List.find?_some hf
 unfold may at h1
 rw [Bool.and_eq_true,beq_iff_eq] at h1
 exact ⟨List.mem_reverse.1 (List.mem_of_find?_eq_some hf),h1.1,of_decide_eq_true h1.2⟩
def GW (A:List Hd)(w:Int):Nat:=A.countP fun h=>decide (h.1<=w)
theorem Jw:∀ (A:List Hd) {u w:Int},u<=w->GW A u<=GW A w:=fun A u w h=>List.countP_mono_left fun q _ hq=>by
 have:=of_decide_eq_true hq
 exact decide_eq_true (by omega)
theorem RL:∀ {A:List Hd} {h:Hd} {u w:Int},h ∈ A->u < h.1->h.1<=w->GW A u < GW A w
 | [],h,u,w,hh,_,_=>by simp at hh
 | q :: A,h,u,w,hh,h1,h2=>by
   unfold GW
   rw [List.countP_cons,List.countP_cons]
   have hle:=Jw A (show u<=w by omega)
   unfold GW at hle
   rcases List.mem_cons.1 hh with rfl | hh
   · rw [if_neg (by rw [decide_eq_true_eq]; omega),if_pos (by rw [decide_eq_true_eq]; omega)]
     omega
   · have:=RL hh h1 h2
     unfold GW at this
     by_cases hu:q.1<=u
     · rw [if_pos (decide_eq_true hu),if_pos (by rw [decide_eq_true_eq]; omega)]
       omega
     · rw [if_neg (by rw [decide_eq_true_eq]; exact hu)]
       omega
theorem MJ (A:List Hd)(w:Int):GW A w<=A.length:=List.countP_le_length
theorem PW (K:Nat) (hK:2000000<=K) {p n r:Int} (hr:r<=12) {A:List Hd} (hA:∀ h ∈ A,cS r h) (hAl:A.length<=1000) (fl fr fg:Int) (hfl:0<=fl):∀ (N:Nat) (w:Int) (gs:List Hd) (m:List (Int × Bool)) (lv:List Int) (K':Nat),GW A w < N->N < K' -> gs.length+N<=1000000->SM m lv->lv.Nodup->lv.length<=100 ->
   ∃ m', SM m' (ch r A N fl fr w gs lv).2.2.2/\AB (Ju K p n r A) K' (fl,fr,fg,w,gs,m)=some ((ch r A N fl fr w gs lv).1,(ch r A N fl fr w gs lv).2.1,fg,(ch r A N fl fr w gs lv).2.2.1,m'):=by
 intro N
 induction N with
 | zero=>intro w gs m lv K' hw; omega
 | succ N ih =>
   intro w gs m lv K' hw hK' hg hm hn hl
   obtain ⟨K', rfl⟩:∃ q,K' = q+1:=⟨K' - 1,by omega⟩
   unfold ch
   by_cases hc:fl < w
   · rw [if_pos hc]
     have hlast:=bL K hK p n r w hA hAl hm hn hl
     have hstep:Ju K p n r A (fl,fr,fg,w,gs,m)=match Kw r w lv A with | none=>some (.inr (w,mx fr w,fg,gs,m)) | some h=>some (.inl (fl,fr,fg,h.2.1,gs ++ [h],kx m h.2.2.2.2)):=by
       unfold Ju
       simp only []
       rw [AE hc,hlast,Option.bind_some]
       cases hf:Kw r w lv A with
       | none=>rfl
       | some h =>
         have hml:=hm.len hn
         have hsp:=(hA h (Eh hf).1).sp
         simp only [Bool.not_true,cond_false]
         rw [BB,Ak (by omega),Tq K hK _ _ _ _ _ (by omega) hm (by omega)]
         rfl
     cases hf:Kw r w lv A with
     | none =>
       rw [hf] at hstep
       exact ⟨m,hm,AK hstep⟩
     | some h =>
       rw [hf] at hstep
       obtain ⟨hmem,Oq,hlt⟩:=Eh hf
       have hh:=hA h hmem
       have hpv:=hh.pv
       rw [AU hstep]
       have hcl:=RL (u:=h.2.1) (w:=w) hmem (by omega) (by omega)
       exact ih h.2.1 (gs ++ [h]) (kx m h.2.2.2.2) (Cp lv h.2.2.2.2) K' (by omega) (by omega) (by rw [List.length_append,BB]; omega) (WW _ hm) (HB _ hn) (by omega)
   · rw [if_neg hc]
     refine ⟨m,hm,AK ?_⟩
     unfold Ju
     simp only []
     rw [AF hc]
theorem JT (K:Nat) (hK:2000000<=K) {p n r:Int} (hr:r<=12) {A:List Hd} (hA:∀ h ∈ A,cS r h) (hAl:A.length<=1000) (fl fr fg:Int) (hfl:0<=fl):∀ (N:Nat) (h:Hd) (gs:List Hd) (lv:List Int) (K':Nat),h ∈ A->fl < h.1->GW A h.2.1 < N->N+2<=K' -> gs.length+N+1<=1000000->lv.length<=100->((Cp lv h.2.2.2.2).length:Int) < r ->
   ∃ q1 q2 q3 q4 q5,AB (Fc K A) K' (lv,true,p,n,r,fl,fr,fg,h.1,h.2.1,h.2.2.1,h.2.2.2.1,h.2.2.2.2,gs.reverse)=some ((ch r A N fl fr h.2.1 (gs ++ [h]) (Cp lv h.2.2.2.2)).2.2.2,p,n,r,(ch r A N fl fr h.2.1 (gs ++ [h]) (Cp lv h.2.2.2.2)).1,(ch r A N fl fr h.2.1 (gs ++ [h]) (Cp lv h.2.2.2.2)).2.1,fg,q1,q2,q3,q4,q5,(ch r A N fl fr h.2.1 (gs ++ [h]) (Cp lv h.2.2.2.2)).2.2.1.reverse):=by
 intro N
 induction N with
 | zero=>intro h gs lv K' hh hlt hw; omega
 | succ N ih =>
   intro h gs lv K' hh hlt hw hK' hg hl hrg
   obtain ⟨K', rfl⟩:∃ q,K' = q+1:=⟨K' - 1,by omega⟩
   have hsp:=(hA h hh).sp
   have hpv:=(hA h hh).pv
   unfold ch
   by_cases hc:fl < h.2.1
   · rw [if_pos hc]
     have hfind:=bD K hK p n r h.2.1 hA hAl (lv:=Cp lv h.2.2.2.2) (by omega)
     have hstep:Fc K A (lv,true,p,n,r,fl,fr,fg,h.1,h.2.1,h.2.2.1,h.2.2.2.1,h.2.2.2.2,gs.reverse)=match Kw r h.2.1 (Cp lv h.2.2.2.2) A with | none=>some (.inl (Cp lv h.2.2.2.2,false,p,n,r,h.2.1,mx fr h.2.1,fg,0,0,0,[],[],(gs ++ [h]).reverse)) | some g=>some (.inl (Cp lv h.2.2.2.2,true,p,n,r,fl,fr,fg,g.1,g.2.1,g.2.2.1,g.2.2.2.1,g.2.2.2.2,(gs ++ [h]).reverse)):=by
       unfold Fc
       simp only [cond_true,Option.bind_some]
       rw [AE hlt,Ff K hK _ _ _ _ _ _ (by omega) (by omega),Option.bind_some,BB,Ak (by rw [List.length_reverse]; omega),AF (by omega),hfind,Option.bind_some,List.reverse_append]
       cases Kw r h.2.1 (Cp lv h.2.2.2.2) A <;> rfl
     cases hf:Kw r h.2.1 (Cp lv h.2.2.2.2) A with
     | none =>
       rw [hf] at hstep
       rw [AU hstep]
       obtain ⟨K', rfl⟩:∃ q,K' = q+1:=⟨K' - 1,by omega⟩
       refine ⟨0,0,0,[],[],AK ?_⟩
       · unfold Fc
         simp only [cond_false,Option.bind_some]
     | some g =>
       rw [hf] at hstep
       rw [AU hstep]
       obtain ⟨hmem,Oq,hlt2⟩:=Eh hf
       have hpv2:=(hA g hmem).pv
       have hcl:=RL (u:=g.2.1) (w:=h.2.1) hmem (by omega) (by omega)
       exact ih g (gs ++ [h]) (Cp lv h.2.2.2.2) K' hmem (by omega) (by omega) (by omega) (by rw [List.length_append,BB]; omega) (by omega) hlt2
   · rw [if_neg hc]
     refine ⟨h.1,h.2.1,h.2.2.1,h.2.2.2.1,h.2.2.2.2,AK ?_⟩
     · unfold Fc
       simp only [cond_true,Option.bind_some]
       rw [AE hlt,Ff K hK _ _ _ _ _ _ (by omega) (by omega),Option.bind_some,BB,Ak (by rw [List.length_reverse]; omega),AE (by omega),List.reverse_append]
       rfl
end Go.Proofs.YthoimblkpcikdaaGreatDoor.PKeep2
namespace Go.Proofs.YthoimblkpcikdaaGreatDoor.PKeep3
open Go.RowKit Go.Proofs.YthoimblkpcikdaaGreatDoor.Mc Go.Proofs.YthoimblkpcikdaaGreatDoor.N Go.Proofs.YthoimblkpcikdaaGreatDoor.Plain Go.Proofs.YthoimblkpcikdaaGreatDoor.PRange Go.Proofs.YthoimblkpcikdaaGreatDoor.PWalk Go.Proofs.YthoimblkpcikdaaGreatDoor.PWalk2 Go.Proofs.YthoimblkpcikdaaGreatDoor.PRev Go.Proofs.YthoimblkpcikdaaGreatDoor.PPiece Go.Proofs.YthoimblkpcikdaaGreatDoor.PGrp Go.Proofs.YthoimblkpcikdaaGreatDoor.PGrp3 Go.Proofs.YthoimblkpcikdaaGreatDoor.PGrp4 Go.Proofs.YthoimblkpcikdaaGreatDoor.PKeep1 Go.Proofs.YthoimblkpcikdaaGreatDoor.PKeep2 Go.Proofs.YthoimblkpcikdaaGreatDoor.PFlo
open Go.Proofs.YthoimblkpcikdaaGreatDoor.PJoin (Fr AL)
open Go.Proofs.YthoimblkpcikdaaGreatDoor.PureKeys (AU AK)
open Go.Proofs.YthoimblkpcikdaaGreatDoor.PPut (SM SK)
open Go.Proofs.YthoimblkpcikdaaGreatDoor.PCut (Ah)
set_option linter.unusedSimpArgs false
set_option linter.unusedVariables false
theorem OI:∀ {l l':List Int},l.Pairwise (· < ·)->l'.Pairwise (· < ·)->(∀ x,x ∈ l ↔ x ∈ l')->l=l'
 | [],[],_,_,_=>rfl
 | [],y :: m', _,_,h=>absurd ((h y).2 (List.mem_cons_self ..)) (by simp)
 | x :: m,[],_,_,h=>absurd ((h x).1 (List.mem_cons_self ..)) (by simp)
 | x :: m,y :: m', h1,h2,h=>by
   have hx:=List.pairwise_cons.1 h1
   have hy:=List.pairwise_cons.1 h2
   have e:x=y:=by
     rcases List.mem_cons.1 ((h x).1 (List.mem_cons_self ..)) with q | q
     · exact q
     · rcases List.mem_cons.1 ((h y).2 (List.mem_cons_self ..)) with q2 | q2
       · exact q2.symm
       · have a:=hy.1 x q
         have b:=hx.1 y q2
         omega
   subst e
   rw [OI hx.2 hy.2 fun e=>?_]
   constructor
   · intro he
     rcases List.mem_cons.1 ((h e).1 (List.mem_cons_of_mem _ he)) with q | q
     · have:=hx.1 e he
       omega
     · exact q
   · intro he
     rcases List.mem_cons.1 ((h e).2 (List.mem_cons_of_mem _ he)) with q | q
     · have:=hy.1 e he
       omega
     · exact q
theorem dn {m q:List (Int × Bool)}(h:SK m)(hq:q.Perm m):(q.map (·.1)).mergeSort (fun x y=>decide (x<=y))=m.map (·.1):=by
 have hs:((q.map (·.1)).mergeSort (fun x y=>decide (x<=y))).Pairwise fun x y=>decide (x<=y)=true:=List.pairwise_mergeSort (fun a b c h1 h2=>by
   have:=of_decide_eq_true h1
   have:=of_decide_eq_true h2
   exact decide_eq_true (by omega)) (fun a b=>by
   rcases Int.le_total a b with h | h
   · rw [decide_eq_true h]; rfl
   · rw [decide_eq_true h,Bool.or_true]) _
 have hp:((q.map (·.1)).mergeSort (fun x y=>decide (x<=y))).Perm (m.map (·.1)):=(List.mergeSort_perm _ _).trans (hq.map _)
 have hm:(m.map (·.1)).Pairwise (· < ·):=List.pairwise_map.2 h
 have hn:((q.map (·.1)).mergeSort (fun x y=>decide (x<=y))).Nodup:=hp.nodup_iff.2 (hm.imp fun {a b} q=>by omega)
 refine OI ?_ hm fun x=>hp.mem_iff
 refine (hs.and hn).imp fun {a b} q=>?_
 have:=of_decide_eq_true q.1
 have:=q.2
 omega
def Od (lv:List Int)(n:Nat):List Int:=((List.range n).filter fun i:Nat=>decide ((i:Int) ∈ lv)).map fun i:Nat=>(i:Int)
theorem ao (lv:List Int)(n:Nat):Od lv (n+1)=Od lv n ++ cond (decide ((n:Int) ∈ lv)) [(n:Int)] []:=by
 unfold Od
 rw [List.range_succ,List.filter_append,List.map_append]
 congr 1
 rw [List.filter_cons]
 by_cases h:(n:Int) ∈ lv
 · rw [if_pos (decide_eq_true h),decide_eq_true h]; rfl
 · rw [if_neg (fun q=>h (of_decide_eq_true q)),decide_eq_false h]; rfl
theorem RU (lv:List Int)(n:Nat):(Od lv n).length<=n:=by
 unfold Od
 rw [List.length_map]
 have:=List.length_filter_le (fun i:Nat=>decide ((i:Int) ∈ lv)) (List.range n)
 rwa [List.length_range] at this
theorem eX (lv:List Int)(n:Nat):(Od lv n).Pairwise (· < ·):=by
 unfold Od
 rw [List.pairwise_map]
 exact (List.pairwise_lt_range.filter _).imp fun {a b} q=>by omega
theorem fP (lv:List Int)(n:Nat)(x:Int):x ∈ Od lv n ↔ 0<=x/\x < (n:Int)/\x ∈ lv:=by
 unfold Od
 rw [List.mem_map]
 constructor
 · rintro ⟨i,hi,rfl⟩
   rw [List.mem_filter,List.mem_range] at hi
   exact ⟨by omega,by omega,of_decide_eq_true hi.2⟩
 · rintro ⟨h1,h2,h3⟩
   refine ⟨x.toNat,?_,by omega⟩
   rw [List.mem_filter,List.mem_range]
   exact ⟨by omega,decide_eq_true (by rw [show ((x.toNat:Nat):Int)=x by omega]; exact h3)⟩
theorem Zy {m:List (Int × Bool)}{lv:List Int}(h:SM m lv){n:Nat}(hb:∀ x ∈ lv,0<=x/\x < (n:Int)):m.map (·.1)=Od lv n:=by
 refine OI (List.pairwise_map.2 h.sk) (eX lv n) fun x=>?_
 rw [h.mem,fP]
 exact ⟨fun q=>⟨(hb x q).1,(hb x q).2,q⟩,fun q=>q.2.2⟩
def Fy (fl:Int)(gs:List Hd):Int:=match gs[gs.length - 1]? with | some h=>mx fl h.1 | none=>fl
def HK (s:FS):List Int:=cond s.2.1 [s.1] []
def kept (r:Int)(A:List Hd)(L:List Pl)(N:Nat):Int × Int × Int × List Hd × List Int × Int × Int :=
 ((ch r A N (BI (fb L)).2.2.1 (BI (fb L)).2.2.2.2 (top A) [] (HK (BI (fb L)))).1,
  (ch r A N (BI (fb L)).2.2.1 (BI (fb L)).2.2.2.2 (top A) [] (HK (BI (fb L)))).2.1,
  (BI (fb L)).2.2.2.1,
  (ch r A N (BI (fb L)).2.2.1 (BI (fb L)).2.2.2.2 (top A) [] (HK (BI (fb L)))).2.2.1.reverse,
  Od (ch r A N (BI (fb L)).2.2.1 (BI (fb L)).2.2.2.2 (top A) [] (HK (BI (fb L)))).2.2.2 r.toNat,
  Fy (ch r A N (BI (fb L)).2.2.1 (BI (fb L)).2.2.2.2 (top A) [] (HK (BI (fb L)))).1 (ch r A N (BI (fb L)).2.2.1 (BI (fb L)).2.2.2.2 (top A) [] (HK (BI (fb L)))).2.2.1.reverse,
  IntKind.wrap .u32 (L.foldl (LY (ch r A N (BI (fb L)).2.2.1 (BI (fb L)).2.2.2.2 (top A) [] (HK (BI (fb L)))).2.2.2) (Fy (ch r A N (BI (fb L)).2.2.1 (BI (fb L)).2.2.2.2 (top A) [] (HK (BI (fb L)))).1 (ch r A N (BI (fb L)).2.2.1 (BI (fb L)).2.2.2.2 (top A) [] (HK (BI (fb L)))).2.2.1.reverse)+1))
structure UI (p n r:Int)(x W:List Rg):Prop where
 ri:Ah p n r
 rn:RN x
 xl:x.length<=1000
 ws:WS x W
 wo:Xf r (n - 1) W
 vd:Vd (flat W)
 hd:∀ q ∈ flat W,q.1 ≠ 1
 rg:∀ q ∈ flat W,0<=ZO q/\ZO q < r
 xe:∀ f ∈ x,0<=f.2.1
 xf:∀ f ∈ x,f.2.2.1.length<=1000
noncomputable abbrev all (n r:Int)(W:List Rg):List Hd:=DI r (n - 1) (flat W) (flat W).length
theorem UI.Cc {p n r:Int}{x W:List Rg}(d:UI p n r x W):∀ h ∈ all n r W,cS r h:=fun h hh=>ki d.wo d.vd hh
theorem jf {R S:Int} {L:List Pl} {t:Nat} {q:Hd} (hq:Pm R S L t=some q):∀ s ∈ q.2.2.2.2,∃ p ∈ L,MF p=s:=by
 unfold Pm at hq
 cases hp:L[t]? with
 | none=>rw [hp] at hq; cases hq
 | some p =>
   rw [hp] at hq
   simp only [] at hq
   split at hq
   · have e1:=(Option.some.inj hq).symm
     subst e1
     intro s hs
     obtain ⟨p', hp', rfl⟩:=List.mem_map.1 hs
     exact ⟨p', MC hp', rfl⟩
   · cases hq
theorem iZ {R S:Int}{L:List Pl}{t:Nat}{q:Hd}(hq:q ∈ DI R S L t):∀ s ∈ q.2.2.2.2,∃ p ∈ L,MF p=s:=by
 unfold DI at hq
 obtain ⟨t', _,h1⟩:=List.mem_filterMap.1 hq
 exact jf h1
theorem hY {R:Int} {A:List Hd}:∀ (N:Nat) (fl fr w:Int) (gs:List Hd) (lv:List Int) (x:Int),x ∈ (ch R A N fl fr w gs lv).2.2.2->x ∈ lv\/∃ h ∈ A,∃ s ∈ h.2.2.2.2,s.1=x
 | 0,fl,fr,w,gs,lv,x,h=>.inl h
 | N + 1,fl,fr,w,gs,lv,x,h=>by
   unfold ch at h
   split at h
   · cases hf:Kw R w lv A with
     | none=>rw [hf] at h; exact .inl h
     | some g =>
       rw [hf] at h
       rcases hY N _ _ _ _ _ x h with h1 | h1
       · rcases (Qv x _ _).1 h1 with h2 | ⟨s,hs,h2⟩
         · exact .inl h2
         · exact .inr ⟨g,(Eh hf).1,s,hs,h2⟩
       · exact .inr h1
   · exact .inl h
theorem kI (L:List Pl):∀ (o:Option Pl) (q:Pl),L.foldl Hk o=some q->o=some q\/(q ∈ L/\q.1=4):=by
 induction L with
 | nil=>intro o q h; exact .inl h
 | cons p L ih =>
   intro o q h
   rcases ih _ _ h with h1 | h1
   · unfold Hk at h1
     split at h1
     · rename_i hc
       cases h1
       exact .inr ⟨List.mem_cons_self ..,hc.1⟩
     · exact .inl h1
   · exact .inr ⟨List.mem_cons_of_mem _ h1.1,h1.2⟩
theorem Lp {L:List Pl}{q:Pl}(h:fb L=some q):q ∈ L/\q.1=4:=by
 rcases kI L none q h with h1 | h1
 · cases h1
 · exact h1
theorem UI.fl {p n r:Int}{x W:List Rg}(d:UI p n r x W):0<=(BI (fb (flat W))).2.2.1/\(BI (fb (flat W))).2.2.1<=2147483647:=by
 cases h:fb (flat W) with
 | none=>exact ⟨by decide,by decide⟩
 | some q =>
   have:=iY (d.vd.ok _ (Lp h).1)
   show 0<=q.2.1/\q.2.1<=2147483647
   have h2:1<=q.2.1/\q.2.1<=2147483647:=this
   omega
theorem UI.HK {p n r:Int}{x W:List Rg}(d:UI p n r x W):∀ y ∈ HK (BI (fb (flat W))),0<=y/\y < r:=by
 cases h:fb (flat W) with
 | none=>intro y hy; simp [PKeep3.HK,BI] at hy
 | some q =>
   intro y hy
   have e:y=ZO q:=by simpa [PKeep3.HK,BI] using hy
   rw [e]
   exact d.rg q (Lp h).1
theorem RS (s:FS):(HK s).length<=1/\(HK s).Nodup:=by
 unfold HK
 cases s.2.1 <;> simp
theorem UI.lv {p n r:Int}{x W:List Rg}(d:UI p n r x W)(N:Nat)(fl fr w:Int)(gs:List Hd):∀ y ∈ (ch r (all n r W) N fl fr w gs (PKeep3.HK (BI (fb (flat W))))).2.2.2,0<=y/\y < ((r.toNat:Nat):Int):=by
 intro y hy
 have hr:((r.toNat:Nat):Int)=r:=by have:=d.ri; unfold Ah at this; omega
 rw [hr]
 rcases hY N _ _ _ _ _ y hy with h1 | ⟨h,hh,s,hs,rfl⟩
 · exact d.HK y h1
 · obtain ⟨q,hq,rfl⟩:=iZ hh s hs
   exact d.rg q hq
theorem Re {p n r:Int}{x W:List Rg}(d:UI p n r x W):(all n r W).length<=200:=Nat.le_trans (RF _ _ _ _) d.vd.len
theorem NA {R:Int} {A:List Hd}:∀ (N:Nat) (fl fr w:Int) (gs:List Hd) (lv:List Int),(ch R A N fl fr w gs lv).2.2.1.length<=gs.length+N
 | 0,fl,fr,w,gs,lv=>Nat.le_refl _
 | N + 1,fl,fr,w,gs,lv=>by
   unfold ch
   split
   · cases hf:Kw R w lv A with
     | none=>simp only []; omega
     | some g =>
       have:=NA N fl fr g.2.1 (gs ++ [g]) (Cp lv g.2.2.2.2) (R:=R) (A:=A)
       rw [List.length_append,BB] at this
       simp only []; omega
   · simp only []; omega
theorem cg {r:Int} (hr:r<=12) (A:List Hd):∀ (N:Nat) (fl fr w:Int) (gs:List Hd) (lv:List Int),lv.length<=100->(ch r A N fl fr w gs lv).2.2.2.length<=100
 | 0,fl,fr,w,gs,lv,h=>h
 | N + 1,fl,fr,w,gs,lv,h=>by
   unfold ch
   split
   · cases hf:Kw r w lv A with
     | none=>exact h
     | some g =>
       have:=(Eh hf).2.2
       exact cg hr A N _ _ _ _ _ (by omega)
   · exact h
end Go.Proofs.YthoimblkpcikdaaGreatDoor.PKeep3
namespace Go.Proofs.YthoimblkpcikdaaGreatDoor.PKeep4
open Go.RowKit Go.Proofs.YthoimblkpcikdaaGreatDoor.Mc Go.Proofs.YthoimblkpcikdaaGreatDoor.N Go.Proofs.YthoimblkpcikdaaGreatDoor.Plain Go.Proofs.YthoimblkpcikdaaGreatDoor.PRange Go.Proofs.YthoimblkpcikdaaGreatDoor.PWalk Go.Proofs.YthoimblkpcikdaaGreatDoor.PWalk2 Go.Proofs.YthoimblkpcikdaaGreatDoor.PRev Go.Proofs.YthoimblkpcikdaaGreatDoor.PPiece Go.Proofs.YthoimblkpcikdaaGreatDoor.PGrp Go.Proofs.YthoimblkpcikdaaGreatDoor.PGrp3 Go.Proofs.YthoimblkpcikdaaGreatDoor.PGrp4 Go.Proofs.YthoimblkpcikdaaGreatDoor.PGrp5 Go.Proofs.YthoimblkpcikdaaGreatDoor.PKeep1 Go.Proofs.YthoimblkpcikdaaGreatDoor.PKeep2 Go.Proofs.YthoimblkpcikdaaGreatDoor.PKeep3 Go.Proofs.YthoimblkpcikdaaGreatDoor.PFlo
open Go.Proofs.YthoimblkpcikdaaGreatDoor.PJoin (Fr AL)
open Go.Proofs.YthoimblkpcikdaaGreatDoor.PureKeys (AU AK)
open Go.Proofs.YthoimblkpcikdaaGreatDoor.PPut (SM SK)
open Go.Proofs.YthoimblkpcikdaaGreatDoor.PCut (Ah)
set_option linter.unusedSimpArgs false
set_option linter.unusedVariables false
theorem Pa (fl:Int)(gs:List Hd)(hg:gs.length<=4000000000)(a b:Int) :
   ((cond (decide (0 < (gs.length:Int))) ((ix gs (IntKind.wrap .i64 ((gs.length:Int) - 1))).bind fun a72=>(gs[(IntKind.wrap .i64 ((gs.length:Int) - 1)).toNat]?).bind fun a73=>some (fl,a,b,(mx fl a73.1))) (some (fl,a,b,fl)):Option (Int × Int × Int × Int)))=some (fl,a,b,Fy fl gs):=by
 unfold Fy
 by_cases h:0 < gs.length
 · have h1:gs.length - 1 < gs.length:=by omega
   rw [AE (by omega),Aq (by omega) (by omega),show (gs.length:Int) - 1=((gs.length - 1:Nat):Int) by omega]
   simp only [Bz,Int.toNat_natCast,List.getElem?_eq_getElem h1,Option.bind_some]
 · rw [AF (by omega),List.getElem?_eq_none (by omega)]
theorem bW (s:FS):SM (cond s.2.1 (Be [] s.1 true) []) (HK s):=by
 unfold HK
 cases s.2.1 with
 | false=>exact SM.nil
 | true=>exact SM.nil.put s.1 fun x=>by simp
theorem Zw (K:Nat) (hK:2000000<=K) {R:Type} (a b c:Int) {m:List (Int × Bool)} {lv:List Int} (hm:SM m lv) (hl:m.length<=1000) (KK:Int × Int × Int × List (Int × Bool) × List Int->Option R) (r:R) (h:∀ q:List (Int × Bool),q.Perm m->KK (a,b,c,m,q.map (·.1))=some r) :
   Ec (MX K) K (a,b,c,(m,m),([]:List Int)) KK=some r:=by
 refine FN (f:=MX K) (fun rest (acc:List Int)=>(a,b,c,(m,rest),acc)) (fun acc=>(a,b,c,m,acc)) (fun acc (e:Int × Bool)=>acc ++ [e.1]) (fun n acc=>acc.length+n<=1000) ?_ ?_ ?_ KK r m.length K m [] rfl (by omega) (by rw [List.length_nil]; omega) fun q hq=>?_
 · intro acc Kin Kout; rfl
 · intro rest acc Kin Kout hne hi
   unfold MX
   cases rest with
   | nil=>exact absurd rfl hne
   | cons e r =>
     simp only [List.isEmpty_cons,cond_false]
     congr 1
     funext j e
     rw [BB,Ak (by omega)]
 · intro n acc e hi
   rw [List.length_append,BB]; omega
 · have e:=Fj (fun e:Int × Bool=>e.1) q []
   rw [e,List.nil_append]
   exact h q hq
noncomputable def tail (K:Nat)(p n r:Int)(W:List Rg):Option (Int × Int × Int × List Hd × List Int × Int × Int) :=
(lT K p n r W).bind fun y4 =>
(lP K p n r W).bind fun y6 =>
((cond y6.2.2.2.2 (
some (Be ([]:List (Int × Bool)) y6.2.2.2.1 true)) (
some ([]:List (Int × Bool))):Option (List (Int × Bool)))).bind fun y7 =>
(AB (OW K y4) K (0,0)).bind fun y23 =>
(AB (Ju K p n r y4) K (y6.1,y6.2.2.1,y6.2.1,y23,([]:List Hd),y7)).bind fun y49 =>
(lU K y49.2.2.2.1).bind fun y51 =>
Ec (MX K) K (y49.1,y49.2.1,y49.2.2.1,(y49.2.2.2.2,y49.2.2.2.2),([]:List Int)) fun y67 =>
(lW K y67.2.2.2.2).bind fun y69 =>
((cond (decide (0 < (y51.length:Int))) (
(ix y51 (IntKind.wrap .i64 ((y51.length:Int) - 1))).bind fun a72 =>
(y51[(IntKind.wrap .i64 ((y51.length:Int) - 1)).toNat]?).bind fun a73 =>
some (y67.1,y67.2.1,y67.2.2.1,(mx y67.1 a73.1))) (
some (y67.1,y67.2.1,y67.2.2.1,y67.1)):Option (Int × Int × Int × Int))).bind fun y74 =>
(lI K p n r W y74.2.2.2 y67.2.2.2.1).bind fun y76 =>
some (y74.1,y74.2.1,y74.2.2.1,y51,y69,y74.2.2.2,y76)
theorem PM (K:Nat)(hK:2000000<=K){p n r:Int}{x W:List Rg}(d:UI p n r x W):tail K p n r W=some (kept r (all n r W) (flat W) 202):=by
 have hri:=d.ri
 unfold Ah at hri
 have ae:=d.wo.wl
 have hfok:∀ i (hi:i < W.length),ef W[i]:=fun i hi=>ef.of d.vd hi
 have h1:∀ i (hi:i < W.length),∀ q ∈ W[i].2.2.1,q.1 ≠ 1:=fun i hi q hq=>by
   obtain ⟨k,hk,rfl⟩:=List.getElem_of_mem hq
   exact d.hd _ (List.mem_of_getElem? (Di W hi hk))
 have hal:(DI r (n - 1) (flat W) (flat W).length).length<=200:=Re d
 have hfl:=d.fl
 have hl0:=RS (BI (fb (flat W)))
 unfold tail kept all
 rw [Uj K hK d.ri d.wo d.vd,Option.bind_some,YG K hK p n r (by omega) hfok,Option.bind_some]
 simp only []
 have hsm0:=bW (BI (fb (flat W)))
 have hm0:((cond (BI (fb (flat W))).2.1 (some (Be ([]:List (Int × Bool)) (BI (fb (flat W))).1 true)) (some ([]:List (Int × Bool))):Option (List (Int × Bool))))=some (cond (BI (fb (flat W))).2.1 (Be [] (BI (fb (flat W))).1 true) []):=by cases (BI (fb (flat W))).2.1 <;> rfl
 rw [hm0,Option.bind_some,dg K hK _ (by omega),Option.bind_some]
 have hcn:=MJ (DI r (n - 1) (flat W) (flat W).length) (top (DI r (n - 1) (flat W) (flat W).length))
 obtain ⟨m', hm', hloop⟩:=PW K hK (by omega) d.Cc (by show (DI r (n - 1) (flat W) (flat W).length).length<=1000; omega) (BI (fb (flat W))).2.2.1 (BI (fb (flat W))).2.2.2.2 (BI (fb (flat W))).2.2.2.1 hfl.1 202 (top (DI r (n - 1) (flat W) (flat W).length)) [] _ _ K (by show GW (DI r (n - 1) (flat W) (flat W).length) _ < 202; omega) (by omega) (by rw [List.length_nil]; omega) hsm0 hl0.2 (by omega)
 unfold all at hm' hloop
 rw [hloop,Option.bind_some]
 have hcl:=NA (R:=r) (A:=DI r (n - 1) (flat W) (flat W).length) 202 (BI (fb (flat W))).2.2.1 (BI (fb (flat W))).2.2.2.2 (top (DI r (n - 1) (flat W) (flat W).length)) [] (HK (BI (fb (flat W))))
 have hlv:=d.lv 202 (BI (fb (flat W))).2.2.1 (BI (fb (flat W))).2.2.2.2 (top (DI r (n - 1) (flat W) (flat W).length)) []
 unfold all at hlv
 generalize ch r (DI r (n - 1) (flat W) (flat W).length) 202 (BI (fb (flat W))).2.2.1 (BI (fb (flat W))).2.2.2.2 (top (DI r (n - 1) (flat W) (flat W).length)) [] (HK (BI (fb (flat W))))=c at hm' hloop hcl hlv
 rw [List.length_nil] at hcl
 simp only []
 rw [bG K hK _ (by omega),Option.bind_some]
 have hmm:=Zy hm' hlv
 have hml:m'.length<=12:=by
   have e:=congrArg List.length hmm
   rw [List.length_map] at e
   have:=RU c.2.2.2 r.toNat
   omega
 refine Zw K hK _ _ _ hm' (by omega) _ _ fun q hq=>?_
 have hql:=hq.length_eq
 have hsort:lW K (q.map (·.1))=some (Od c.2.2.2 r.toNat):=by
   unfold lW Xm
   rw [dn hm'.sk hq,hmm,Ak (by rw [List.length_map]; omega)]
 simp only []
 rw [hsort,Option.bind_some,Pa c.1 c.2.2.1.reverse (by rw [List.length_reverse]; omega),Option.bind_some]
 simp only []
 rw [aX K hK p n r (by omega) hfok h1 hm', Option.bind_some]
theorem UR (K:Nat)(hK:2000000<=K){p n r:Int}{x W:List Rg}(d:UI p n r x W):mE K p n r x=some (kept r (all n r W) (flat W) 202):=by
 rw [<- PM K hK d]
 unfold mE
 rw [YY K hK p n r d.rn (by have:=d.xl; omega) d.ws]
 rfl
theorem Jn (K:Nat)(hK:2000000<=K){p n r:Int}{x W:List Rg}(d:UI p n r x W):Wz K p n r x=some (kept r (all n r W) (flat W) 202):=by
 rw [<- PM K hK d]
 unfold Wz
 rw [Ux K hK p n r d.rn (by have:=d.xl; omega) d.ws]
 rfl
end Go.Proofs.YthoimblkpcikdaaGreatDoor.PKeep4
namespace Go.Proofs.YthoimblkpcikdaaGreatDoor.PKeep5
open Go.RowKit Go.Proofs.YthoimblkpcikdaaGreatDoor.Mc Go.Proofs.YthoimblkpcikdaaGreatDoor.N Go.Proofs.YthoimblkpcikdaaGreatDoor.Plain Go.Proofs.YthoimblkpcikdaaGreatDoor.PRange Go.Proofs.YthoimblkpcikdaaGreatDoor.PWalk Go.Proofs.YthoimblkpcikdaaGreatDoor.PWalk2 Go.Proofs.YthoimblkpcikdaaGreatDoor.PRev Go.Proofs.YthoimblkpcikdaaGreatDoor.PPiece Go.Proofs.YthoimblkpcikdaaGreatDoor.PGrp Go.Proofs.YthoimblkpcikdaaGreatDoor.PGrp3 Go.Proofs.YthoimblkpcikdaaGreatDoor.PGrp4 Go.Proofs.YthoimblkpcikdaaGreatDoor.PGrp5 Go.Proofs.YthoimblkpcikdaaGreatDoor.PKeep1 Go.Proofs.YthoimblkpcikdaaGreatDoor.PKeep2 Go.Proofs.YthoimblkpcikdaaGreatDoor.PKeep3 Go.Proofs.YthoimblkpcikdaaGreatDoor.PKeep4 Go.Proofs.YthoimblkpcikdaaGreatDoor.PFlo
open Go.Proofs.YthoimblkpcikdaaGreatDoor.PJoin (Fr AL Gm)
open Go.Proofs.YthoimblkpcikdaaGreatDoor.PureKeys (AU AK)
open Go.Proofs.YthoimblkpcikdaaGreatDoor.PPut (SM SK)
open Go.Proofs.YthoimblkpcikdaaGreatDoor.PCut (Ah)
set_option linter.unusedSimpArgs false
set_option linter.unusedVariables false
theorem Xj {a b:Int} {t:ByteArray} (h:pr 4 a b t=true):t.size=4/\g4 t 0<=a:=by
 unfold pr at h
 cases hc:(decide (a < 1) || decide (2147483647 < a)) with
 | true=>rw [hc] at h; exact absurd h Bool.false_ne_true
 | false =>
   rw [hc] at h
   have h1:(cond ((t.size:Int) == 4) (decide (g4 t 0<=a)) false)=true:=h
   cases hs:(t.size:Int) == 4 with
   | false=>rw [hs] at h1; exact absurd h1 Bool.false_ne_true
   | true =>
     rw [hs,cond_true] at h1
     rw [beq_iff_eq] at hs
     exact ⟨by omega,of_decide_eq_true h1⟩
abbrev wC:Type:=List Int × Int × Int × Int × Int × Int × Int × Int × Int × Int × List PBatch1.Wr × List (Int × Int) × List Hd
theorem eP (K:Nat)(hK:2000000<=K)(y:wC)(r:Nat)(hr:y.2.2.2.1=(r:Int))(hr2:r<=12)(hl:y.1.length<=1000)(a b c:Int):AB (Qp K y) K (0,a,b,c,[])=some (a,b,c,Od y.1 r):=by
 refine Ag (fun i=>((i:Int),a,b,c,Od y.1 i)) r rfl (by omega) (fun i hi=>?_) ?_
 · have hll:=RU y.1 i
   unfold Qp
   simp only []
   rw [hr,AE (by omega),av K hK _ _ (by omega),Option.bind_some,ao,Aq (by omega) (by omega)]
   cases decide ((i:Int) ∈ y.1) with
   | true=>rw [cond_true,cond_true,BB,Ak (by omega)]; rfl
   | false=>rw [cond_false,cond_false,List.append_nil]; rfl
 · unfold Qp
   simp only []
   rw [hr,AF (by omega)]
theorem fQ (K:Nat)(hK:2000000<=K)(L:List Pl)(hL:L.length<=1000)(y:wC)(hl:y.1.length<=1000)(a b c d t:Int):AB (MG K L y) K (0,a,b,c,d,t)=some (a,b,c,d,L.foldl (LY y.1) t):=by
 refine Ag (fun i=>((i:Int),a,b,c,d,(L.take i).foldl (LY y.1) t)) L.length rfl (by omega) (fun i hi=>?_) ?_
 · have hst:(L.take (i+1)).foldl (LY y.1) t=LY y.1 ((L.take i).foldl (LY y.1) t) L[i]:=by rw [AL hi,List.foldl_append]; rfl
   rw [hst]
   unfold MG LY
   simp only [Bz,List.getElem?_eq_getElem hi,Option.bind_some]
   rw [AE (by omega),av K hK _ _ (by omega),Option.bind_some,Aq (by omega) (by omega)]
   by_cases hm:ZO L[i] ∈ y.1
   · rw [decide_eq_true (show L[i].2.2.2.2.2.1 ∈ y.1 from hm),cond_true,if_pos hm]; rfl
   · rw [decide_eq_false (show ¬ L[i].2.2.2.2.2.1 ∈ y.1 from hm),cond_false,if_neg hm]; rfl
 · unfold MG
   simp only []
   rw [AF (by omega),List.take_length]
theorem aL (K:Nat) (hK:2000000<=K) {p n r:Int} (hr:r<=12) {A:List Hd} (hA:∀ h ∈ A,cS r h) (hAl:A.length<=200) (fl fr fg:Int) (hfl:0<=fl) {lv:List Int} (hl:lv.length<=1) :
   ∃ g q1 q2 q3 q4 q5,lS K A=some g/\AB (Fc K A) K (lv,g.2.2.2.2.2,p,n,r,fl,fr,fg,g.1,g.2.1,g.2.2.1,g.2.2.2.1,g.2.2.2.2.1,[])=some ((ch r A 202 fl fr (top A) [] lv).2.2.2,p,n,r,(ch r A 202 fl fr (top A) [] lv).1,(ch r A 202 fl fr (top A) [] lv).2.1,fg,q1,q2,q3,q4,q5,(ch r A 202 fl fr (top A) [] lv).2.2.1.reverse):=by
 have e:ch r A 202 fl fr (top A) [] lv=if fl < top A then (match Kw r (top A) lv A with | none=>(top A,mx fr (top A),[],lv) | some h=>ch r A 201 fl fr h.2.1 ([] ++ [h]) (Cp lv h.2.2.2.2)) else (fl,fr,[],lv):=rfl
 rcases JE K hK hA (by omega) hl with ⟨h0,ht,hg⟩ | ⟨h,hh,h1,hf,hg⟩
 · refine ⟨_,0,0,0,[],[],hg,?_⟩
   rw [e,ht,if_neg (by omega)]
   obtain ⟨K', rfl⟩:∃ q,K=q+1:=⟨K - 1,by omega⟩
   refine AK ?_
   unfold Fc
   simp only [cond_false,Option.bind_some]
   rfl
 · by_cases hc:fl < top A
   · rw [e,if_pos hc,hf]
     have hcn:=MJ A h.2.1
     obtain ⟨q1,q2,q3,q4,q5,hq⟩:=JT K hK (p:=p) (n:=n) hr hA (by omega) fl fr fg hfl 201 h [] lv K hh (by omega) (by omega) (by omega) (by rw [List.length_nil]; omega) (by omega) (Eh hf).2.2
     exact ⟨_,q1,q2,q3,q4,q5,hg,hq⟩
   · refine ⟨_,h.1,h.2.1,h.2.2.1,h.2.2.2.1,h.2.2.2.2,hg,?_⟩
     rw [e,if_neg hc]
     obtain ⟨K', rfl⟩:∃ q,K=q+1:=⟨K - 1,by omega⟩
     refine AK ?_
     unfold Fc
     simp only [cond_true,Option.bind_some]
     rw [AF (by omega)]
     rfl
theorem SZ (K:Nat) (hK:2000000<=K) {p n r:Int} {x W:List Rg} (d:UI p n r x W):pX K p n r x=some (kept r (all n r W) (flat W) 202):=by
 have hri:=d.ri
 unfold Ah at hri
 have hfll:=d.vd.len
 have hal:(DI r (n - 1) (flat W) (flat W).length).length<=200:=Re d
 have hfl:=d.fl
 have hl0:=RS (BI (fb (flat W)))
 have hlv:=d.lv 202 (BI (fb (flat W))).2.2.1 (BI (fb (flat W))).2.2.2.2 (top (DI r (n - 1) (flat W) (flat W).length)) []
 unfold pX kept
 rw [fO K hK d.rn d.xl d.xe d.xf d.ws,Option.bind_some]
 obtain ⟨b,hb,hrb⟩:=Yp K hK (flat W) (by omega)
 rw [hb,Option.bind_some]
 have hy:((cond (decide (0<=b)) ((ix (flat W) b).bind fun a69=>((flat W)[b.toNat]?).bind fun a70=>(My K a70.2.2.2.1 0).bind fun y72=>(ix (flat W) b).bind fun a73=>((flat W)[b.toNat]?).bind fun a74=>some (a70.2.1,y72,a70.2.2.1,[a74.2.2.2.2.2.1])) (some (0,0,0,([]:List Int))):Option (Int × Int × Int × (List Int))))=some ((BI (fb (flat W))).2.2.1,(BI (fb (flat W))).2.2.2.2,(BI (fb (flat W))).2.2.2.1,HK (BI (fb (flat W)))):=by
   rcases hrb with ⟨rfl,hn⟩ | ⟨g,q,rfl,hq,hn⟩
   · rw [List.take_length] at hn
     rw [AF (by omega),show fb (flat W)=none from hn]; rfl
   · rw [List.take_length] at hn
     have hfb:fb (flat W)=some q:=hn
     obtain ⟨hm,h4⟩:=Lp hfb
     have hpr:pr q.1 q.2.1 q.2.2.1 q.2.2.2.1=true:=d.vd.ok q hm
     rw [h4] at hpr
     have hs:=(Xj hpr).1
     have hget:=DA K q.2.2.2.1 0 (by omega) (by omega)
     rw [AE (by omega),hfb]
     simp only [Bz,Int.toNat_natCast,hq,Option.bind_some]
     rw [show My K q.2.2.2.1 0=_ from hget,Option.bind_some]
     rfl
 rw [hy,Option.bind_some,PC K hK d.ri d.wo d.vd,Option.bind_some]
 obtain ⟨g,q1,q2,q3,q4,q5,hg,hmain⟩:=aL K hK (p:=p) (n:=n) (r:=r) (by omega) d.Cc hal (BI (fb (flat W))).2.2.1 (BI (fb (flat W))).2.2.2.2 (BI (fb (flat W))).2.2.2.1 hfl.1 (lv:=HK (BI (fb (flat W)))) hl0.1
 unfold all at hmain hg hlv ⊢
 have hcl:=NA (R:=r) (A:=DI r (n - 1) (flat W) (flat W).length) 202 (BI (fb (flat W))).2.2.1 (BI (fb (flat W))).2.2.2.2 (top (DI r (n - 1) (flat W) (flat W).length)) [] (HK (BI (fb (flat W))))
 rw [hg,Option.bind_some,hmain,Option.bind_some]
 have hcn:=MJ (DI r (n - 1) (flat W) (flat W).length) (top (DI r (n - 1) (flat W) (flat W).length))
 obtain ⟨m', hm', _⟩:=PW K hK (p:=p) (n:=n) (by omega) d.Cc (by show (DI r (n - 1) (flat W) (flat W).length).length<=1000; omega) (BI (fb (flat W))).2.2.1 (BI (fb (flat W))).2.2.2.2 (BI (fb (flat W))).2.2.2.1 hfl.1 202 (top (DI r (n - 1) (flat W) (flat W).length)) [] _ _ K (by show GW (DI r (n - 1) (flat W) (flat W).length) _ < 202; omega) (by omega) (by rw [List.length_nil]; omega) (bW (BI (fb (flat W)))) hl0.2 (by omega)
 have hcll:=cg (r:=r) (by omega) (DI r (n - 1) (flat W) (flat W).length) 202 (BI (fb (flat W))).2.2.1 (BI (fb (flat W))).2.2.2.2 (top (DI r (n - 1) (flat W) (flat W).length)) [] (HK (BI (fb (flat W)))) (by omega)
 generalize ch r (DI r (n - 1) (flat W) (flat W).length) 202 (BI (fb (flat W))).2.2.1 (BI (fb (flat W))).2.2.2.2 (top (DI r (n - 1) (flat W) (flat W).length)) [] (HK (BI (fb (flat W))))=c at hmain hcl hlv hcll
 rw [List.length_nil] at hcl
 have hlr:=eP K hK (c.2.2.2,p,n,r,c.1,c.2.1,(BI (fb (flat W))).2.2.2.1,q1,q2,q3,q4,q5,c.2.2.1.reverse) r.toNat (by show r=_; omega) (by omega) (by show c.2.2.2.length<=1000; omega) c.1 c.2.1 (BI (fb (flat W))).2.2.2.1
 simp only []
 rw [hlr,Option.bind_some,Pa c.1 c.2.2.1.reverse (by rw [List.length_reverse]; omega),Option.bind_some]
 have hnr:=fQ K hK (flat W) (by omega) (c.2.2.2,p,n,r,c.1,c.2.1,(BI (fb (flat W))).2.2.2.1,q1,q2,q3,q4,q5,c.2.2.1.reverse) (by show c.2.2.2.length<=1000; omega) c.1 c.2.1 (BI (fb (flat W))).2.2.2.1 (Fy c.1 c.2.2.1.reverse) (Fy c.1 c.2.2.1.reverse)
 simp only []
 rw [hnr,Option.bind_some]
end Go.Proofs.YthoimblkpcikdaaGreatDoor.PKeep5
namespace Go.Proofs.YthoimblkpcikdaaGreatDoor.PRaw
open Go.RowKit Go.Proofs.YthoimblkpcikdaaGreatDoor.Mc Go.Proofs.YthoimblkpcikdaaGreatDoor.N Go.Proofs.YthoimblkpcikdaaGreatDoor.Plain Go.Proofs.YthoimblkpcikdaaGreatDoor.PWalk Go.Proofs.YthoimblkpcikdaaGreatDoor.PWalk2 Go.Proofs.YthoimblkpcikdaaGreatDoor.PPiece Go.Proofs.YthoimblkpcikdaaGreatDoor.PGrp Go.Proofs.YthoimblkpcikdaaGreatDoor.PGrp3 Go.Proofs.YthoimblkpcikdaaGreatDoor.PGrp4 Go.Proofs.YthoimblkpcikdaaGreatDoor.PKeep3 Go.Proofs.YthoimblkpcikdaaGreatDoor.PG4
open Go.Proofs.YthoimblkpcikdaaGreatDoor.PJoin (Fr AL Gm)
open Go.Proofs.YthoimblkpcikdaaGreatDoor.PCut (Ah fU ig Lg prt ub GW Ng CB)
open Go.Proofs.YthoimblkpcikdaaGreatDoor.PHand (ZV Sm)
set_option linter.unusedSimpArgs false
set_option linter.unusedVariables false
def UF (f:Fr):Prop:=Gm f=true/\f.1 ≠ 1/\(0<=f.2.2.1/\f.2.2.1 < 4294967296)/\f.2.2.2.size<=100
structure mO (p n r:Int)(x:List Rg):Prop where
 ri:Ah p n r
 rn:RN x
 len:x.length<=12
 sM:∀ f ∈ x,0<=f.1/\f.1 < r
 ep:∀ f ∈ x,0<=f.2.1/\f.2.1 < 4294967295
 fl:∀ f ∈ x,(f.2.2.1.length:Int)<=n - 1
 ok:∀ f ∈ x,∀ q ∈ f.2.2.1,UF q
theorem mO.dev {p n r:Int}{x:List Rg}(h:mO p n r x):∃ W,UI p n r x W:=by
 have hxl:=h.len
 obtain ⟨W,hW,hWl⟩:=gO h.rn (by omega)
 have hsub:∀ f ∈ W,f ∈ x:=fun f hf=>((hW.mem f).1 hf).1
 have hri:=h.ri
 unfold Ah at hri
 have hflat:∀ q ∈ flat W,∃ f ∈ x,UF (ET q)/\ZO q=f.1:=by
   intro q hq
   obtain ⟨f,hf,k,hk,rfl⟩:=GX hq
   exact ⟨f,hsub f hf,h.ok f (hsub f hf) _ (List.getElem_mem hk),rfl⟩
 have hfl:(flat W).length<=9 * W.length:=Nj fun f hf=>by
   have:=h.fl f (hsub f hf)
   omega
 refine ⟨W,⟨h.ri,h.rn,by omega,hW,⟨hW.Yg,?_,fun f hf=>h.ep f (hsub f hf),fun f hf=>h.fl f (hsub f hf),by omega,by omega,by omega⟩,⟨?_,?_,?_,by omega⟩,?_,?_,fun f hf=>(h.ep f hf).1,fun f hf=>by have:=h.fl f hf; omega⟩⟩
 · refine List.pairwise_iff_getElem.2 fun i j hi hj hij e=>?_
   have h1:=List.pairwise_iff_getElem.1 hW.Yg i j hi hj hij
   have h2:=h.rn.same (hsub _ (List.getElem_mem hi)) (hsub _ (List.getElem_mem hj)) e
   rw [h2] at h1
   omega
 · intro q hq
   obtain ⟨f,hf,hr,_⟩:=hflat q hq
   exact hr.1
 · intro q hq
   obtain ⟨f,hf,hr,_⟩:=hflat q hq
   exact hr.2.2.1
 · intro q hq
   obtain ⟨f,hf,hr,_⟩:=hflat q hq
   exact hr.2.2.2
 · intro q hq
   obtain ⟨f,hf,hr,_⟩:=hflat q hq
   exact hr.2.1
 · intro q hq
   obtain ⟨f,hf,_,he⟩:=hflat q hq
   rw [he]
   exact h.sM f hf
theorem cH {a b v:Int}(ha:1<=a)(ha2:a<=2147483647)(hb:0<=b/\b < 4294967296)(hv:0<=v)(hva:v<=a):UF (4,a,b,p4 v):=by
 have hs:=Bi v
 have hg:g4 (p4 v) 0=v:=by
   have h1:=Xp (⟨#[]⟩:ByteArray) (⟨#[]⟩:ByteArray) v hv (by omega)
   have e:(⟨#[]⟩:ByteArray) ++ p4 v ++ (⟨#[]⟩:ByteArray)=p4 v:=by rw [RG,MY]
   rw [e] at h1
   exact h1
 refine ⟨?_,by show (4:Int) ≠ 1; decide,hb,by show (p4 v).size<=100; omega⟩
 show pr 4 a b (p4 v)=true
 unfold pr
 rw [decide_eq_false (by omega),decide_eq_false (by omega)]
 show (cond (((p4 v).size:Int) == 4) (decide (g4 (p4 v) 0<=a)) false)=true
 rw [hs,hg,decide_eq_true hva]
 rfl
theorem kR {p:Int}{w:List PBatch1.Wr}(hb:PBatch1.Bb w=0)(hp:32<=p)(hp2:p<=64){sq pv fr:Int}(h1:1<=sq)(h2:sq<=2147483647)(hpv:0<=pv)(hps:pv < sq)(hf:1<=fr)(hfs:fr<=sq):∀ q ∈ ig (PBatch2.bb w) sq pv fr (p - 15).toNat,UF q:=by
 have hbb:=PCut.cR hb
 have hr:0 < (p - 15).toNat:=by omega
 have hc:=PCut.Jw (PBatch2.bb w).size (p - 15).toNat hr
 have hc0:=(PCut.Qd (PBatch2.bb w).size (p - 15).toNat 0 hr).2 (by omega)
 intro q hq
 unfold ig at hq
 rcases List.mem_append.1 hq with hq | hq
 · obtain ⟨i,hi⟩:=List.getElem?_of_mem hq
   have hil:=(List.getElem?_eq_some_iff.1 hi).1
   rw [PCut.FA] at hil
   rw [PCut.fY _ _ _ _ _ hil] at hi
   rw [<- Option.some.inj hi]
   refine ⟨PCut.eT _ sq _ i hr hil h1 h2,by show (2:Int) ≠ 1; decide,⟨by show (0:Int)<=(i:Int); omega,by show (i:Int) < _; omega⟩,?_⟩
   show ((PBatch2.bb w).extract _ _).size<=100
   rw [ByteArray.size_extract]
   have e:(i+1) * (p - 15).toNat=i * (p - 15).toNat+(p - 15).toNat:=by rw [Nat.add_mul,Nat.one_mul]
   omega
 · rw [List.mem_singleton] at hq
   rw [hq]
   have hz:U ((PBatch2.bb w).size:Int):=⟨by omega,by omega⟩
   have hk:((GW (PBatch2.bb w).size (p - 15).toNat:Nat):Int) ≠ 0:=by omega
   have hz0:((PBatch2.bb w).size:Int) ≠ 0:=by omega
   refine ⟨PCut.dr sq _ pv fr _ _ h1 h2 hk hpv hps hf hfs hz hz0,by show (3:Int) ≠ 1; decide,⟨by show (0:Int)<=((GW _ _:Nat):Int); omega,by show ((GW _ _:Nat):Int) < _; omega⟩,?_⟩
   show (s4 _ _ _ _).size<=100
   rw [Wl]; omega
theorem jW (K:Nat) (hK:2000000<=K) {p n r:Int} (hR:Ah p n r) (hp2:p<=64) {sq pv fr:Int} (h1:1<=sq) (h2:sq<=2147483647) (hpv:0<=pv) (hps:pv < sq) (hf:1<=fr) (hfs:fr<=sq) (l:List Sm):∃ L:List Fr,((pE K p n r sq pv fr (ZV l 3)).bind fun y160=>BM (fun y161=>some ([]:List (Int × Int × Int × ByteArray))) (fun y162=>some y162.2) y160)=some L/\(∀ q ∈ L,UF q)/\L.length<=81:=by
 have hR':=hR
 unfold Ah at hR'
 rw [Ng K hK p n r sq pv fr hpv _ (fun w hw=>by have:=PHand.Xx l 3 w hw; omega),Option.bind_some]
 unfold fU
 rw [if_neg (fun q=>q hR)]
 by_cases hb:PBatch1.Bb (ZV l 3)=0
 · rw [if_neg (fun q=>q hb),if_neg (by omega)]
   split
   · exact ⟨[],rfl,fun q hq=>by simp at hq,by simp⟩
   · rename_i hm
     have hmm:=PCut.Pg (a:=r - 3) (b:=n - 1) (by omega) (by omega) (by omega) (by omega)
     refine ⟨_,rfl,kR hb (by omega) hp2 h1 h2 hpv hps hf hfs,?_⟩
     have hl:=PCut.ft (PBatch2.bb (ZV l 3)) sq pv fr (p - 15).toNat
     show (ig (PBatch2.bb (ZV l 3)) sq pv fr (p - 15).toNat).length<=81
     omega
 · rw [if_pos hb]
   exact ⟨[],rfl,fun q hq=>by simp at hq,by simp⟩
end Go.Proofs.YthoimblkpcikdaaGreatDoor.PRaw
namespace Go.Proofs.YthoimblkpcikdaaGreatDoor.PRaw2
open Go.RowKit Go.Proofs.YthoimblkpcikdaaGreatDoor.Mc Go.Proofs.YthoimblkpcikdaaGreatDoor.N Go.Proofs.YthoimblkpcikdaaGreatDoor.Plain Go.Proofs.YthoimblkpcikdaaGreatDoor.PWalk Go.Proofs.YthoimblkpcikdaaGreatDoor.PWalk2 Go.Proofs.YthoimblkpcikdaaGreatDoor.PPiece Go.Proofs.YthoimblkpcikdaaGreatDoor.PGrp Go.Proofs.YthoimblkpcikdaaGreatDoor.PGrp3 Go.Proofs.YthoimblkpcikdaaGreatDoor.PGrp4 Go.Proofs.YthoimblkpcikdaaGreatDoor.PKeep3 Go.Proofs.YthoimblkpcikdaaGreatDoor.PG4 Go.Proofs.YthoimblkpcikdaaGreatDoor.PRaw
open Go.Proofs.YthoimblkpcikdaaGreatDoor.PJoin (Fr AL Gm)
open Go.Proofs.YthoimblkpcikdaaGreatDoor.PCut (Ah CB)
open Go.Proofs.YthoimblkpcikdaaGreatDoor.PHand (ZV Sm)
set_option linter.unusedSimpArgs false
set_option linter.unusedVariables false
abbrev Pt:Type:=Int × Int × Int × List Sm × Int
def px (z:Pt):Prop:=(0<=z.1/\z.1 < 4294967296)/\(0<=z.2.1/\z.2.1 < 4294967296)/\(0<=z.2.2.1/\z.2.2.1 < 4294967296)/\∀ s ∈ z.2.2.2.1,s.2.2.size<=1000000000
theorem tm {a b:Int}(ha:0<=a)(hb:0 < b):0<=a.tmod b/\a.tmod b < b:=by
 rw [Int.tmod_eq_emod_of_nonneg ha]
 exact ⟨Int.emod_nonneg _ (by omega),Int.emod_lt_of_pos _ hb⟩
theorem YV (K:Nat) (hK:2000000<=K) {p n r:Int} (hR:Ah p n r) (hp2:p<=64) (x4:List Pt) (h4:∀ z ∈ x4,px z) {i:Nat} (hi:i < min 20 x4.length) (L:List Fr) (hL:∀ q ∈ L,UF q) (hl:L.length<=100 * i) :
   ∃ L', Sg K p n r x4 ((i:Int),L)=some (.inl (((i+1:Nat):Int),L'))/\(∀ q ∈ L', UF q)/\L'.length<=100 * (i+1):=by
 have hil:i < x4.length:=by omega
 have hz:=h4 _ (List.getElem_mem hil)
 generalize hzz:x4[i]=z at hz
 have hg:x4[i]? = some z:=by rw [List.getElem?_eq_getElem hil,hzz]
 obtain ⟨ha,hb,hc,hs⟩:=hz
 have hw:IntKind.wrap .i64 ((i:Int)+1)=((i+1:Nat):Int):=by rw [Aq (by omega) (by omega)]; rfl
 have t12:=tm ha.1 (show (0:Int) < 12 by omega)
 unfold Sg
 simp only [Bz,hg,Option.bind_some,hw]
 rw [AE (by omega),decide_eq_true (show (i:Int) < 20 by omega),Option.bind_some,cond_true,Iz (x:=1+z.1.tmod 12) (by omega) (by omega)]
 generalize hq:1+z.1.tmod 12=sq at *
 by_cases h0:z.2.2.2.1.length=0
 · have t3:=tm hb.1 (show (0:Int) < 3 by omega)
   have ts:=tm hc.1 (show (0:Int) < sq+1 by omega)
   rw [beq_iff_eq.2 (show (z.2.2.2.1.length:Int)=0 by omega),cond_true,Iz (x:=sq+1) (by omega) (by omega),FY (by rw [bne_iff_ne]; omega),Gf K _ (by omega) (by omega),Option.bind_some,BB,Ak (by omega),Option.bind_some]
   refine ⟨_,rfl,fun q hq=>?_,by rw [List.length_append,BB]; omega⟩
   rcases List.mem_append.1 hq with hq | hq
   · exact hL q hq
   · rw [List.mem_singleton] at hq
     rw [hq]
     exact cH (by omega) (by omega) (by omega) (by omega) (by omega)
 · have tp:=tm hb.1 (show (0:Int) < sq by omega)
   have tf:=tm hc.1 (show (0:Int) < sq by omega)
   rw [beq_eq_false_iff_ne.2 (show (z.2.2.2.1.length:Int) ≠ 0 by omega),cond_false,FY (by rw [bne_iff_ne]; omega),FY (by rw [bne_iff_ne]; omega)]
   rw [show nQ K z.2.2.2.1 3=_ from PHand.Vr K hK z.2.2.2.1 3 (by omega) (by omega) hs,Option.bind_some,Iz (x:=1+z.2.2.1.tmod sq) (by omega) (by omega)]
   obtain ⟨M,hM,Cc,hml⟩:=jW K hK hR hp2 (sq:=sq) (pv:=z.2.1.tmod sq) (fr:=1+z.2.2.1.tmod sq) (by omega) (by omega) (by omega) (by omega) (by omega) (by omega) z.2.2.2.1
   rw [hM,Option.bind_some]
   have hdrop:∃ M', ((((cond ((z.2.2.2.2.tmod 5) == 4) (some (decide (0 < (M.length:Int)))) (some false):Option Bool)).bind fun y165=>cond y165 (Ao (Bn (M.length:Int) 0 (IntKind.wrap .i64 ((M.length:Int) - 1))) <| some ((M.drop 0).take (((IntKind.wrap .i64 ((M.length:Int) - 1)).toNat) - 0))) (some M):Option (List Fr)))=some M' /\ (∀ q ∈ M', UF q)/\M'.length<=81:=by
     by_cases h5:(z.2.2.2.2.tmod 5)=4
     · rw [beq_iff_eq.2 h5,cond_true,Option.bind_some]
       by_cases hm:0 < M.length
       · rw [AE (by omega),Aq (by omega) (by omega),FY (by unfold Bn; exact decide_eq_true (by omega))]
         refine ⟨_,rfl,fun q hq=>Cc q (List.mem_of_mem_take hq),?_⟩
         rw [List.length_take,List.drop_zero]; omega
       · rw [AF (by omega)]
         exact ⟨M,rfl,Cc,hml⟩
     · rw [beq_eq_false_iff_ne.2 h5]
       exact ⟨M,rfl,Cc,hml⟩
   obtain ⟨M', hM', hok', hml'⟩:=hdrop
   rw [hM', Option.bind_some,Ak (by omega),Option.bind_some]
   refine ⟨_,rfl,fun q hq=>?_,by rw [List.length_append]; omega⟩
   rcases List.mem_append.1 hq with hq | hq
   · exact hL q hq
   · exact hok' q hq
theorem ZA (K:Nat)(hK:2000000<=K){p n r:Int}(hR:Ah p n r)(hp2:p<=64)(x4:List Pt)(h4:∀ z ∈ x4,px z):∃ L,AB (Sg K p n r x4) K (0,[])=some L/\(∀ q ∈ L,UF q)/\L.length<=2000:=by
 refine GQ (fun i (s:Int × List Fr)=>s.1=(i:Int)/\(∀ q ∈ s.2,UF q)/\s.2.length<=100 * i) (fun L:List Fr=>(∀ q ∈ L,UF q)/\L.length<=2000) (min 20 x4.length) ⟨rfl,fun q hq=>by simp at hq,by simp⟩ (by omega) ?_ ?_
 · rintro i ⟨j,L⟩ hi ⟨hj,hL,hl⟩
   simp only at hj hL hl
   subst hj
   obtain ⟨L', h1,h2,h3⟩:=YV K hK hR hp2 x4 h4 hi L hL hl
   exact ⟨_,h1,rfl,h2,h3⟩
 · rintro ⟨j,L⟩ ⟨hj,hL,hl⟩
   simp only at hj hL hl
   subst hj
   refine ⟨L,?_,hL,by omega⟩
   unfold Sg
   simp only []
   by_cases h:min 20 x4.length < x4.length
   · rw [AE (by omega),decide_eq_false (by omega)]; rfl
   · rw [AF (by omega)]; rfl
abbrev S6:Type:=List Fr × Int × Int × Int × Int × List Rg
theorem ZL (K:Nat) (hK:2000000<=K) {p n r:Int} (hR:Ah p n r) (x5:List Int) (h5:∀ e ∈ x5,0<=e) (L:List Fr) (hL:∀ q ∈ L,UF q) (hl:L.length<=2000):∃ x,AB (NL K x5) K (L,0,p,n,r,[])=some (p,n,r,x)/\mO p n r x/\x.map (·.1)=(List.range r.toNat).map fun i:Nat=>(i:Int):=by
 have hR':=hR
 unfold Ah at hR'
 have main : ∃ y,AB (NL K x5) K (L,0,p,n,r,[])=some y/\∃ x,y=(p,n,r,x)/\(x.map (·.1)=(List.range r.toNat).map fun i:Nat=>(i:Int))/\(∀ f ∈ x,0<=f.2.1/\f.2.1 < 4294967295)/\(∀ f ∈ x,(f.2.2.1.length:Int)<=n - 1)/\∀ f ∈ x,∀ q ∈ f.2.2.1,UF q:=by
   refine GQ (fun i (s:S6)=>s.2.1=(i:Int)/\s.2.2.1=p/\s.2.2.2.1=n/\s.2.2.2.2.1=r/\(∀ q ∈ s.1,UF q)/\s.1.length<=2000/\(s.2.2.2.2.2.map (·.1)=(List.range i).map fun i:Nat=>(i:Int))/\(∀ f ∈ s.2.2.2.2.2,0<=f.2.1/\f.2.1 < 4294967295)/\(∀ f ∈ s.2.2.2.2.2,(f.2.2.1.length:Int)<=n - 1)/\∀ f ∈ s.2.2.2.2.2,∀ q ∈ f.2.2.1,UF q) _ r.toNat ⟨rfl,rfl,rfl,rfl,hL,hl,rfl,fun f hf=>by simp at hf,fun f hf=>by simp at hf,fun f hf=>by simp at hf⟩ (by omega) ?_ ?_
   · rintro i ⟨M,j,p', n', r', x⟩ hi ⟨hj,hp,hn,hr,hM,hml,hx,he,hf,ho⟩
     simp only at hj hp hn hr hM hml hx he hf ho
     subst hj hp hn hr
     have hxl:x.length=i:=by have:=congrArg List.length hx; rwa [List.length_map,List.length_map,List.length_range] at this
     have hw:IntKind.wrap .i64 ((i:Int)+1)=((i+1:Nat):Int):=by rw [Aq (by omega) (by omega)]; rfl
     unfold NL
     simp only [hw]
     rw [AE (by omega)]
     have hep:∃ e,((cond (decide ((i:Int) < (x5.length:Int))) ((ix x5 (i:Int)).bind fun a200=>some ((i:Int),(a200.tmod 9))) (cond (decide (0 < (M.length:Int))) (some ((i:Int),(IntKind.wrap .u32 (IntKind.wrap .i64 ((i:Int)+10))))) (some ((i:Int),0))):Option (Int × Int)))=some ((i:Int),e)/\0<=e/\e < 4294967295:=by
       by_cases h:i < x5.length
       · have t9:=tm (h5 _ (List.getElem_mem h)) (show (0:Int) < 9 by omega)
         rw [AE (by omega),Bz,List.getElem?_eq_getElem h,Option.bind_some]
         exact ⟨_,rfl,by omega,by omega⟩
       · rw [AF (by omega)]
         by_cases h2:0 < M.length
         · rw [AE (by omega),Aq (x:=(i:Int)+10) (by omega) (by omega),Iz (by omega) (by omega)]
           exact ⟨_,rfl,by omega,by omega⟩
         · rw [AF (by omega)]
           exact ⟨_,rfl,by omega,by omega⟩
     obtain ⟨e,hee,he0,he1⟩:=hep
     rw [hee,Option.bind_some]
     have hmn:mn (M.length:Int) (n' - 1)=((min M.length (n' - 1).toNat:Nat):Int):=by
       unfold mn
       split <;> omega
     have hfr:∃ M' G,((cond (decide (0 < e)) ((kU K p' n' r').bind fun y202=>Ao (Bn (M.length:Int) 0 (mn (M.length:Int) y202)) <| Ao (decide ((([]:List Fr).length+(cut M 0 (mn (M.length:Int) y202)).length) * 32<=140737488355328)) <| Ao (Bn (M.length:Int) (mn (M.length:Int) y202) (M.length:Int)) <| some ((cut M (mn (M.length:Int) y202) (M.length:Int)),(i:Int),e,(([]:List Fr) ++ (cut M 0 (mn (M.length:Int) y202))))) (some (M,(i:Int),e,([]:List Fr))):Option (List Fr × Int × Int × List Fr)))=some (M', (i:Int),e,G)/\(∀ q ∈ M', UF q)/\M'.length<=2000/\(∀ q ∈ G,UF q)/\(G.length:Int)<=n' - 1:=by
       by_cases h:0 < e
       · rw [AE h,CB K hR,Option.bind_some,hmn,FY (by unfold Bn; exact decide_eq_true (by omega)),Ak (by unfold cut; rw [List.length_drop,List.length_take,List.length_nil]; omega),FY (by unfold Bn; exact decide_eq_true (by omega))]
         refine ⟨_,_,rfl,?_,?_,?_,?_⟩
         · intro q hq
           exact hM q (List.mem_of_mem_take (List.mem_of_mem_drop hq))
         · unfold cut
           rw [List.length_drop,List.length_take]; omega
         · intro q hq
           rw [List.nil_append] at hq
           exact hM q (List.mem_of_mem_take (List.mem_of_mem_drop hq))
         · unfold cut
           rw [List.nil_append,List.length_drop,List.length_take]; omega
       · rw [AF h]
         exact ⟨_,_,rfl,hM,hml,fun q hq=>by simp at hq,by rw [List.length_nil]; omega⟩
     obtain ⟨M', G,hG,g1,g2,g3,g4⟩:=hfr
     simp only []
     rw [hG,Option.bind_some,BB,Ak (by omega)]
     refine ⟨_,rfl,rfl,rfl,rfl,rfl,g1,g2,?_,?_,?_,?_⟩
     · show (x ++ [_]).map _=_
       rw [List.map_append,hx,List.range_succ,List.map_append]; rfl
     · intro f hfm
       rcases List.mem_append.1 hfm with hfm | hfm
       · exact he f hfm
       · rw [List.mem_singleton] at hfm; rw [hfm]; exact ⟨he0,he1⟩
     · intro f hfm
       rcases List.mem_append.1 hfm with hfm | hfm
       · exact hf f hfm
       · rw [List.mem_singleton] at hfm; rw [hfm]; exact g4
     · intro f hfm
       rcases List.mem_append.1 hfm with hfm | hfm
       · exact ho f hfm
       · rw [List.mem_singleton] at hfm; rw [hfm]; exact g3
   · rintro ⟨M,j,p', n', r', x⟩ ⟨hj,hp,hn,hr,hM,hml,hx,he,hf,ho⟩
     simp only at hj hp hn hr hM hml hx he hf ho
     subst hj hp hn hr
     refine ⟨_,?_,x,rfl,hx,he,hf,ho⟩
     unfold NL
     simp only []
     rw [AF (by omega)]
 obtain ⟨y,hy,x,rfl,hx,he,hf,ho⟩:=main
 have hxl:x.length=r.toNat:=by have:=congrArg List.length hx; rwa [List.length_map,List.length_map,List.length_range] at this
 have hnd:RN x:=by
   unfold RN
   rw [hx]
   unfold List.Nodup
   rw [List.pairwise_map]
   exact List.pairwise_lt_range.imp fun {a b} q=>by omega
 refine ⟨x,hy,⟨hR,hnd,by omega,fun f hfm=>?_,he,hf,ho⟩,hx⟩
 have hm:f.1 ∈ x.map (·.1):=List.mem_map.2 ⟨f,hfm,rfl⟩
 rw [hx] at hm
 obtain ⟨i,hi,he⟩:=List.mem_map.1 hm
 rw [List.mem_range] at hi
 rw [<- he]
 omega
theorem XZ (K:Nat)(hK:2000000<=K){p n r:Int}(hR:Ah p n r)(hp2:p<=64)(x4:List Pt)(h4:∀ z ∈ x4,px z)(x5:List Int)(h5:∀ e ∈ x5,0<=e):∃ x,oV K p n r x4 x5=some x/\mO p n r x/\x.map (·.1)=(List.range r.toNat).map fun i:Nat=>(i:Int):=by
 obtain ⟨L,h1,h2,h3⟩:=ZA K hK hR hp2 x4 h4
 obtain ⟨x,h6,h7,h8⟩:=ZL K hK hR x5 h5 L h2 h3
 refine ⟨x,?_,h7,h8⟩
 unfold oV
 rw [h1,Option.bind_some,h6]; rfl
end Go.Proofs.YthoimblkpcikdaaGreatDoor.PRaw2
namespace Go.Proofs.YthoimblkpcikdaaGreatDoor.PChain
open Go.RowKit Go.Proofs.YthoimblkpcikdaaGreatDoor.Mc Go.Proofs.YthoimblkpcikdaaGreatDoor.N Go.Proofs.YthoimblkpcikdaaGreatDoor.Plain Go.Proofs.YthoimblkpcikdaaGreatDoor.PWalk Go.Proofs.YthoimblkpcikdaaGreatDoor.PWalk2 Go.Proofs.YthoimblkpcikdaaGreatDoor.PRev Go.Proofs.YthoimblkpcikdaaGreatDoor.PPiece Go.Proofs.YthoimblkpcikdaaGreatDoor.PGrp Go.Proofs.YthoimblkpcikdaaGreatDoor.PGrp3 Go.Proofs.YthoimblkpcikdaaGreatDoor.PGrp4 Go.Proofs.YthoimblkpcikdaaGreatDoor.PKeep1 Go.Proofs.YthoimblkpcikdaaGreatDoor.PKeep2 Go.Proofs.YthoimblkpcikdaaGreatDoor.PKeep3 Go.Proofs.YthoimblkpcikdaaGreatDoor.PKeep4 Go.Proofs.YthoimblkpcikdaaGreatDoor.PKeep5 Go.Proofs.YthoimblkpcikdaaGreatDoor.PRaw Go.Proofs.YthoimblkpcikdaaGreatDoor.PRaw2 Go.Proofs.YthoimblkpcikdaaGreatDoor.PFlo
open Go.Proofs.YthoimblkpcikdaaGreatDoor.PJoin (Fr fin CW)
open Go.Proofs.YthoimblkpcikdaaGreatDoor.PCut (Ah)
open Go.Proofs.YthoimblkpcikdaaGreatDoor.PHand (Sm)
open Go.Proofs.YthoimblkpcikdaaGreatDoor.PBatch3 (EK Kj)
set_option linter.unusedSimpArgs false
set_option linter.unusedVariables false
theorem sj (l:List Fr):(jn l).2.2.2.1.length<=8:=by
 unfold jn
 cases l[l.length - 1]? with
 | none=>exact Nat.zero_le _
 | some z =>
   simp only []
   split
   · unfold fin
     split
     · exact Nat.zero_le _
     · split
       · exact Nat.zero_le _
       · split
         · exact Nat.zero_le _
         · exact (Kj _).2
   · exact Nat.zero_le _
theorem gU {R S:Int} {L:List Pl} {t:Nat} {q:Hd} (hq:q ∈ DI R S L t):q.2.2.2.1.length<=8:=by
 unfold DI at hq
 obtain ⟨t', _,h1⟩:=List.mem_filterMap.1 hq
 unfold Pm at h1
 cases hp:L[t']? with
 | none=>rw [hp] at h1; cases h1
 | some p =>
   rw [hp] at h1
   simp only [] at h1
   split at h1
   · rw [<- Option.some.inj h1]
     exact sj _
   · cases h1
theorem bK {R:Int} {A:List Hd}:∀ (N:Nat) (fl fr w:Int) (gs:List Hd) (lv:List Int) (h:Hd),h ∈ (ch R A N fl fr w gs lv).2.2.1->h ∈ gs\/h ∈ A
 | 0,fl,fr,w,gs,lv,h,hh=>.inl hh
 | N + 1,fl,fr,w,gs,lv,h,hh=>by
   unfold ch at hh
   split at hh
   · cases hf:Kw R w lv A with
     | none=>rw [hf] at hh; exact .inl hh
     | some g =>
       rw [hf] at hh
       rcases bK N _ _ _ _ _ h hh with h1 | h1
       · rcases List.mem_append.1 h1 with h2 | h2
         · exact .inl h2
         · rw [List.mem_singleton] at h2
           rw [h2]; exact .inr (Eh hf).1
       · exact .inr h1
   · exact .inl hh
theorem alive (K:Nat) (hK:2000000<=K):lq K=some true:=by
 have hx:mO 32 3 4 []:=⟨by unfold Ah; omega,List.nodup_nil,by simp,fun f hf=>by simp at hf,fun f hf=>by simp at hf,fun f hf=>by simp at hf,fun f hf=>by simp at hf⟩
 obtain ⟨W,d⟩:=hx.dev
 have hW:W=[]:=by
   cases W with
   | nil=>rfl
   | cons f W=>have:=((d.ws.mem f).1 (List.mem_cons_self ..)).1; simp at this
 subst hW
 have hk:=UR K hK d
 have hch:ch 4 [] 202 0 0 0 [] []=(0,0,[],[]):=rfl
 have e:kept 4 (all 3 4 []) (flat []) 202=(0,0,0,[],[],0,1):=by
   show kept 4 [] [] 202=_
   unfold kept
   show ((ch 4 [] 202 0 0 0 [] []).1,(ch 4 [] 202 0 0 0 [] []).2.1,(0:Int),(ch 4 [] 202 0 0 0 [] []).2.2.1.reverse,Od (ch 4 [] 202 0 0 0 [] []).2.2.2 4,Fy (ch 4 [] 202 0 0 0 [] []).1 (ch 4 [] 202 0 0 0 [] []).2.2.1.reverse,IntKind.wrap .u32 (([]:List Pl).foldl (LY (ch 4 [] 202 0 0 0 [] []).2.2.2) (Fy (ch 4 [] 202 0 0 0 [] []).1 (ch 4 [] 202 0 0 0 [] []).2.2.1.reverse)+1))=_
   rw [hch]
   have e1:Od [] 4=[]:=by
     apply List.eq_nil_of_length_eq_zero
     unfold Od
     simp
   rw [e1]
   rfl
 rw [e] at hk
 unfold lq
 rw [hk]
 rfl
theorem lf (K:Nat)(l:List Int)(hK:l.length < K)(hl:l.length<=1000000):pP K l l=some true:=by
 unfold pP
 rw [show ((l.length:Int) != (l.length:Int))=false by simp,cond_false]
 rw [Ag (r:=(.inr ())) (fun i=>(i:Int)) l.length (by rfl) hK ?_ ?_]
 · rfl
 · intro i hi
   unfold VU
   simp only [Bz,Int.toNat_natCast,List.getElem?_eq_getElem hi,Option.bind_some]
   rw [AE (by omega),Aq (by omega) (by omega)]
   simp
 · unfold VU
   rw [AF (by omega)]
theorem lg (K:Nat)(l:List (Int × Int))(hK:l.length < K)(hl:l.length<=1000000):pL K l l=some true:=by
 unfold pL
 rw [show ((l.length:Int) != (l.length:Int))=false by simp,cond_false]
 rw [Ag (r:=(.inr ())) (fun i=>(i:Int)) l.length (by rfl) hK ?_ ?_]
 · rfl
 · intro i hi
   unfold Vw
   simp only [Bz,Int.toNat_natCast,List.getElem?_eq_getElem hi,Option.bind_some]
   rw [AE (by omega),Aq (by omega) (by omega)]
   simp
 · unfold Vw
   rw [AF (by omega)]
theorem gK (K:Nat)(hK:2000000<=K)(a b c:Int)(l:List PBatch1.Wr)(hl:l.length<=1000):lM K a b c l a b c l=some true:=by
 unfold lM
 rw [beq_self_eq_true,beq_self_eq_true,beq_self_eq_true,cond_true,cond_true,cond_true,PBook.Yo K l (by omega) (by omega)]; rfl
theorem mB (K:Nat)(hK:2000000<=K)(a b c:Int)(gs:List Hd)(lv:List Int)(d e:Int)(hg:gs.length<=1000)(hw:∀ h ∈ gs,h.2.2.2.1.length<=1000/\h.2.2.2.2.length<=1000)(hl:lv.length<=1000):pH K a b c gs lv d e a b c gs lv d e=some true:=by
 have hne:∀ x:Int,(x != x)=false:=fun x=>by simp
 unfold pH
 rw [hne,hne,hne,hne,hne,cond_false,cond_false,cond_false,cond_false,cond_false,lf K lv (by omega) (by omega),Option.bind_some,hne]
 simp only [Bool.not_true,cond_false,Option.bind_some]
 rw [Ag (r:=(.inr ())) (fun i=>(i:Int)) gs.length (by rfl) (by omega) ?_ ?_]
 · rfl
 · intro i hi
   have h1:=hw _ (List.getElem_mem hi)
   unfold VN
   simp only [Bz,List.getElem?_eq_getElem hi,Option.bind_some]
   rw [AE (by omega),gK K hK _ _ _ _ (by omega),Option.bind_some,Bool.not_true,cond_false,lg K _ (by omega) (by omega),Option.bind_some,Bool.not_true,Option.bind_some,cond_false,Aq (by omega) (by omega)]
   rfl
 · unfold VN
   rw [AF (by omega)]
theorem Vs {p n r:Int}{x W:List Rg}(d:UI p n r x W):(kept r (all n r W) (flat W) 202).2.2.2.1.length<=1000/\(∀ h ∈ (kept r (all n r W) (flat W) 202).2.2.2.1,h ∈ all n r W)/\(kept r (all n r W) (flat W) 202).2.2.2.2.1.length<=1000:=by
 have hri:=d.ri
 unfold Ah at hri
 refine ⟨?_,fun h hh=>?_,?_⟩
 · have:=NA (R:=r) (A:=all n r W) 202 (BI (fb (flat W))).2.2.1 (BI (fb (flat W))).2.2.2.2 (top (all n r W)) [] (HK (BI (fb (flat W))))
   show (List.reverse _).length<=1000
   rw [List.length_reverse]
   rw [List.length_nil] at this
   omega
 · have h1:h ∈ (ch r (all n r W) 202 (BI (fb (flat W))).2.2.1 (BI (fb (flat W))).2.2.2.2 (top (all n r W)) [] (HK (BI (fb (flat W))))).2.2.1:=List.mem_reverse.1 hh
   rcases bK 202 _ _ _ _ _ h h1 with h2 | h2
   · simp at h2
   · exact h2
 · show (Od _ r.toNat).length<=1000
   have:=RU (ch r (all n r W) 202 (BI (fb (flat W))).2.2.1 (BI (fb (flat W))).2.2.2.2 (top (all n r W)) [] (HK (BI (fb (flat W))))).2.2.2 r.toNat
   omega
theorem RH:∀ (ns:List Nat) (n:Nat),n ∈ ns->n<=ns.sum
 | [],_,h=>by simp at h
 | m :: ns,n,h=>by
   rw [List.sum_cons]
   rcases List.mem_cons.1 h with rfl | h
   · omega
   · have:=RH ns n h; omega
theorem args (x1:Int)(x2:Int)(x3:Int)(x4:List Pt)(x5:List Int)(g:gH [.int .i64,.int .i64,.int .i64,.sl (.int .u32 (.int .u32 (.int .u32 (.sl (.int .i64 (.bool (.str .nil))) (.int .i64 .nil))))),.sl (.int .u32 .nil)] (x1,x2,x3,x4,x5))(b:YH [.int .i64,.int .i64,.int .i64,.sl (.int .u32 (.int .u32 (.int .u32 (.sl (.int .i64 (.bool (.str .nil))) (.int .i64 .nil))))),.sl (.int .u32 .nil)] (x1,x2,x3,x4,x5)<=1048576):(∀ z ∈ x4,px z)/\∀ e ∈ x5,0<=e:=by
 have b':0+(0+(0+((x4.map fun z:Pt=>((z.2.2.2.1.map fun y:Sm=>(y.2.2.size+0)+1).sum+0)+1).sum+(x5.map fun _=>0+1).sum)))<=1048576:=b
 obtain ⟨_,_,_,⟨_,g4⟩,⟨_,g5⟩⟩:=g
 refine ⟨fun z hz=>?_,fun e he=>(Rw (x:=e) (g5 e he).1).1⟩
 have gz:=g4 z hz
 refine ⟨Rw (x:=z.1) gz.1,Rw (x:=z.2.1) gz.2.1,Rw (x:=z.2.2.1) gz.2.2.1,fun s hs=>?_⟩
 have h1:=RH _ _ (List.mem_map.2 ⟨z,hz,rfl⟩:_ ∈ x4.map fun z:Pt=>((z.2.2.2.1.map fun y:Sm=>(y.2.2.size+0)+1).sum+0)+1)
 have h2:=RH _ _ (List.mem_map.2 ⟨s,hs,rfl⟩:_ ∈ z.2.2.2.1.map fun y:Sm=>(y.2.2.size+0)+1)
 omega
end Go.Proofs.YthoimblkpcikdaaGreatDoor.PChain
