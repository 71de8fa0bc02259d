/- Join as the program has it. -/
import Derived.Test.YthoimblkpcikdaaGreatDoorPJoin
namespace Go.Proofs.YthoimblkpcikdaaGreatDoor.PJoin2
open Go.Proofs.YthoimblkpcikdaaGreatDoor.PJoin
open Go.RowKit Go.Proofs.YthoimblkpcikdaaGreatDoor.Mc Go.Proofs.YthoimblkpcikdaaGreatDoor.N Go.Proofs.YthoimblkpcikdaaGreatDoor.Plain Go.Proofs.YthoimblkpcikdaaGreatDoor.PureKeys Go.Proofs.YthoimblkpcikdaaGreatDoor.PPiece Go.Proofs.YthoimblkpcikdaaGreatDoor.PBatch3
open Go.Proofs.YthoimblkpcikdaaGreatDoor.PCrc (Zj LI FI)
open Go.Proofs.YthoimblkpcikdaaGreatDoor.PBatch2 (Dg HM FQ IP)
set_option linter.unusedSimpArgs false
set_option linter.unusedVariables false
theorem step (K:Nat) (l:List Fr) (hl:Small l) (h2:2<=l.length) (sq pt pv fr sm sz:Int) (i:Nat) (hi:i < l.length - 1) (hb:(DH l i).size<=1500000) :
   if ((l[i]?.map fun f=>Jq f && Kq sq i f).getD false)=true then EW K l (sq,pt,pv,fr,sm,sz,true) ((i:Int),AZ (DH l i))=some (.inl (((i+1:Nat):Int),AZ (DH l (i+1)))) else ∃ b,EW K l (sq,pt,pv,fr,sm,sz,true) ((i:Int),AZ (DH l i))=some (.inr (.inl b)):=by
 have hL:=hl.1
 have hil:i < l.length:=by omega
 have hsz2:=hl.2 _ (List.getElem_mem hil)
 have hcl:(cut l 0 (IntKind.wrap .i64 ((l.length:Int) - 1))).length=l.length - 1:=by
   rw [BK (by omega) (by omega)]
   unfold cut
   rw [List.length_drop,List.length_take]; omega
 have hci:(cut l 0 (IntKind.wrap .i64 ((l.length:Int) - 1)))[i]? = some l[i]:=by
   rw [BK (by omega) (by omega)]
   unfold cut
   rw [show ((0:Int).toNat)=0 from rfl,List.drop_zero,List.getElem?_take,if_pos (by omega),List.getElem?_eq_getElem hil]
 simp only [List.getElem?_eq_getElem hil,Option.map_some,Option.getD_some]
 generalize hf:l[i]=f at *
 obtain ⟨k,a,b,t⟩:=f
 unfold EW
 dsimp only
 rw [hcl,AK (by omega)]
 simp only [DP,Int.toNat_natCast,hci,List.getElem?_eq_getElem hil,hf,Option.bind_some]
 dsimp only at hsz2
 rw [NZ K k a b t (by omega),Option.bind_some]
 unfold KO Jq Kq
 dsimp only
 cases hp:pr k a b t with
 | false=>exact ⟨_,rfl⟩
 | true =>
   rw [cond_true,Bool.true_and]
   by_cases k1:k=1
   · subst k1; exact ⟨_,rfl⟩
   · by_cases k2:k=2
     · subst k2
       rw [show ((2:Int) == 1)=false from rfl,show ((2:Int) == 2)=true from rfl,cond_false,cond_true]
       simp only [BN,Option.bind_some]
       unfold Us
       simp only [Option.bind_some,Bool.not_true,cond_false,Bool.true_and]
       rw [Kt (by omega) (by omega)]
       by_cases ha:a=sq
       · rw [show (a != sq)=false by rw [ha]; exact bne_self_eq_false _,cond_false,Option.bind_some,ha,beq_self_eq_true,Bool.true_and]
         by_cases hbb:b=(i:Int)
         · rw [hbb,bne_self_eq_false,cond_false,beq_self_eq_true,if_pos rfl]
           have hlen:(AZ (DH l i)).length=(DH l i).size:=CN _
           rw [PBatch2.Xe K t _ (by omega),Option.bind_some]
           simp only [Option.bind_some]
           rw [BK (by omega) (by omega),Wd l i hil,hf,Dg]; rfl
         · rw [bne_iff_ne.2 hbb,cond_true,beq_eq_false_iff_ne.2 hbb,if_neg (by decide)]; exact ⟨_,rfl⟩
       · rw [bne_iff_ne.2 ha,cond_true,Option.bind_some,cond_true,beq_eq_false_iff_ne.2 ha,Bool.false_and,if_neg (by decide)]; exact ⟨_,rfl⟩
     · by_cases k3:k=3
       · subst k3; exact ⟨_,rfl⟩
       · rw [beq_eq_false_iff_ne.2 k1,beq_eq_false_iff_ne.2 k2,beq_eq_false_iff_ne.2 k3,Bool.false_and,if_neg (by decide)]; exact ⟨_,rfl⟩
theorem Ya (K:Nat) (hK:2000000<=K) (l:List Fr) (hl:Small l) (hb:∀ i,i<=l.length - 1->(DH l i).size<=1500000) (h2:2<=l.length) (z:Fr) (hz:l[l.length - 1]? = some z):kY K l=some (if (∀ j,j < l.length->((l[j]?.map Jq).getD false)=true)/\z.1=3/\z.2.2.1=((l.length - 1:Nat):Int)/\∀ j,j < l.length - 1->((l[j]?.map (Kq z.2.1 j)).getD false)=true then fin (DH l (l.length - 1)) z else (0,0,0,[],2)):=by
 have hn:(l.length:Int) - 1=((l.length - 1:Nat):Int):=by omega
 have hL:=hl.1
 have hzs:z.2.2.2.size<=1100000:=hl.2 z (List.mem_of_getElem? hz)
 have hbl:=hb (l.length - 1) (Nat.le_refl _)
 have hzl:(((l[l.length - 1]?).map Jq).getD false)=Jq z:=by rw [hz]; rfl
 unfold kY
 rw [AJ (by omega),BK (by omega) (by omega),hn]
 simp only [DP,Int.toNat_natCast,hz,Option.bind_some]
 rw [NZ K _ _ _ _ (by omega),Option.bind_some]
 obtain ⟨k,a,b,t⟩:=z
 dsimp only at *
 have hpz:Jq (k,a,b,t)=pr k a b t:=rfl
 unfold KO
 cases hp:pr k a b t with
 | false =>
   rw [if_neg (fun h=>by have:=h.1 (l.length - 1) (by omega); rw [hzl,hpz,hp] at this; cases this)]
   rfl
 | true =>
   rw [cond_true]
   by_cases k1:k=1
   · subst k1; rw [if_neg (fun h=>absurd h.2.1 (by decide))]; rfl
   · by_cases k2 : k=2
     · subst k2; rw [if_neg (fun h=>absurd h.2.1 (by decide))]; rfl
     · by_cases k3 : k=3
       · subst k3
         rw [show ((3:Int) == 1)=false from rfl,show ((3:Int) == 2)=false from rfl,show ((3:Int) == 3)=true from rfl,cond_false,cond_false,cond_true]
         simp only [BN,Option.bind_some]
         unfold Uu
         simp only [Option.bind_some,Bool.not_true,cond_false]
         rw [Kt (by omega) (by omega)]
         by_cases hpt:b=((l.length - 1:Nat):Int)
         · rw [show (b != ((l.length - 1:Nat):Int))=false by rw [hpt]; exact bne_self_eq_false _,cond_false,Ec (by unfold Be; exact decide_eq_true (by omega))]
           have s:=scan (f:=EW K l (a,b,g4 t 0,g4 t 4,g4 t 8,g4 t 12,true)) (l.length - 1) (fun j=>(l[j]?.map fun f=>Jq f && Kq a j f).getD false) (fun i=>((i:Int),AZ (DH l i))) (AZ (DH l (l.length - 1))) (fun i hi _=>step K l hl h2 a b _ _ _ _ i hi (hb i (by omega))) (by
             have hcl:(cut l 0 (IntKind.wrap .i64 ((l.length:Int) - 1))).length=l.length - 1:=by
               rw [BK (by omega) (by omega)]
               unfold cut
               rw [List.length_drop,List.length_take]; omega
             unfold EW
             dsimp only
             rw [hcl,AJ (by omega)]) (l.length - 1) 0 K (by omega) (by omega) (fun j hj=>absurd hj (by omega))
           have hst:((((0:Nat):Int)),AZ (DH l 0))=((0:Int),([]:List Int)):=rfl
           rw [hst] at s
           by_cases hq:∀ j,j < l.length - 1->((l[j]?.map fun f=>Jq f && Kq a j f).getD false)=true
           · rw [if_pos hq] at s
             have hall:(∀ j,j < l.length->((l[j]?.map Jq).getD false)=true)/\(3:Int)=3/\b=((l.length - 1:Nat):Int)/\∀ j,j < l.length - 1->((l[j]?.map (Kq a j)).getD false)=true:=by
               refine ⟨fun j hj=>?_,rfl,hpt,fun j hj=>?_⟩
               · by_cases hjl:j=l.length - 1
                 · subst hjl; rw [hzl,hpz,hp]
                 · have:=hq j (by omega)
                   rw [List.getElem?_eq_getElem hj] at this ⊢
                   simp only [Option.map_some,Option.getD_some,Bool.and_eq_true] at this ⊢
                   exact this.1
               · have:=hq j hj
                 rw [List.getElem?_eq_getElem (show j < l.length by omega)] at this ⊢
                 simp only [Option.map_some,Option.getD_some,Bool.and_eq_true] at this ⊢
                 exact this.2
             rw [if_pos ⟨hall.1,trivial,hall.2.2.1,hall.2.2.2⟩,s,Option.bind_some]
             generalize DH l (l.length - 1)=bb at *
             unfold UD
             simp only [Option.bind_some,CN]
             unfold fin
             dsimp only
             by_cases f1:g4 t 12=IntKind.wrap .u32 (bb.size:Int)
             · rw [f1,bne_self_eq_false,cond_false,HM K bb,Option.bind_some,LI K (by omega) bb (by omega) (by omega),Option.bind_some,Option.bind_some]
               by_cases f2:g4 t 8=Zj bb
               · have e1:Fx K (AZ bb)=some (bb,AZ bb):=by
                   unfold Fx
                   rw [Ec (FQ bb),IP]
                 rw [f2,bne_self_eq_false,cond_false,e1,Option.bind_some,YD K hK bb (by omega),Option.bind_some]
                 by_cases f3:(KB bb).2=0
                 · simp [f3]
                 · have f3':((KB bb).2 != 0)=true:=bne_iff_ne.2 f3
                   simp [f3,f3']
               · rw [bne_iff_ne.2 (fun h=>f2 h.symm),cond_true,if_neg (fun h=>h rfl),if_pos f2]
             · rw [bne_iff_ne.2 (fun h=>f1 h.symm),cond_true,Option.bind_some,cond_true,if_pos f1]
           · rw [if_neg hq] at s
             obtain ⟨x,hx⟩:=s
             rw [hx,if_neg (fun h=>hq fun j hj=>by
               have q1:=h.1 j (by omega)
               have q2:=h.2.2.2 j hj
               rw [List.getElem?_eq_getElem (show j < l.length by omega)] at q1 q2 ⊢
               simp only [Option.map_some,Option.getD_some,Bool.and_eq_true] at q1 q2 ⊢
               exact ⟨q1,q2⟩)]
             rfl
         · rw [bne_iff_ne.2 hpt,cond_true,if_neg (fun h=>hpt h.2.2.1)]
       · rw [beq_eq_false_iff_ne.2 k1,beq_eq_false_iff_ne.2 k2,beq_eq_false_iff_ne.2 k3,if_neg (fun h=>k3 h.2.1)]; rfl
end Go.Proofs.YthoimblkpcikdaaGreatDoor.PJoin2
