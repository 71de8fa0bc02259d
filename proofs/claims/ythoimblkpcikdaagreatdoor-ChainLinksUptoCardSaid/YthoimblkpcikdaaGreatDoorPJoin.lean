/- Join: the program's and the reference's. -/
import Derived.Test.YthoimblkpcikdaaGreatDoorPPiece
import Derived.Test.YthoimblkpcikdaaGreatDoorPBatch3
namespace Go.Proofs.YthoimblkpcikdaaGreatDoor.PJoin
open Go.RowKit Go.Proofs.YthoimblkpcikdaaGreatDoor.Mc Go.Proofs.YthoimblkpcikdaaGreatDoor.N Go.Proofs.YthoimblkpcikdaaGreatDoor.Plain Go.Proofs.YthoimblkpcikdaaGreatDoor.PureKeys Go.Proofs.YthoimblkpcikdaaGreatDoor.PPiece Go.Proofs.YthoimblkpcikdaaGreatDoor.PBatch3
open Go.Proofs.YthoimblkpcikdaaGreatDoor.PCrc (YX Lv EH)
open Go.Proofs.YthoimblkpcikdaaGreatDoor.PBatch2 (Dw Hq Fq JZ)
set_option linter.unusedSimpArgs false
set_option linter.unusedVariables false
abbrev Fr:Type:=Int × Int × Int × ByteArray
theorem AL {α:Type}{l:List α}{j:Nat}(h:j < l.length):l.take (j+1)=l.take j ++ [l[j]]:=by
 rw [List.take_add_one,List.getElem?_eq_getElem h]; rfl
theorem scan {σ β γ:Type} {f:σ->Option (σ ⊕ (β ⊕ γ))} (n:Nat) (g:Nat->Bool) (st:Nat->σ) (c:γ) (hs:∀ i,i < n->(∀ j,j < i->g j=true)->if g i=true then f (st i)=some (.inl (st (i+1))) else ∃ b,f (st i)=some (.inr (.inl b))) (he:f (st n)=some (.inr (.inr c))) :
   ∀ (m i k:Nat),i+m=n->m < k->(∀ j,j < i->g j=true)->if (∀ j,j < n->g j=true) then AB f k (st i)=some (.inr c) else ∃ b,AB f k (st i)=some (.inl b)
 | 0,i,k,hi,hk,ha=>by
   obtain ⟨k,rfl⟩:∃ q,k=q+1:=⟨k - 1,by omega⟩
   have hin:i=n:=by omega
   subst hin
   rw [if_pos ha,AK he]
 | m + 1,i,k,hi,hk,ha=>by
   obtain ⟨k,rfl⟩:∃ q,k=q+1:=⟨k - 1,by omega⟩
   have h:=hs i (by omega) ha
   by_cases hg:g i=true
   · rw [if_pos hg] at h
     rw [AU h]
     exact scan n g st c hs he m (i+1) k (by omega) (by omega) fun j hj=>by
       rcases Nat.lt_succ_iff_lt_or_eq.1 hj with hj | rfl
       · exact ha j hj
       · exact hg
   · rw [if_neg hg] at h
     obtain ⟨b,hb⟩:=h
     rw [if_neg (fun hall=>hg (hall i (by omega)))]
     exact ⟨b,AK hb⟩
def Gm (f:Fr):Bool:=pr f.1 f.2.1 f.2.2.1 f.2.2.2
def Fz (s:Int)(i:Nat)(f:Fr):Bool:=f.1 == 2 && (f.2.1 == s && f.2.2.1 == (i:Int))
def CW (l:List Fr)(i:Nat):ByteArray:=(l.take i).foldl (fun b f=>b ++ f.2.2.2) (⟨#[]⟩:ByteArray)
theorem KY (l:List Fr)(i:Nat)(h:i < l.length):CW l (i+1)=CW l i ++ l[i].2.2.2:=by
 unfold CW
 rw [AL h,List.foldl_append]; rfl
def Small (l:List Fr):Prop:=l.length<=1000/\∀ f ∈ l,f.2.2.2.size<=1100000
theorem Pz (l:List Fr)(hl:Small l):∀ i,i<=l.length->(CW l i).size<=1100000 * i
 | 0,_=>Nat.zero_le _
 | i+1,h=>by
   have ih:=Pz l hl i (by omega)
   have:=hl.2 _ (List.getElem_mem (show i < l.length by omega))
   rw [KY l i (by omega),ByteArray.size_append]
   omega
abbrev Out:Type:=Int × Int × Int × List PBatch1.Wr × Int
noncomputable def fin (b:ByteArray)(z:Fr):Out :=
 if g4 z.2.2.2 12 ≠ IntKind.wrap .u32 (b.size:Int) then (0,0,0,[],5) else if g4 z.2.2.2 8 ≠ YX b then (0,0,0,[],5) else if (EK b).2 ≠ 0 then (0,0,0,[],(EK b).2) else (z.2.1,g4 z.2.2.2 0,g4 z.2.2.2 4,(EK b).1,0)
theorem De (K:Nat) (hK:2000000<=K) (l:List Fr) (hl:Small l) (hb:(CW l (l.length - 1)).size<=1500000) (h2:2<=l.length) (z:Fr) (hz:l[l.length - 1]? = some z):jM K l=some (if (∀ j,j < l.length->((l[j]?.map Gm).getD false)=true)/\z.1=3/\z.2.2.1=((l.length - 1:Nat):Int)/\∀ j,j < l.length - 1->((l[j]?.map (Fz z.2.1 j)).getD false)=true then fin (CW l (l.length - 1)) z else (0,0,0,[],2)):=by
 have hn:(l.length:Int) - 1=((l.length - 1:Nat):Int):=by omega
 have hL:=hl.1
 unfold jM
 rw [AF (by omega)]
 have s1:=scan (f:=Hg K l) l.length (fun j=>(l[j]?.map Gm).getD false) (fun i=>(i:Int)) () (fun i hi _=>by
   have hsz:=hl.2 _ (List.getElem_mem hi)
   have e:Hg K l (i:Int)=cond (!(Gm l[i])) (some (.inr (.inl ()))) (some (.inl ((i+1:Nat):Int))):=by
     unfold Hg Gm
     rw [AE (by omega),Bz,List.getElem?_eq_getElem hi,Option.bind_some,jI K _ _ _ _ (by omega),Option.bind_some,Aq (by omega) (by omega)]; rfl
   rw [e]
   simp only [List.getElem?_eq_getElem hi,Option.map_some,Option.getD_some]
   cases Gm l[i] with
   | true=>rw [if_pos rfl]; rfl
   | false=>rw [if_neg (by decide)]; exact ⟨(),rfl⟩) (by
   unfold Hg
   rw [AF (by omega)]) l.length 0 K (by omega) (by omega) (fun j hj=>absurd hj (by omega))
 by_cases ha:∀ j,j < l.length->((l[j]?.map Gm).getD false)=true
 · rw [if_pos ha] at s1
   have s1':AB (Hg K l) K (0:Int)=some (.inr ()):=s1
   rw [s1', Option.bind_some]
   simp only [BM]
   rw [Aq (by omega) (by omega),hn,Bz,hz,Option.bind_some]
   have hzp:Gm z=true:=by
     have:=ha (l.length - 1) (by omega)
     rw [hz] at this
     exact this
   have hzs:z.2.2.2.size<=1100000:=hl.2 z (List.mem_of_getElem? hz)
   by_cases h3:z.1=3
   · rw [show (z.1 != 3)=false by rw [h3]; rfl,cond_false,Option.bind_some,Iz (by omega) (by omega)]
     by_cases hp:z.2.2.1=((l.length - 1:Nat):Int)
     · rw [show (z.2.2.1 != ((l.length - 1:Nat):Int))=false by rw [hp]; exact bne_self_eq_false _,cond_false]
       have s2:=scan (f:=IC K z l) (l.length - 1) (fun j=>(l[j]?.map (Fz z.2.1 j)).getD false) (fun i=>(CW l i,(i:Int))) (CW l (l.length - 1)) (fun i hi _=>by
         have hil:i < l.length:=by omega
         have hsz:=hl.2 _ (List.getElem_mem hil)
         have hbs:=Pz l hl i (by omega)
         have e:IC K z l (CW l i,(i:Int))=cond (!(Fz z.2.1 i l[i])) (some (.inr (.inl ()))) (some (.inl (CW l (i+1),((i+1:Nat):Int)))):=by
           unfold IC Fz
           dsimp only
           rw [Aq (x:=(l.length:Int) - 1) (by omega) (by omega),AE (by omega)]
           simp only [Bz,List.getElem?_eq_getElem hil,Option.bind_some]
           rw [Iz (by omega) (by omega),KY l i hil,Aq (by omega) (by omega),Ak (by omega)]
           simp only [bne]
           cases (l[i].1 == 2) <;> cases (l[i].2.1 == z.2.1) <;> cases (l[i].2.2.1 == (i:Int)) <;> rfl
         rw [e]
         simp only [List.getElem?_eq_getElem hil,Option.map_some,Option.getD_some]
         cases Fz z.2.1 i l[i] with
         | true=>rw [if_pos rfl]; rfl
         | false=>rw [if_neg (by decide)]; exact ⟨(),rfl⟩) (by
         unfold IC
         dsimp only
         rw [Aq (by omega) (by omega),AF (by omega)]) (l.length - 1) 0 K (by omega) (by omega) (fun j hj=>absurd hj (by omega))
       by_cases hq:∀ j,j < l.length - 1->((l[j]?.map (Fz z.2.1 j)).getD false)=true
       · rw [if_pos hq] at s2
         have s2':AB (IC K z l) K ((⟨#[]⟩:ByteArray),(0:Int))=some (.inr (CW l (l.length - 1))):=s2
         rw [if_pos ⟨ha,h3,hp,hq⟩,s2', Option.bind_some]
         generalize CW l (l.length - 1)=b at *
         have hz16:z.2.2.2.size=16:=by
           unfold Gm pr at hzp
           rw [h3] at hzp
           by_cases hs:(z.2.2.2.size:Int)=16
           · omega
           · rw [beq_eq_false_iff_ne.2 hs] at hzp
             revert hzp
             cases decide (z.2.1 < 1) || decide (2147483647 < z.2.1) <;> cases z.2.2.1 != 0 <;> simp
         dsimp only
         rw [show My K z.2.2.2 12=_ from DA K z.2.2.2 12 (by omega) (by omega),show My K z.2.2.2 8=_ from DA K z.2.2.2 8 (by omega) (by omega),show My K z.2.2.2 0=_ from DA K z.2.2.2 0 (by omega) (by omega),show My K z.2.2.2 4=_ from DA K z.2.2.2 4 (by omega) (by omega),EH K (by omega) b (by omega) (by omega),TF K hK b (by omega)]
         simp only [Option.bind_some]
         unfold fin
         by_cases f1:g4 z.2.2.2 12=IntKind.wrap .u32 (b.size:Int)
         · by_cases f2:g4 z.2.2.2 8=YX b
           · by_cases f3:(EK b).2=0
             · simp [f1,f2,f3]
             · have f3':((EK b).2 != 0)=true:=bne_iff_ne.2 f3
               simp [f1,f2,f3,f3']
           · have f2':(g4 z.2.2.2 8 != YX b)=true:=bne_iff_ne.2 f2
             simp [f1,f2,f2']
         · have f1':(g4 z.2.2.2 12 != IntKind.wrap .u32 (b.size:Int))=true:=bne_iff_ne.2 f1
           simp [f1,f1']
       · rw [if_neg hq] at s2
         obtain ⟨x,hx⟩:=s2
         have hx':AB (IC K z l) K ((⟨#[]⟩:ByteArray),(0:Int))=some (.inl x):=hx
         rw [if_neg (fun h=>hq h.2.2.2),hx']; rfl
     · rw [bne_iff_ne.2 hp,cond_true,if_neg (fun h=>hp h.2.2.1)]
   · rw [bne_iff_ne.2 h3,cond_true,Option.bind_some,cond_true,if_neg (fun h=>h3 h.2.1)]
 · rw [if_neg ha] at s1
   obtain ⟨x,hx⟩:=s1
   have hx':AB (Hg K l) K (0:Int)=some (.inl x):=hx
   rw [hx', if_neg (fun h=>ha h.1)]; rfl
end Go.Proofs.YthoimblkpcikdaaGreatDoor.PJoin
