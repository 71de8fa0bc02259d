/- What the functions that read batches out of bytes compute. -/
import Derived.Test.YthoimblkpcikdaaGreatDoorPBatch2
import Derived.Test.YthoimblkpcikdaaGreatDoorPBatch1x
namespace Go.Proofs.YthoimblkpcikdaaGreatDoor.PBatch3
open Go.RowKit Go.Proofs.YthoimblkpcikdaaGreatDoor.Mc Go.Proofs.YthoimblkpcikdaaGreatDoor.N Go.Proofs.YthoimblkpcikdaaGreatDoor.Plain Go.Proofs.YthoimblkpcikdaaGreatDoor.PureRune Go.Proofs.YthoimblkpcikdaaGreatDoor.PureKeys Go.Proofs.YthoimblkpcikdaaGreatDoor.MLay Go.Proofs.YthoimblkpcikdaaGreatDoor.PLay Go.Proofs.YthoimblkpcikdaaGreatDoor.PBatch1 Go.Proofs.YthoimblkpcikdaaGreatDoor.PBatch2
set_option linter.unusedSimpArgs false
set_option linter.unusedVariables false
def ro (b:ByteArray) (at_:Int):ByteArray × Bool × ByteArray × Int × Int :=
 if (b.size:Int)<=at_ then (ByteArray.empty,false,ByteArray.empty,0,3)
 else if 1 < bt b at_ then (ByteArray.empty,false,ByteArray.empty,0,2)
 else
   let x:=Aa b (at_+1) 48
   if x.2.2 ≠ 0\/bt b at_=1 then (x.1,bt b at_ == 1,ByteArray.empty,x.2.1,x.2.2)
   else
     let y:=Aa b x.2.1 48
     (x.1,bt b at_ == 1,y.1,y.2.1,y.2.2)
theorem JG {b:ByteArray}{at_ most:Int}(h:(Aa b at_ most).2.2=0)(hm:most<=1000):0<=at_/\at_<=(Aa b at_ most).2.1/\(Aa b at_ most).2.1<=at_+1010/\(Aa b at_ most).2.1<=b.size/\(Aa b at_ most).1.size<=1000:=by
 obtain ⟨p,s,rfl,e,h1,h2,h3⟩:=eu h
 have hs:s.size<=1000:=by omega
 have:=(Bu _ (JN s)).2
 have ht:=Dj s
 rw [e]
 refine ⟨by omega,by dsimp only; omega,by dsimp only; omega,by dsimp only; omega,hs⟩
theorem eS {K:Nat}(hk:6<=K)(b:ByteArray)(at_:Int)(hsz:b.size<=9223372036854775807)(h0:0<=at_)(hat:at_<=9223372036854770000):eA K b at_=some (ro b at_):=by
 unfold eA ro
 by_cases h1:(b.size:Int)<=at_
 · rw [AE h1,if_pos h1]
 rw [AF h1,if_neg h1,Ak (by omega)]
 by_cases h2:1 < bt b at_
 · rw [AE h2,if_pos h2]
 rw [AF h2,if_neg h2,Ak (by omega),Aq (by omega) (by omega),Km hk b (at_+1) 48 hsz (by omega),Option.bind_some]
 dsimp only
 by_cases h3:(Aa b (at_+1) 48).2.2=0
 · have hp:=JG h3 (by omega)
   rw [h3,show ((0:Int) != 0)=false from rfl,cond_false,Option.bind_some]
   by_cases h4:bt b at_=1
   · rw [h4,show ((1:Int) == 1)=true from rfl,cond_true,if_pos (Or.inr rfl)]
   · rw [beq_eq_false_iff_ne.2 h4,cond_false,if_neg (by omega),Km hk b _ 48 hsz (by omega),Option.bind_some]
 · rw [bne_iff_ne.2 h3,cond_true,Option.bind_some,cond_true,if_pos (Or.inl h3)]
theorem Vf {b:ByteArray} {at_:Int} (h:(ro b at_).2.2.2.2=0):at_ < b.size /\ -1<=at_/\at_<=(ro b at_).2.2.2.1/\(ro b at_).2.2.2.1<=at_+3000/\(ro b at_).2.2.2.1<=b.size/\(ro b at_).1.size<=1000/\(ro b at_).2.2.1.size<=1000:=by
 unfold ro at h ⊢
 by_cases h1:(b.size:Int)<=at_
 · rw [if_pos h1] at h; simp at h
 rw [if_neg h1] at h ⊢
 by_cases h2:1 < bt b at_
 · rw [if_pos h2] at h; simp at h
 rw [if_neg h2] at h ⊢
 dsimp only at h ⊢
 by_cases h3:(Aa b (at_+1) 48).2.2 ≠ 0\/bt b at_=1
 · rw [if_pos h3] at h ⊢
   have hp:=JG h (by omega)
   exact ⟨by omega,by omega,by show _<=(Aa b (at_+1) 48).2.1; omega,by show (Aa b (at_+1) 48).2.1<=_; omega,by show (Aa b (at_+1) 48).2.1<=_; omega,hp.2.2.2.2,by show ByteArray.empty.size<=_; decide⟩
 · rw [if_neg h3] at h ⊢
   have h3':(Aa b (at_+1) 48).2.2=0:=by
     rcases Classical.em ((Aa b (at_+1) 48).2.2=0) with e | e
     · exact e
     · exact absurd (Or.inl e) h3
   have hp:=JG h3' (by omega)
   have hq:=JG h (by omega)
   exact ⟨by omega,by omega,by show _<=(Aa b (Aa b (at_+1) 48).2.1 48).2.1; omega,by show (Aa b (Aa b (at_+1) 48).2.1 48).2.1<=_; omega,by show (Aa b (Aa b (at_+1) 48).2.1 48).2.1<=_; omega,hp.2.2.2.2,hq.2.2.2.2⟩
def rd (b:ByteArray):Nat->Int->List Wr->Int ⊕ (Int × List Wr)
 | 0,at_,out=>.inr (at_,out)
 | n+1,at_,out=>if (ro b at_).2.2.2.2 ≠ 0 then .inl (ro b at_).2.2.2.2 else rd b n (ro b at_).2.2.2.1 (out ++ [((ro b at_).1,(ro b at_).2.1,(ro b at_).2.2.1)])
theorem PE (K:Nat) (hK:6<=K) (b:ByteArray) (hsz:b.size<=9223372036854775807) (y:Int × Int × Int) (n0:Nat) (hn0:n0<=8) (hy:y.1=n0):∀ (n i k:Nat) (at_:Int) (out:List Wr),i+n=n0->n < k->0<=at_->at_<=10+3000 * i->out.length=i ->
   AB (Im K b y) k (at_,(i:Int),out)=some (rd b n at_ out)
 | 0,i,k,at_,out,hi,hk,ha,hb,ho=>by
   obtain ⟨k,rfl⟩:∃ q,k=q+1:=⟨k - 1,by omega⟩
   refine AK ?_
   unfold Im
   rw [AF (by rw [hy]; show ¬ (i:Int) < n0; omega)]; rfl
 | n + 1,i,k,at_,out,hi,hk,ha,hb,ho=>by
   obtain ⟨k,rfl⟩:∃ q,k=q+1:=⟨k - 1,by omega⟩
   have h1:=eS hK b at_ hsz ha (by omega)
   rw [rd]
   by_cases he:(ro b at_).2.2.2.2=0
   · have hp:=Vf he
     rw [if_neg (fun h=>h he)]
     rw [AU (b:=((ro b at_).2.2.2.1,((i+1:Nat):Int),out ++ [((ro b at_).1,(ro b at_).2.1,(ro b at_).2.2.1)]))]
     · exact PE K hK b hsz y n0 hn0 hy n (i+1) k _ _ (by omega) (by omega) (by omega) (by omega) (by rw [List.length_append,ho]; rfl)
     · unfold Im
       simp only [h1,Option.bind_some]
       rw [AE (by rw [hy]; omega),he,show ((0:Int) != 0)=false from rfl,cond_false,Ak (by rw [ho]; simp only [List.length_singleton]; omega),Iz (by omega) (by omega)]; rfl
   · rw [if_pos he]
     refine AK ?_
     unfold Im
     simp only [h1,Option.bind_some]
     rw [AE (by rw [hy]; omega),bne_iff_ne.2 he,cond_true]
theorem JD (K:Nat) (hK:6<=K) (b:ByteArray) (hsz:b.size<=9223372036854775807) (y:Int × Int × Int) (n0:Nat) (hn0:n0<=8) (hy:y.1=n0):∀ (n i k:Nat) (at_:Int) (out:List Wr),i+n=n0->n < k->0<=at_->at_<=10+3000 * i->out.length=i ->
   AB (Mn K b y) k (at_,(i:Int),out)=some (rd b n at_ out)
 | 0,i,k,at_,out,hi,hk,ha,hb,ho=>by
   obtain ⟨k,rfl⟩:∃ q,k=q+1:=⟨k - 1,by omega⟩
   refine AK ?_
   unfold Mn
   rw [hy,Aq (by omega) (by omega),AF (by show ¬ (i:Int) < n0; omega)]; rfl
 | n + 1,i,k,at_,out,hi,hk,ha,hb,ho=>by
   obtain ⟨k,rfl⟩:∃ q,k=q+1:=⟨k - 1,by omega⟩
   have step:Mn K b y (at_,(i:Int),out)=if (ro b at_).2.2.2.2 ≠ 0 then some (.inr (.inl (ro b at_).2.2.2.2)) else some (.inl ((ro b at_).2.2.2.1,((i+1:Nat):Int),out ++ [((ro b at_).1,(ro b at_).2.1,(ro b at_).2.2.1)])):=by
     unfold Mn
     rw [hy,Aq (x:=(n0:Int)) (by omega) (by omega),AE (by show (i:Int) < n0; omega)]
     simp only []
     by_cases h1:(b.size:Int)<=at_
     · have e:ro b at_=(ByteArray.empty,false,ByteArray.empty,0,3):=by unfold ro; rw [if_pos h1]
       rw [AE h1,e]; rfl
     rw [AF h1,Ak (by omega)]
     by_cases h2:1 < bt b at_
     · have e:ro b at_=(ByteArray.empty,false,ByteArray.empty,0,2):=by unfold ro; rw [if_neg h1,if_pos h2]
       rw [AE h2,e]; rfl
     rw [AF h2,Ak (by omega),Aq (x:=at_+1) (by omega) (by omega),GP hK b (at_+1) 48 hsz,Option.bind_some]
     have wi:IntKind.wrap .i64 ((i:Int)+1)=((i+1:Nat):Int):=by rw [Aq (by omega) (by omega)]; omega
     rw [wi]
     have gr:∀ w:Wr,(out.length+[w].length) * 40<=140737488355328:=fun w=>by rw [ho]; simp only [List.length_singleton]; omega
     by_cases h3:(Aa b (at_+1) 48).2.2=0
     · by_cases h4:bt b at_=1
       · have e:ro b at_=((Aa b (at_+1) 48).1,bt b at_ == 1,ByteArray.empty,(Aa b (at_+1) 48).2.1,(Aa b (at_+1) 48).2.2):=by unfold ro; rw [if_neg h1,if_neg h2]; exact if_pos (Or.inr h4)
         rw [e,h3,h4]
         simp only [Ak (gr _)]
         rfl
       · have e:ro b at_=((Aa b (at_+1) 48).1,bt b at_ == 1,(Aa b (Aa b (at_+1) 48).2.1 48).1,(Aa b (Aa b (at_+1) 48).2.1 48).2.1,(Aa b (Aa b (at_+1) 48).2.1 48).2.2):=by unfold ro; rw [if_neg h1,if_neg h2]; exact if_neg (by rintro (h | h); exact h h3; exact h4 h)
         rw [e,h3,show ((0:Int) == 0)=true from rfl,beq_eq_false_iff_ne.2 h4,Bool.not_false,cond_true,Option.bind_some,cond_true,GP hK b _ 48 hsz,Option.bind_some,Option.bind_some]
         simp only []
         by_cases h5:(Aa b (Aa b (at_+1) 48).2.1 48).2.2=0
         · rw [h5,show ((0:Int) != 0)=false from rfl,cond_false,if_neg (fun h=>h rfl),Ak (gr _)]
         · rw [bne_iff_ne.2 h5,cond_true,if_pos h5]
     · have e:ro b at_=((Aa b (at_+1) 48).1,bt b at_ == 1,ByteArray.empty,(Aa b (at_+1) 48).2.1,(Aa b (at_+1) 48).2.2):=by unfold ro; rw [if_neg h1,if_neg h2]; exact if_pos (Or.inl h3)
       rw [e,beq_eq_false_iff_ne.2 h3,cond_false,Option.bind_some,cond_false,Option.bind_some]
       simp only []
       rw [bne_iff_ne.2 h3,cond_true,if_pos h3]
   rw [rd]
   by_cases he:(ro b at_).2.2.2.2=0
   · have hp:=Vf he
     rw [if_neg (fun h=>h he)] at step ⊢
     rw [AU step]
     exact JD K hK b hsz y n0 hn0 hy n (i+1) k _ _ (by omega) (by omega) (by omega) (by omega) (by rw [List.length_append,ho]; rfl)
   · rw [if_pos he] at step ⊢
     exact AK step
def cN (l:List Wr):Prop:=∀ w ∈ l,w.1.size<=1000/\w.2.2.size<=1000
theorem bN (b:ByteArray):∀ (n:Nat) (at_:Int) (out:List Wr) {q:Int} {l:List Wr},rd b n at_ out=.inr (q,l)->0<=at_->at_<=b.size->cN out->q<=b.size/\at_<=q/\cN l/\l.length=out.length+n
 | 0,at_,out,q,l,h,h0,ha,ho=>by
   rw [rd] at h
   cases h
   exact ⟨ha,Int.le_refl _,ho,rfl⟩
 | n + 1,at_,out,q,l,h,h0,ha,ho=>by
   rw [rd] at h
   by_cases he:(ro b at_).2.2.2.2=0
   · have hp:=Vf he
     rw [if_neg (fun h=>h he)] at h
     obtain ⟨h1,h2,h3,h4⟩:=bN b n _ _ h (by omega) (by omega) (by
       intro w hw
       rcases List.mem_append.1 hw with hw | hw
       · exact ho w hw
       · rw [List.mem_singleton.1 hw]; exact ⟨hp.2.2.2.2.2.1,hp.2.2.2.2.2.2⟩)
     refine ⟨h1,by omega,h3,by rw [h4,List.length_append,List.length_singleton]; omega⟩
   · rw [if_pos he] at h; cases h
noncomputable def EK (b:ByteArray):List Wr × Int :=
 let r:=AY (bt b) b.size 0
 if r.2.2 ≠ 0 then ([],r.2.2) else if r.1 < 1\/8 < r.1 then ([],12) else
   match rd b r.1.toNat r.2.1 [] with
   | .inl e=>([],e)
   | .inr z=>if z.1 < b.size then ([],2) else if Bb z.2 ≠ 0 then ([],Bb z.2) else (z.2,0)
theorem Qb {b:ByteArray}(h:(AY (bt b) b.size 0).2.2=0):0<=(AY (bt b) b.size 0).2.1/\(AY (bt b) b.size 0).2.1<=10/\(AY (bt b) b.size 0).2.1<=b.size:=by
 obtain ⟨p,c,h0,h1,hc,h2,h3,h4⟩:=Sd b 0 h
 have:=(Bu c hc).2
 omega
theorem bS (K:Nat) (hK:2000000<=K) (b:ByteArray) (hsz:b.size<=9223372036854775807):TQ K b=some (EK b):=by
 unfold TQ EK
 rw [Xl (by omega) b 0 hsz (by omega),Option.bind_some]
 dsimp only
 by_cases h0:(AY (bt b) b.size 0).2.2=0
 · have hp:=Qb h0
   have hb:=Dg b 0
   rw [h0,show ((0:Int) != 0)=false from rfl,cond_false,if_neg (by simp)]
   by_cases h1:(AY (bt b) b.size 0).1 < 1
   · rw [AE h1,if_pos (Or.inl h1)]; rfl
   rw [AF h1,Option.bind_some]
   by_cases h2:8 < (AY (bt b) b.size 0).1
   · rw [AE h2,if_pos (Or.inr h2)]
   rw [AF h2,if_neg (by omega)]
   have hl:=PE K (by omega) b hsz (AY (bt b) b.size 0) (AY (bt b) b.size 0).1.toNat (by omega) (by omega) (AY (bt b) b.size 0).1.toNat 0 K (AY (bt b) b.size 0).2.1 [] (by omega) (by omega) hp.1 (by have:=hp.2.1; omega) rfl
   rw [Int.natCast_zero] at hl
   rw [hl,Option.bind_some]
   show BM _ _ (rd b (AY (bt b) b.size 0).1.toNat (AY (bt b) b.size 0).2.1 [])=_
   cases hr:rd b (AY (bt b) b.size 0).1.toNat (AY (bt b) b.size 0).2.1 [] with
   | inl e=>rfl
   | inr z =>
     simp only [BM]
     by_cases h3:z.1 < b.size
     · rw [AE h3,if_pos h3]
     rw [AF h3,if_neg h3,HA K _ hK,Option.bind_some]
     by_cases h4:Bb z.2=0
     · rw [h4]; rfl
     · rw [bne_iff_ne.2 h4,cond_true,if_pos h4]
 · rw [bne_iff_ne.2 h0,cond_true,if_pos h0]
theorem TF (K:Nat) (hK:2000000<=K) (b:ByteArray) (hsz:b.size<=9223372036854775807):pI K b=some (EK b):=by
 unfold pI EK
 rw [OB (by omega) b 0 hsz,Option.bind_some]
 dsimp only
 by_cases h0:(AY (bt b) b.size 0).2.2=0
 · have hp:=Qb h0
   have hb:=Dg b 0
   rw [h0,show ((0:Int) != 0)=false from rfl,cond_false,if_neg (by simp)]
   by_cases h1:(AY (bt b) b.size 0).1 < 1
   · rw [AE h1,if_pos (Or.inl h1)]; rfl
   rw [AF h1,Option.bind_some]
   by_cases h2:8 < (AY (bt b) b.size 0).1
   · rw [AE h2,if_pos (Or.inr h2)]
   rw [AF h2,if_neg (by omega)]
   have hl:=JD K (by omega) b hsz (AY (bt b) b.size 0) (AY (bt b) b.size 0).1.toNat (by omega) (by omega) (AY (bt b) b.size 0).1.toNat 0 K (AY (bt b) b.size 0).2.1 [] (by omega) (by omega) hp.1 (by have:=hp.2.1; omega) rfl
   rw [Int.natCast_zero] at hl
   rw [hl,Option.bind_some]
   show BM _ _ (rd b (AY (bt b) b.size 0).1.toNat (AY (bt b) b.size 0).2.1 [])=_
   cases hr:rd b (AY (bt b) b.size 0).1.toNat (AY (bt b) b.size 0).2.1 [] with
   | inl e=>rfl
   | inr z =>
     obtain ⟨k1,k2,k3,k4⟩:=bN b _ _ [] (q:=z.1) (l:=z.2) hr hp.1 hp.2.2 (fun w hw=>by cases hw)
     simp only [BM]
     by_cases h3:z.1 < b.size
     · rw [bne_iff_ne.2 (by omega:z.1 ≠ (b.size:Int)),cond_true,if_pos h3]
     rw [show (z.1 != (b.size:Int))=false by rw [bne_eq_false_iff_eq]; omega,cond_false,if_neg h3,PBatch1x.dP K _ (fun w hw=>by have:=k3 w hw; omega) hK,Option.bind_some]
     by_cases h4:Bb z.2=0
     · rw [h4]; rfl
     · rw [bne_iff_ne.2 h4,cond_true,if_pos h4]
 · rw [bne_iff_ne.2 h0,cond_true,if_pos h0]
theorem Kj (b:ByteArray):DK (EK b).1/\(EK b).1.length<=8:=by
 have nil:DK ([]:List Wr)/\([]:List Wr).length<=8:=⟨fun w hw=>(by cases hw),by simp⟩
 unfold EK
 dsimp only
 by_cases h0:(AY (bt b) b.size 0).2.2=0
 · rw [if_neg (fun k=>k h0)]
   by_cases h1:(AY (bt b) b.size 0).1 < 1\/8 < (AY (bt b) b.size 0).1
   · rw [if_pos h1]; exact nil
   rw [if_neg h1]
   have hp:=Qb h0
   cases hr:rd b (AY (bt b) b.size 0).1.toNat (AY (bt b) b.size 0).2.1 [] with
   | inl e=>exact nil
   | inr z =>
     have Cc:=bN b _ _ [] (q:=z.1) (l:=z.2) hr hp.1 hp.2.2 (fun w hw=>by cases hw)
     simp only
     by_cases h3:z.1 < b.size
     · rw [if_pos h3]; exact nil
     rw [if_neg h3]
     by_cases h4:Bb z.2=0
     · rw [if_neg (fun k=>k h4)]
       refine ⟨fun w hw=>by have:=Cc.2.2.1 w hw; omega,?_⟩
       show z.2.length<=8
       rw [Cc.2.2.2]; simp; omega
     · rw [if_pos h4]; exact nil
 · rw [if_pos h0]; exact nil
end Go.Proofs.YthoimblkpcikdaaGreatDoor.PBatch3
