/- What the functions that read batches out of bytes compute. -/
import Derived.Test.YthoimblkpcikdaaGreatDoorPBatch2
import Derived.Test.YthoimblkpcikdaaGreatDoorPBatch1x
namespace Go.Proofs.YthoimblkpcikdaaGreatDoor.PBatch3
open Go.RowKit Go.Proofs.YthoimblkpcikdaaGreatDoor.Mc Go.Proofs.YthoimblkpcikdaaGreatDoor.N Go.Proofs.YthoimblkpcikdaaGreatDoor.Plain Go.Proofs.YthoimblkpcikdaaGreatDoor.PureRune Go.Proofs.YthoimblkpcikdaaGreatDoor.PureKeys Go.Proofs.YthoimblkpcikdaaGreatDoor.MLay Go.Proofs.YthoimblkpcikdaaGreatDoor.PLay Go.Proofs.YthoimblkpcikdaaGreatDoor.PBatch1 Go.Proofs.YthoimblkpcikdaaGreatDoor.PBatch2
set_option linter.unusedSimpArgs false
set_option linter.unusedVariables false
def ro (b:ByteArray) (at_:Int):ByteArray × Bool × ByteArray × Int × Int :=
 if (b.size:Int)<=at_ then (ByteArray.empty,false,ByteArray.empty,0,3)
 else if 1 < bt b at_ then (ByteArray.empty,false,ByteArray.empty,0,2)
 else
   let x:=Aw b (at_+1) 48
   if x.2.2 ≠ 0\/bt b at_=1 then (x.1,bt b at_ == 1,ByteArray.empty,x.2.1,x.2.2)
   else
     let y:=Aw b x.2.1 48
     (x.1,bt b at_ == 1,y.1,y.2.1,y.2.2)
theorem Ik {b:ByteArray}{at_ most:Int}(h:(Aw b at_ most).2.2=0)(hm:most<=1000):0<=at_/\at_<=(Aw b at_ most).2.1/\(Aw b at_ most).2.1<=at_+1010/\(Aw b at_ most).2.1<=b.size/\(Aw b at_ most).1.size<=1000:=by
 obtain ⟨p,s,rfl,e,h1,h2,h3⟩:=bo h
 have hs:s.size<=1000:=by omega
 have:=(Bu _ (IC s)).2
 have ht:=DW s
 rw [e]
 refine ⟨by omega,by dsimp only; omega,by dsimp only; omega,by dsimp only; omega,hs⟩
theorem cA {K:Nat}(hk:6<=K)(b:ByteArray)(at_:Int)(hsz:b.size<=9223372036854775807)(h0:0<=at_)(hat:at_<=9223372036854770000):dR K b at_=some (ro b at_):=by
 unfold dR ro
 by_cases h1:(b.size:Int)<=at_
 · rw [AK h1,if_pos h1]
 rw [AJ h1,if_neg h1,BB (by omega)]
 by_cases h2:1 < bt b at_
 · rw [AK h2,if_pos h2]
 rw [AJ h2,if_neg h2,BB (by omega),BK (by omega) (by omega),KN hk b (at_+1) 48 hsz (by omega),Option.bind_some]
 dsimp only
 by_cases h3:(Aw b (at_+1) 48).2.2=0
 · have hp:=Ik h3 (by omega)
   rw [h3,show ((0:Int) != 0)=false from rfl,cond_false,Option.bind_some]
   by_cases h4:bt b at_=1
   · rw [h4,show ((1:Int) == 1)=true from rfl,cond_true,if_pos (Or.inr rfl)]
   · rw [beq_eq_false_iff_ne.2 h4,cond_false,if_neg (by omega),KN hk b _ 48 hsz (by omega),Option.bind_some]
 · rw [bne_iff_ne.2 h3,cond_true,Option.bind_some,cond_true,if_pos (Or.inl h3)]
theorem gI {b:ByteArray} {at_:Int} (h:(ro b at_).2.2.2.2=0):at_ < b.size /\ -1<=at_/\at_<=(ro b at_).2.2.2.1/\(ro b at_).2.2.2.1<=at_+3000/\(ro b at_).2.2.2.1<=b.size/\(ro b at_).1.size<=1000/\(ro b at_).2.2.1.size<=1000:=by
 unfold ro at h ⊢
 by_cases h1:(b.size:Int)<=at_
 · rw [if_pos h1] at h; simp at h
 rw [if_neg h1] at h ⊢
 by_cases h2:1 < bt b at_
 · rw [if_pos h2] at h; simp at h
 rw [if_neg h2] at h ⊢
 dsimp only at h ⊢
 by_cases h3:(Aw b (at_+1) 48).2.2 ≠ 0\/bt b at_=1
 · rw [if_pos h3] at h ⊢
   have hp:=Ik h (by omega)
   exact ⟨by omega,by omega,by show _<=(Aw b (at_+1) 48).2.1; omega,by show (Aw b (at_+1) 48).2.1<=_; omega,by show (Aw b (at_+1) 48).2.1<=_; omega,hp.2.2.2.2,by show ByteArray.empty.size<=_; decide⟩
 · rw [if_neg h3] at h ⊢
   have h3':(Aw b (at_+1) 48).2.2=0:=by
     rcases Classical.em ((Aw b (at_+1) 48).2.2=0) with e | e
     · exact e
     · exact absurd (Or.inl e) h3
   have hp:=Ik h3' (by omega)
   have hq:=Ik h (by omega)
   exact ⟨by omega,by omega,by show _<=(Aw b (Aw b (at_+1) 48).2.1 48).2.1; omega,by show (Aw b (Aw b (at_+1) 48).2.1 48).2.1<=_; omega,by show (Aw b (Aw b (at_+1) 48).2.1 48).2.1<=_; omega,hp.2.2.2.2,hq.2.2.2.2⟩
def rd (b:ByteArray):Nat->Int->List Wr->Int ⊕ (Int × List Wr)
 | 0,at_,out=>.inr (at_,out)
 | n+1,at_,out=>if (ro b at_).2.2.2.2 ≠ 0 then .inl (ro b at_).2.2.2.2 else rd b n (ro b at_).2.2.2.1 (out ++ [((ro b at_).1,(ro b at_).2.1,(ro b at_).2.2.1)])
theorem Ow (K:Nat) (hK:6<=K) (b:ByteArray) (hsz:b.size<=9223372036854775807) (y:Int × Int × Int) (n0:Nat) (hn0:n0<=8) (hy:y.1=n0):∀ (n i k:Nat) (at_:Int) (out:List Wr),i+n=n0->n < k->0<=at_->at_<=10+3000 * i->out.length=i ->
   AE (Hp K b y) k (at_,(i:Int),out)=some (rd b n at_ out)
 | 0,i,k,at_,out,hi,hk,ha,hb,ho=>by
   obtain ⟨k,rfl⟩:∃ q,k=q+1:=⟨k - 1,by omega⟩
   refine AO ?_
   unfold Hp
   rw [AJ (by rw [hy]; show ¬ (i:Int) < n0; omega)]; rfl
 | n + 1,i,k,at_,out,hi,hk,ha,hb,ho=>by
   obtain ⟨k,rfl⟩:∃ q,k=q+1:=⟨k - 1,by omega⟩
   have h1:=cA hK b at_ hsz ha (by omega)
   rw [rd]
   by_cases he:(ro b at_).2.2.2.2=0
   · have hp:=gI he
     rw [if_neg (fun h=>h he)]
     rw [Ab (b:=((ro b at_).2.2.2.1,((i+1:Nat):Int),out ++ [((ro b at_).1,(ro b at_).2.1,(ro b at_).2.2.1)]))]
     · exact Ow K hK b hsz y n0 hn0 hy n (i+1) k _ _ (by omega) (by omega) (by omega) (by omega) (by rw [List.length_append,ho]; rfl)
     · unfold Hp
       simp only [h1,Option.bind_some]
       rw [AK (by rw [hy]; omega),he,show ((0:Int) != 0)=false from rfl,cond_false,BB (by rw [ho]; simp only [List.length_singleton]; omega),Kt (by omega) (by omega)]; rfl
   · rw [if_pos he]
     refine AO ?_
     unfold Hp
     simp only [h1,Option.bind_some]
     rw [AK (by rw [hy]; omega),bne_iff_ne.2 he,cond_true]
noncomputable def KB (b:ByteArray):List Wr × Int :=
 let r:=Aj (bt b) b.size 0
 if r.2.2 ≠ 0 then ([],r.2.2) else if r.1 < 1\/8 < r.1 then ([],12) else
   match rd b r.1.toNat r.2.1 [] with
   | .inl e=>([],e)
   | .inr z=>if z.1 < b.size then ([],2) else if Bq z.2 ≠ 0 then ([],Bq z.2) else (z.2,0)
theorem bp {b:ByteArray}(h:(Aj (bt b) b.size 0).2.2=0):0<=(Aj (bt b) b.size 0).2.1/\(Aj (bt b) b.size 0).2.1<=10/\(Aj (bt b) b.size 0).2.1<=b.size:=by
 obtain ⟨p,c,h0,h1,hc,h2,h3,h4⟩:=SU b 0 h
 have:=(Bu c hc).2
 omega
theorem YD (K:Nat) (hK:2000000<=K) (b:ByteArray) (hsz:b.size<=9223372036854775807):RI K b=some (KB b):=by
 unfold RI KB
 rw [VU (by omega) b 0 hsz (by omega),Option.bind_some]
 dsimp only
 by_cases h0:(Aj (bt b) b.size 0).2.2=0
 · have hp:=bp h0
   have hb:=FK b 0
   rw [h0,show ((0:Int) != 0)=false from rfl,cond_false,if_neg (by simp)]
   by_cases h1:(Aj (bt b) b.size 0).1 < 1
   · rw [AK h1,if_pos (Or.inl h1)]; rfl
   rw [AJ h1,Option.bind_some]
   by_cases h2:8 < (Aj (bt b) b.size 0).1
   · rw [AK h2,if_pos (Or.inr h2)]
   rw [AJ h2,if_neg (by omega)]
   have hl:=Ow K (by omega) b hsz (Aj (bt b) b.size 0) (Aj (bt b) b.size 0).1.toNat (by omega) (by omega) (Aj (bt b) b.size 0).1.toNat 0 K (Aj (bt b) b.size 0).2.1 [] (by omega) (by omega) hp.1 (by have:=hp.2.1; omega) rfl
   rw [Int.natCast_zero] at hl
   rw [hl,Option.bind_some]
   show BN _ _ (rd b (Aj (bt b) b.size 0).1.toNat (Aj (bt b) b.size 0).2.1 [])=_
   cases hr:rd b (Aj (bt b) b.size 0).1.toNat (Aj (bt b) b.size 0).2.1 [] with
   | inl e=>rfl
   | inr z =>
     simp only [BN]
     by_cases h3:z.1 < b.size
     · rw [AK h3,if_pos h3]
     rw [AJ h3,if_neg h3,GS K _ hK,Option.bind_some]
     by_cases h4:Bq z.2=0
     · rw [h4]; rfl
     · rw [bne_iff_ne.2 h4,cond_true,if_pos h4]
 · rw [bne_iff_ne.2 h0,cond_true,if_pos h0]
end Go.Proofs.YthoimblkpcikdaaGreatDoor.PBatch3
