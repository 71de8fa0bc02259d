/- Numbers and texts as bytes: the plain part, and what the functions of lay and the document's compute. -/
import Derived.Test.YthoimblkpcikdaaGreatDoorPlain
import Derived.Test.YthoimblkpcikdaaGreatDoorMLay
import Derived.Test.YthoimblkpcikdaaGreatDoorPureRune
import Derived.Test.YthoimblkpcikdaaGreatDoorPureKeys
namespace Go.Proofs.YthoimblkpcikdaaGreatDoor.PLay
open Go.RowKit Go.Proofs.YthoimblkpcikdaaGreatDoor.Mc Go.Proofs.YthoimblkpcikdaaGreatDoor.N Go.Proofs.YthoimblkpcikdaaGreatDoor.MLay Go.Proofs.YthoimblkpcikdaaGreatDoor.Plain Go.Proofs.YthoimblkpcikdaaGreatDoor.PureRune Go.Proofs.YthoimblkpcikdaaGreatDoor.PureKeys
set_option linter.unusedSimpArgs false
set_option linter.unusedVariables false
theorem eK {β:Type}{c:Bool}{k:Option β}(h:c=true):Ai c k=k:=by subst h; rfl
def nI (v:Nat):List Int:=(Pj v).map fun x:Nat=>(x:Int)
theorem Ln {v:Nat}(h:v < 128):nI v=[(v:Int)]:=by rw [nI,Hl h]; rfl
theorem UJ {v:Nat}(h:¬ v < 128):nI v=((v:Int) % 128+128) :: nI (v / 128):=by rw [nI,SY h]; simp [nI]
theorem wrap_u8 (x:Int):IntKind.u8.wrap x=x % 256:=rfl
theorem gv (v:Nat):IntKind.wrap .u8 ((IntKind.wrap .u8 (Int.tmod (v:Int) 128))+128)=(v:Int) % 128+128:=by
 rw [wrap_u8,wrap_u8,Int.tmod_eq_emod_of_nonneg (by omega)]; omega
theorem cY (v:Nat)(h:v < 4294967296):IntKind.wrap .u32 (Int.tdiv (v:Int) 128)=((v / 128:Nat):Int):=by
 rw [Int.tdiv_eq_ediv_of_nonneg (by omega),wrap_u32]; omega
theorem Bu (v:Nat)(hv:v < 4294967296):1<=(nI v).length/\(nI v).length<=5:=by
 have:=KY 4 v (Nat.lt_of_lt_of_le hv (by decide))
 simpa [nI] using this
def ln (s:ByteArray):Nat:=s.size % 4294967296
theorem IC (s:ByteArray):ln s < 4294967296:=Nat.mod_lt _ (by decide)
theorem gV (s:ByteArray):IntKind.wrap .u32 (s.size:Int)=(ln s:Int):=by rw [wrap_u32]; unfold ln; omega
theorem Nt (xs:List Int):(strOfNums xs).size=xs.length:=strOfNums_size xs
theorem Bt (x:ByteArray)(p:Int):0<=bt x p/\bt x p<=255:=by
 unfold bt
 split
 · rename_i h
   have:=(x[p.toNat]'h).toNat_lt
   omega
 · omega
theorem digit (c v:Int) (i:Nat) (hi:i<=4) (h0:0<=c) (h1:c<=255) (hc:i=4->c<=15) (hv0:0<=v) (hv:v < 2 ^ (7 * i)) :
   Go.bits .or .u32 v (IntKind.wrap .u32 ((c % 128) * 2 ^ min (7 * (i:Int)).toNat (IntKind.bits .u32)))=v+(c % 128) * 2 ^ (7 * i):=by
 obtain ⟨v,rfl⟩:=Int.eq_ofNat_of_zero_le hv0
 obtain ⟨c,rfl⟩:=Int.eq_ofNat_of_zero_le h0
 have hv':v < 2 ^ (7 * i):=by exact_mod_cast hv
 have hm:IntKind.wrap .u32 (((c:Int) % 128) * 2 ^ min (7 * (i:Int)).toNat (IntKind.bits .u32))=(((c % 128) * 2 ^ (7 * i):Nat):Int):=by
   rw [wrap_u32,show min (7 * (i:Int)).toNat IntKind.u32.bits=7 * i from by simp only [IntKind.bits]; omega]
   have hb:(c % 128) * 2 ^ (7 * i) < 4294967296:=by
     by_cases e:i=4
     · subst e; have:=hc rfl; simp; omega
     · have h2:(2:Nat) ^ (7 * i)<=2 ^ 21:=Nat.pow_le_pow_right (by decide) (by omega)
       have h3:(c % 128) * 2 ^ (7 * i)<=127 * 2 ^ 21:=Nat.mul_le_mul (by omega) h2
       omega
   have e:(c:Int) % 128 * 2 ^ (7 * i)=(((c % 128) * 2 ^ (7 * i):Nat):Int):=by rw [Int.natCast_mul,Int.natCast_emod,Int.natCast_pow]; rfl
   rw [e]
   exact Int.emod_eq_of_lt (Int.natCast_nonneg _) (Int.ofNat_lt.2 hb)
 rw [hm,EL,fj v (c % 128) i hv']
 · rw [Int.natCast_add,Int.natCast_mul,Int.natCast_emod,Int.natCast_pow]; rfl
 · exact Nat.lt_of_lt_of_le hv' (Nat.pow_le_pow_right (by decide) (by omega))
 · by_cases e:i=4
   · subst e; have:=hc rfl; simp; omega
   · have h2:(2:Nat) ^ (7 * i)<=2 ^ 21:=Nat.pow_le_pow_right (by decide) (by omega)
     have h3:(c % 128) * 2 ^ (7 * i)<=127 * 2 ^ 21:=Nat.mul_le_mul (by omega) h2
     omega
theorem VT (c v:Int)(i:Nat)(_:0<=c)(hv0:0<=v)(hv:v < 2 ^ (7 * i)):0<=v+(c % 128) * 2 ^ (7 * i)/\v+(c % 128) * 2 ^ (7 * i) < 2 ^ (7 * (i+1)):=by
 have e:(2:Int) ^ (7 * (i+1))=128 * 2 ^ (7 * i):=by rw [Nat.mul_add,Int.pow_add]; omega
 rw [e]
 have h2:(c % 128) * 2 ^ (7 * i)<=127 * 2 ^ (7 * i):=Int.mul_le_mul_of_nonneg_right (by omega) (Int.le_of_lt (Int.pow_pos (by decide)))
 have h3:0<=(c % 128) * 2 ^ (7 * i):=Int.mul_nonneg (by omega) (Int.le_of_lt (Int.pow_pos (by decide)))
 omega
theorem Yl {α:Type}(p:Prop)[Decidable p](a b:α):cond (decide p) a b=if p then a else b:=by by_cases h:p <;> simp [h]
theorem jD {α:Type}(p:Bool)(a b:α):cond p a b=if p=true then a else b:=by cases p <;> rfl
theorem qj (i:Nat):(2:Int) ^ (7 * (i+1))=128 * 2 ^ (7 * i):=by rw [Nat.mul_add,Int.pow_add]; omega
theorem Xs (b:Int->Int) (size:Int) (hb:∀ p,0<=b p/\b p<=255):∀ (n i:Nat) (p v w q:Int),gn n b size p i v=(w,q,0) ->
   ∃ c:Nat,w=v+c * 2 ^ (7 * i)/\q=p+(nI c).length/\q<=size/\(∀ (j:Nat) (x:Int),(nI c)[j]? = some x->b (p+j)=x)/\(0 < i->0 < c)
 | 0,i,p,v,w,q,h=>by simp [gn] at h
 | n + 1,i,p,v,w,q,h=>by
   unfold gn at h
   by_cases c1:p >= size
   · rw [if_pos c1] at h; simp at h
   rw [if_neg c1] at h
   by_cases c2:((i:Int)=4/\b p > 15)\/((i:Int) > 0/\b p=0)
   · rw [if_pos c2] at h; simp at h
   rw [if_neg c2] at h
   have hbp:=hb p
   have ei:((i:Int)).toNat=i:=by omega
   rw [ei] at h
   obtain ⟨d,hd⟩:=Int.eq_ofNat_of_zero_le hbp.1
   by_cases c3:b p < 128
   · rw [if_pos c3] at h
     simp only [Prod.mk.injEq,and_true] at h
     obtain ⟨rfl,rfl⟩:=h
     have Vo:d < 128:=by omega
     refine ⟨d,?_,?_,by omega,?_,?_⟩
     · rw [hd]; congr 2; omega
     · rw [Ln Vo]; simp
     · intro j x hj
       rw [Ln Vo] at hj
       cases j with
       | zero=>simp at hj; rw [<- hj,<- hd]; simp
       | succ j=>simp at hj
     · intro hi
       rcases Nat.eq_zero_or_pos d with h0 | h0
       · exact absurd (Or.inr ⟨by omega,by omega⟩) c2
       · exact h0
   · rw [if_neg c3] at h
     rw [show ((i:Int)+1)=((i+1:Nat):Int) from by omega] at h
     obtain ⟨c,hw,hq,hqs,hx,hc⟩:=Xs b size hb n (i+1) (p+1) _ w q h
     have hc':=hc (by omega)
     have hbig:¬ (d % 128+128 * c) < 128:=by omega
     have e1:(d % 128+128 * c) / 128=c:=by omega
     refine ⟨d % 128+128 * c,?_,?_,hqs,?_,fun _=>by omega⟩
     · rw [hw,hd,qj]
       rw [Int.natCast_add,Int.natCast_mul,Int.natCast_emod]
       generalize (2:Int) ^ (7 * i)=t
       rw [Int.add_mul,Int.add_assoc]
       congr 2
       rw [<- Int.mul_assoc]
       congr 1
       exact Int.mul_comm _ _
     · rw [UJ hbig,e1,hq]; simp; omega
     · intro j x hj
       rw [UJ hbig,e1] at hj
       cases j with
       | zero =>
         simp at hj
         rw [<- hj,Int.natCast_zero,Int.add_zero,hd]
         omega
       | succ j =>
         have:=hx j x (by simpa using hj)
         rw [<- this]
         congr 1
         omega
theorem QL (b:ByteArray)(p:Nat)(h:p < b.size):bt b (p:Int)=((b.data[p]'(by simpa using h)).toNat:Int):=by
 unfold bt
 rw [dif_pos (by simpa using h)]
 rfl
theorem iy (b:ByteArray)(p:Nat)(c:Nat)(hp:p+(nI c).length<=b.size)(hx:∀ (j:Nat) (x:Int),(nI c)[j]? = some x->bt b ((p:Int)+j)=x):b.extract p (p+(nI c).length)=strOfNums (nI c):=by
 apply ByteArray.ext
 apply Array.ext
 · show (b.extract p (p+(nI c).length)).size=(strOfNums (nI c)).size
   rw [ByteArray.size_extract,strOfNums_size]; omega
 · intro j h1 h2
   have hj:j < (nI c).length:=by simpa [strOfNums] using h2
   have hg:=hx j _ (List.getElem?_eq_getElem hj)
   have hpj:p+j < b.size:=by omega
   rw [show (p:Int)+j=((p+j:Nat):Int) from by omega,QL b (p+j) hpj] at hg
   simp only [strOfNums,ByteArray.data_extract,Array.getElem_extract,List.getElem_toArray,List.getElem_map]
   rw [<- hg]
   simp
def Aw (b:ByteArray)(at_ most:Int):ByteArray × Int × Int :=
 let r:=Aj (bt b) b.size at_
 if r.2.2 ≠ 0 then (ByteArray.mk #[],0,r.2.2)
 else if max most 0 < r.1 then (ByteArray.mk #[],0,4)
 else if b.size - r.2.1 < r.1 then (ByteArray.mk #[],0,3)
 else (b.extract r.2.1.toNat (r.2.1+r.1).toNat,r.2.1+r.1,0)
theorem FK (b:ByteArray)(at_:Int):0<=(Aj (bt b) b.size at_).1/\(Aj (bt b) b.size at_).1 < 4294967296/\0<=(Aj (bt b) b.size at_).2.1/\((Aj (bt b) b.size at_).2.2=0->0<=at_/\at_ < (Aj (bt b) b.size at_).2.1/\(Aj (bt b) b.size at_).2.1<=b.size):=by
 unfold Aj
 by_cases h:at_ < 0\/at_ > b.size
 · rw [if_pos h]; simp
 · rw [if_neg h]
   have:=SC (bt b) b.size (Bt b) 5 at_ 0 0 (by omega) (by omega) (by omega) (by simp)
   simp only [Int.natCast_zero] at this
   exact ⟨this.1,this.2.1,this.2.2.1,fun h0=>⟨by omega,this.2.2.2.2 h0⟩⟩
theorem gW (a b:Int):mx a b=max a b:=by unfold mx; split <;> omega
theorem fF (b:ByteArray)(p:Nat)(h:p < b.size):bt b (p:Int)=((b[p]'h).toNat:Int):=by
 unfold bt
 rw [dif_pos (by simpa using h)]
 rfl
theorem cg (xs:List Int)(j:Nat)(x:Int)(hj:xs[j]? = some x)(h:j < (strOfNums xs).size):(strOfNums xs)[j]'h=UInt8.ofNat x.toNat:=by
 obtain ⟨h1,h2⟩:=List.getElem?_eq_some_iff.1 hj
 rw [ByteArray.getElem_eq_getElem_data]
 simp only [strOfNums,List.getElem_toArray,List.getElem_map,h2]
theorem PN (A B:ByteArray)(xs:List Int)(hb:∀ (j:Nat) (x:Int),xs[j]? = some x->0<=x/\x<=255)(j:Nat)(x:Int)(hj:xs[j]? = some x):bt (A ++ strOfNums xs ++ B) ((A.size:Int)+j)=x:=by
 have hjl:=(List.getElem?_eq_some_iff.1 hj).1
 have hx:=hb j x hj
 have hN:(strOfNums xs).size=xs.length:=strOfNums_size xs
 have hlt:A.size+j < (A ++ strOfNums xs ++ B).size:=by rw [ByteArray.size_append,ByteArray.size_append,hN]; omega
 rw [show (A.size:Int)+j=((A.size+j:Nat):Int) from by omega,fF _ _ hlt]
 rw [ByteArray.getElem_append_left (by rw [ByteArray.size_append,hN]; omega),ByteArray.getElem_append_right (by omega)]
 have e:A.size+j - A.size=j:=by omega
 have:=cg xs j x hj (by omega)
 simp only [e,this]
 simp
 omega
theorem KF (K:Nat):∀ (d n v:Nat) (acc:List Int),d < n->v < 4294967296->v < 128 ^ (d+1)->acc.length+d<=1000->∃ r,AE (QJ K) n ((v:Int),acc)=some r/\r.2 ++ [IntKind.wrap .u8 r.1]=acc ++ nI v/\r.2.length<=1000
 | d,0,v,acc,hn,_,_,_=>by omega
 | d,n+1,v,acc,hn,hv', hv,ha=>by
   by_cases h:v < 128
   · refine ⟨((v:Int),acc),AO (by unfold QJ; rw [AJ (by omega)]),?_,by show acc.length<=1000; omega⟩
     rw [Ln h,wrap_u8]
     show acc ++ [(v:Int) % 256]=_
     rw [show (v:Int) % 256=(v:Int) by omega]
   · cases d with
     | zero=>simp at hv; omega
     | succ d =>
       obtain ⟨r,r1,r2,r3⟩:=KF K d n (v / 128) (acc ++ [(v:Int) % 128+128]) (by omega) (by omega) (by rw [Nat.div_lt_iff_lt_mul (by decide)]; rw [Nat.pow_succ] at hv; exact hv) (by simp only [List.length_append,List.length_singleton]; omega)
       refine ⟨r,?_,by rw [r2,UJ h,List.append_assoc]; rfl,r3⟩
       rw [Ab (b:=(((v / 128:Nat):Int),acc ++ [(v:Int) % 128+128]))]
       · exact r1
       · unfold QJ
         rw [AK (by omega),BB (by simp only [List.length_singleton]; omega)]
         simp only [gv,cY v hv']
theorem MM {K:Nat}(hk:5<=K)(v:Nat)(hv:v < 4294967296):ZM K (v:Int)=some (strOfNums (nI v)):=by
 obtain ⟨r,r1,r2,r3⟩:=KF K 4 K v [] (by omega) hv (Nat.lt_of_lt_of_le hv (by decide)) (by simp)
 unfold ZM
 rw [r1,Option.bind_some,BB (by simp only [List.length_singleton]; omega),r2,List.nil_append]
def tx (s:ByteArray):ByteArray:=strOfNums (nI (ln s)) ++ s
theorem Kb {K:Nat}(hk:5<=K)(s:ByteArray)(hs:s.size<=140737488351232):Wx K s=some (tx s):=by
 unfold Wx tx
 rw [gV,MM hk _ (IC s),Option.bind_some,eK]
 have:=Bu _ (IC s)
 rw [Nt]
 exact decide_eq_true (by omega)
theorem DW (s:ByteArray):(tx s).size=(nI (ln s)).length+s.size:=by unfold tx; rw [ByteArray.size_append,strOfNums_size]
def HO (c:Int)(i:Nat):Prop:=((i:Int)=4/\c > 15)\/((i:Int) > 0/\c=0)
instance (c:Int) (i:Nat):Decidable (HO c i):=inferInstanceAs (Decidable (_\/_))
theorem aw (K:Nat) (b:ByteArray) (at_:Int) (ha:0<=at_) (hb:at_<=b.size) (hsz:b.size<=9223372036854775807) (hat:at_<=9223372036854775000) (i:Nat) (hi:i<=4) (v:Int) (hv0:0<=v) (hv:v < 2 ^ (7 * i)) :
   II K b at_ (v,(i:Int))=if at_+i >= b.size then some (.inr (.inl (0,0,3))) else if HO (bt b (at_+i)) i then some (.inr (.inl (0,0,2)))
     else if bt b (at_+i) < 128 then some (.inr (.inl (v+(bt b (at_+i) % 128) * 2 ^ (7 * i),at_+i+1,0))) else some (.inl (v+(bt b (at_+i) % 128) * 2 ^ (7 * i),((i+1:Nat):Int))):=by
 have hw:IntKind.wrap .i64 (at_+i)=at_+i:=BK (by omega) (by omega)
 have hr:=Bt b (at_+i)
 unfold II
 simp only [hw]
 rw [AK (by omega)]
 by_cases c1:at_+i >= b.size
 · rw [AK (by omega),if_pos c1]
 rw [AJ (by omega),if_neg c1,BB (by omega)]
 have e:((cond ((i:Int) == 4) (cond (decide (15 < (bt b (at_+i)))) (some true) (cond (decide (0 < (i:Int))) (some ((bt b (at_+i)) == 0)) (some false))) (cond (decide (0 < (i:Int))) (some ((bt b (at_+i)) == 0)) (some false)):Option Bool))=some (decide (HO (bt b (at_+i)) i)):=by
   rw [jD,Yl]
   by_cases e4:(i:Int)=4
   · rw [if_pos (by simpa using e4)]
     by_cases c15:(15:Int) < bt b (at_+i)
     · rw [if_pos c15]; exact congrArg some (decide_eq_true (Or.inl ⟨e4,c15⟩)).symm
     · rw [if_neg c15]
       by_cases cz:bt b (at_+i)=0
       · rw [decide_eq_true (show HO (bt b (at_+i)) i from Or.inr ⟨by omega,cz⟩),cz]
         first | (rw [AK (by omega)]; rfl) | (rw [decide_eq_true (by omega:(0:Int) < i)]; rfl)
       · rw [decide_eq_false (show ¬ HO (bt b (at_+i)) i from fun h=>by unfold HO at h; omega),beq_eq_false_iff_ne.2 cz]
         first | (rw [AK (by omega)]; done) | rfl
   · rw [if_neg (by simpa using e4)]
     by_cases cz:bt b (at_+i)=0
     · by_cases c0:(0:Int) < i
       · rw [decide_eq_true (show HO (bt b (at_+i)) i from Or.inr ⟨c0,cz⟩),cz]
         first | (rw [AK c0]; rfl) | (rw [decide_eq_true c0]; rfl)
       · rw [decide_eq_false (show ¬ HO (bt b (at_+i)) i from fun h=>by unfold HO at h; omega),cz]
         first | (rw [AJ c0]; done) | (rw [decide_eq_false c0]; rfl)
     · rw [decide_eq_false (show ¬ HO (bt b (at_+i)) i from fun h=>by unfold HO at h; omega),beq_eq_false_iff_ne.2 cz]
       cases decide ((0:Int) < i) <;> rfl
 rw [e,Option.bind_some]
 by_cases c2:HO (bt b (at_+i)) i
 · rw [decide_eq_true c2,if_pos c2]; rfl
 rw [decide_eq_false c2,if_neg c2,cond_false]
 have hd:=digit (bt b (at_+i)) v i (by omega) hr.1 hr.2 (fun e=>by
   rcases Int.lt_or_le 15 (bt b (at_+i)) with h | h
   · exact absurd (Or.inl ⟨by omega,h⟩) c2
   · exact h) hv0 hv
 have hand:=Yw (bt b (at_+i)) hr.1 (by omega)
 have h7:IntKind.wrap .i64 (7 * (i:Int))=7 * i:=BK (by omega) (by omega)
 have hm32:IntKind.wrap .u32 (bt b (at_+i) % 128)=bt b (at_+i) % 128:=by rw [wrap_u32]; omega
 simp only [h7,hand,hm32]
 rw [BB (by omega)]
 simp only [show (IntKind.bits .u32)=32 from rfl] at hd
 simp only [hd]
 by_cases c3:bt b (at_+i) < 128
 · rw [AK c3,if_pos c3,BK (by omega) (by omega)]
 · rw [AJ c3,if_neg c3,BK (by omega) (by omega)]; rfl
theorem Sx (K:Nat)(b:ByteArray)(at_:Int)(ha:0<=at_)(hb:at_<=b.size)(hsz:b.size<=9223372036854775807)(hat:at_<=9223372036854775000):∀ (n i m:Nat) (v:Int),i+n=5->n < m->0<=v->v < 2 ^ (7 * i) ->
   ∃ r,AE (II K b at_) m (v,(i:Int))=some r/\BN (fun y:Int × Int × Int=>some (y.1,y.2.1,y.2.2)) (fun _=>some (0,0,2)) r=some (gn n (bt b) b.size (at_+i) i v)
 | 0,i,m+1,v,hi,hm,_,_=>by
   obtain rfl:i=5:=by omega
   exact ⟨.inr (),AO (by unfold II; rw [AJ (by omega)]),by simp [gn,BN]⟩
 | n+1,i,m+1,v,hi,hm,hv0,hv=>by
   have hr:=Bt b (at_+i)
   have body:=aw K b at_ ha hb hsz hat i (by omega) v hv0 hv
   unfold gn
   rw [show ((i:Int)).toNat=i from by omega]
   by_cases c1:at_+i >= b.size
   · rw [if_pos c1] at body ⊢; exact ⟨_,AO body,rfl⟩
   rw [if_neg c1] at body ⊢
   by_cases c2:HO (bt b (at_+i)) i
   · rw [if_pos c2] at body; unfold HO at c2; rw [if_pos c2]; exact ⟨_,AO body,rfl⟩
   rw [if_neg c2] at body; unfold HO at c2; rw [if_neg c2]
   by_cases c3:bt b (at_+i) < 128
   · rw [if_pos c3] at body ⊢; exact ⟨_,AO body,rfl⟩
   rw [if_neg c3] at body ⊢
   obtain ⟨r,r1,r2⟩:=Sx K b at_ ha hb hsz hat n (i+1) m (v+(bt b (at_+i) % 128) * 2 ^ (7 * i)) (by omega) (by omega) (VT _ v i hr.1 hv0 hv).1 (VT _ v i hr.1 hv0 hv).2
   refine ⟨r,by rw [Ab body]; exact r1,?_⟩
   rw [r2,show at_+((i+1:Nat):Int)=at_+i+1 from by omega,show ((i+1:Nat):Int)=(i:Int)+1 from by omega]
theorem VU {K:Nat}(hk:6<=K)(b:ByteArray)(at_:Int)(hsz:b.size<=9223372036854775807)(hat:at_<=9223372036854775000):Zl K b at_=some (Aj (bt b) b.size at_):=by
 unfold Aj Zl
 by_cases c1:at_ < 0
 · rw [AK c1,if_pos (Or.inl c1)]; rfl
 rw [AJ c1]
 by_cases c2:(b.size:Int) < at_
 · rw [decide_eq_true c2,if_pos (Or.inr c2)]; rfl
 · rw [decide_eq_false c2,if_neg (by omega),Option.bind_some,cond_false]
   obtain ⟨r,r1,r2⟩:=Sx K b at_ (by omega) (by omega) hsz hat 5 0 K 0 (by omega) (by omega) (by omega) (by simp)
   rw [show ((0:Int),(0:Int))=((0:Int),((0:Nat):Int)) from rfl,r1,Option.bind_some]
   simp only [Int.natCast_zero,Int.add_zero] at r2
   exact r2
theorem Tt {b:ByteArray}{at_ most:Int}(hsz:b.size<=9223372036854775807) :
   ((some (Aj (bt b) b.size at_)).bind fun y2 =>
cond (y2.2.2 != 0) (
some ((⟨#[]⟩:ByteArray),0,y2.2.2)) (
cond (decide ((mx most 0) < (IntKind.wrap .i64 y2.1))) (
some ((⟨#[]⟩:ByteArray),0,4)) (
cond (decide ((IntKind.wrap .i64 ((b.size:Int) - y2.2.1)) < (IntKind.wrap .i64 y2.1))) (
some ((⟨#[]⟩:ByteArray),0,3)) (
Ai (Be (b.size:Int) y2.2.1 (IntKind.wrap .i64 (y2.2.1+(IntKind.wrap .i64 y2.1)))) <|
some ((b.extract y2.2.1.toNat ((IntKind.wrap .i64 (y2.2.1+(IntKind.wrap .i64 y2.1))).toNat)),(IntKind.wrap .i64 (y2.2.1+(IntKind.wrap .i64 y2.1))),0)))))=some (Aw b at_ most):=by
 have hb:=FK b at_
 unfold Aw
 generalize Aj (bt b) b.size at_=r at hb
 rw [Option.bind_some]
 dsimp only
 by_cases h0:r.2.2=0
 · rw [h0]
   have hbb:=hb.2.2.2 h0
   have Qt:IntKind.wrap .i64 r.1=r.1:=BK (by omega) (by omega)
   have hw2:IntKind.wrap .i64 ((b.size:Int) - r.2.1)=b.size - r.2.1:=BK (by omega) (by omega)
   rw [Qt,hw2,gW]
   simp only [bne_self_eq_false,cond_false,ne_eq,not_true_eq_false,if_false,Yl]
   by_cases h1:max most 0 < r.1
   · rw [if_pos h1,if_pos h1]
   · rw [if_neg h1,if_neg h1]
     by_cases h2:b.size - r.2.1 < r.1
     · rw [if_pos h2,if_pos h2]
     · have hw3:IntKind.wrap .i64 (r.2.1+r.1)=r.2.1+r.1:=BK (by omega) (by omega)
       rw [hw3,if_neg h2,if_neg h2,eK (by unfold Be; exact decide_eq_true (by omega))]
 · have:(r.2.2 != 0)=true:=by simpa using h0
   rw [this,cond_true,if_pos h0]
theorem KN {K:Nat}(hk:6<=K)(b:ByteArray)(at_ most:Int)(hsz:b.size<=9223372036854775807)(hat:at_<=9223372036854775000):aK K b at_ most=some (Aw b at_ most):=by
 unfold aK
 rw [VU hk b at_ hsz hat]
 exact Tt hsz
theorem SU (b:ByteArray)(at_:Int)(h:(Aj (bt b) b.size at_).2.2=0):∃ (p c:Nat),at_=p/\(Aj (bt b) b.size at_).1=c/\c < 4294967296/\(Aj (bt b) b.size at_).2.1=((p+(nI c).length:Nat):Int)/\p+(nI c).length<=b.size /\
   b.extract p (p+(nI c).length)=strOfNums (nI c):=by
 have hb:=FK b at_
 have h0:=(hb.2.2.2 h).1
 obtain ⟨p,rfl⟩:=Int.eq_ofNat_of_zero_le h0
 have hle:¬ ((p:Int) < 0\/(p:Int) > b.size):=by have:=hb.2.2.2 h; omega
 have e:Aj (bt b) b.size p=gn 5 (bt b) b.size p 0 0:=by unfold Aj; rw [if_neg hle]
 have hinv:=Xs (bt b) b.size (Bt b) 5 0 p 0 (Aj (bt b) b.size p).1 (Aj (bt b) b.size p).2.1 (by
   rw [show ((0:Nat):Int)=0 from rfl,<- e]
   rw [<- h])
 obtain ⟨c,h1,h2,h3,h4,_⟩:=hinv
 have h1':(Aj (bt b) b.size p).1=c:=by rw [h1]; simp
 refine ⟨p,c,rfl,h1', by omega,by rw [h2]; omega,by omega,iy b p c (by omega) h4⟩
theorem bo {b:ByteArray} {at_ most:Int} (h:(Aw b at_ most).2.2=0):∃ (p:Nat) (s:ByteArray),at_=p/\Aw b at_ most=(s,((p+(tx s).size:Nat):Int),0)/\(s.size:Int)<=max most 0/\p+(tx s).size<=b.size/\b.extract p (p+(tx s).size)=tx s:=by
 unfold Aw at h ⊢
 dsimp only at h ⊢
 by_cases h0:(Aj (bt b) b.size at_).2.2=0
 · obtain ⟨p,c,rfl,h1,hc,h2,h3,h4⟩:=SU b at_ h0
   simp only [h0,ne_eq,not_true_eq_false,if_false] at h ⊢
   by_cases h5:max most 0 < (Aj (bt b) b.size p).1
   · rw [if_pos h5] at h; simp at h
   rw [if_neg h5] at h ⊢
   by_cases h6:(b.size:Int) - (Aj (bt b) b.size p).2.1 < (Aj (bt b) b.size p).1
   · rw [if_pos h6] at h; simp at h
   rw [if_neg h6]
   rw [h1,h2] at *
   have e1:(((p+(nI c).length:Nat):Int)).toNat=p+(nI c).length:=by omega
   have e2:(((p+(nI c).length:Nat):Int)+(c:Int)).toNat=p+(nI c).length+c:=by omega
   rw [e1,e2]
   have hsz:(b.extract (p+(nI c).length) (p+(nI c).length+c)).size=c:=by
     rw [ByteArray.size_extract]; omega
   have hln:ln (b.extract (p+(nI c).length) (p+(nI c).length+c))=c:=by unfold ln; rw [hsz]; omega
   have hts:(tx (b.extract (p+(nI c).length) (p+(nI c).length+c))).size=(nI c).length+c:=by rw [DW,hln,hsz]
   refine ⟨p,b.extract (p+(nI c).length) (p+(nI c).length+c),rfl,?_,by omega,by omega,?_⟩
   · rw [hts]
     congr 2
     omega
   · rw [hts]
     unfold tx
     rw [hln,<- h4,ByteArray.extract_append_extract]
     congr 1 <;> omega
 · rw [if_pos h0] at h
   exact absurd h h0
end Go.Proofs.YthoimblkpcikdaaGreatDoor.PLay
