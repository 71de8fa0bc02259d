/- Plain mathematics of numbers as bytes (chapter 4): 'numL' are a number's bytes, 'gn' reads a number at a place. No program in sight. -/
import Derived.Laws.Entries
import Derived.Laws.BytesArg
import Derived.RowKit
namespace Go.Proofs.YthoimblkpcikdaaGreatDoor.MLay
open Go.RowKit
def Pj (v:Nat):List Nat:=if h:v < 128 then [v] else (v % 128+128) :: Pj (v / 128)
termination_by v
decreasing_by omega
theorem Hl {v:Nat}(h:v < 128):Pj v=[v]:=by rw [Pj,dif_pos h]
theorem SY {v:Nat}(h:¬ v < 128):Pj v=(v % 128+128) :: Pj (v / 128):=by rw [Pj,dif_neg h]
theorem KY:∀ (n v:Nat),v < 128 ^ (n+1)->1<=(Pj v).length/\(Pj v).length<=n+1
 | 0,v,h=>by rw [Hl (by simpa using h)]; simp
 | n + 1,v,h=>by
   by_cases c:v < 128
   · rw [Hl c]; simp
   · rw [SY c]
     have:=KY n (v / 128) (by rw [Nat.div_lt_iff_lt_mul (by decide)]; rw [Nat.pow_succ] at h; exact h)
     simp; omega
theorem cG:∀ r:Fin 256,Go.bits .and .u8 ((r:Nat):Int) 127=((r:Nat):Int) % 128:=by decide +kernel
theorem Yw (r:Int)(h0:0<=r)(h1:r < 256):Go.bits .and .u8 r 127=r % 128:=by
 have:=cG ⟨r.toNat,by omega⟩
 have e:((r.toNat:Nat):Int)=r:=by omega
 simpa [e] using this
theorem wrap_u32 (x:Int):IntKind.u32.wrap x=x % 4294967296:=rfl
theorem EL (x y:Nat)(hx:x < 2 ^ 32)(hy:y < 2 ^ 32):Go.bits .or .u32 (x:Int) (y:Int)=((x ||| y:Nat):Int):=by
 have hor:x ||| y < 2 ^ 32:=Nat.or_lt_two_pow hx hy
 unfold Go.bits IntKind.wrap
 simp only [IntKind.signed]
 have:(BitVec.ofInt (IntKind.u32.bits) (x:Int) ||| BitVec.ofInt (IntKind.u32.bits) (y:Int)).toNat=x ||| y:=by
   show (BitVec.ofNat 32 x ||| BitVec.ofNat 32 y).toNat=x ||| y
   rw [BitVec.toNat_or,BitVec.toNat_ofNat,BitVec.toNat_ofNat,Nat.mod_eq_of_lt hx,Nat.mod_eq_of_lt hy]
 rw [this]
 simp only [IntKind.bits]
 simp
 omega
theorem fj (v c i:Nat)(hv:v < 2 ^ (7 * i)):(v ||| (c * 2 ^ (7 * i)))=v+c * 2 ^ (7 * i):=by
 rw [Nat.or_comm,Nat.mul_comm c]
 rw [<- Nat.two_pow_add_eq_or_of_lt hv]
 omega
def gn:Nat->(Int->Int)->Int->Int->Int->Int->Int × Int × Int
 | 0,_,_,_,_,_=>(0,0,2)
 | n+1,b,size,p,i,v =>
   if p >= size then (0,0,3)
   else if (i=4/\b p > 15)\/(i > 0/\b p=0) then (0,0,2)
   else if b p < 128 then (v+(b p % 128) * 2 ^ (7 * i.toNat),p+1,0)
   else gn n b size (p+1) (i+1) (v+(b p % 128) * 2 ^ (7 * i.toNat))
def Aj (b:Int->Int)(size at_:Int):Int × Int × Int:=if at_ < 0\/at_ > size then (0,0,1) else gn 5 b size at_ 0 0
theorem SC (b:Int->Int) (size:Int) (hb:∀ p,0<=b p/\b p<=255):∀ (n:Nat) (p v:Int) (i:Nat),0<=p->i+n=5->0<=v->v < 2 ^ (7 * i) ->
   0<=(gn n b size p i v).1/\(gn n b size p i v).1 < 4294967296/\0<=(gn n b size p i v).2.1/\0<=(gn n b size p i v).2.2/\((gn n b size p i v).2.2=0->p < (gn n b size p i v).2.1/\(gn n b size p i v).2.1<=size)
 | 0,p,v,i,_,_,_,_=>by simp [gn]
 | n + 1,p,v,i,hp,hi,hv0,hv=>by
   unfold gn
   by_cases c1:p >= size
   · rw [if_pos c1]; simp
   rw [if_neg c1]
   by_cases c2:((i:Int)=4/\b p > 15)\/((i:Int) > 0/\b p=0)
   · rw [if_pos c2]; simp
   rw [if_neg c2]
   have hbp:=hb p
   have ei:((i:Int)).toNat=i:=by omega
   rw [ei]
   have hv':v+(b p % 128) * 2 ^ (7 * i) < 2 ^ (7 * (i+1)):=by
     have e:(2:Int) ^ (7 * (i+1))=128 * 2 ^ (7 * i):=by rw [Nat.mul_add,Int.pow_add]; omega
     rw [e]
     have h1:b p % 128<=127:=by omega
     have h2:(b p % 128) * 2 ^ (7 * i)<=127 * 2 ^ (7 * i):=Int.mul_le_mul_of_nonneg_right h1 (Int.le_of_lt (Int.pow_pos (by decide)))
     omega
   have hv0':0<=v+(b p % 128) * 2 ^ (7 * i):=by
     have:0<=(b p % 128) * 2 ^ (7 * i):=Int.mul_nonneg (by omega) (Int.le_of_lt (Int.pow_pos (by decide)))
     omega
   by_cases c3:b p < 128
   · rw [if_pos c3]
     refine ⟨hv0', ?_,by simp; omega,by simp,fun _=>⟨by simp; omega,by simp; omega⟩⟩
     by_cases c4:i<=3
     · have:(2:Int) ^ (7 * (i+1))<=2 ^ 28:=by
         have h4:(2:Nat) ^ (7 * (i+1))<=2 ^ 28:=Nat.pow_le_pow_right (by decide) (by omega)
         exact_mod_cast h4
       simp only; omega
     · obtain rfl:i=4:=by omega
       have c5:b p<=15:=by
         rcases Int.lt_or_le 15 (b p) with h | h
         · exact absurd (Or.inl ⟨rfl,h⟩) c2
         · exact h
       simp only at hv ⊢
       omega
   · rw [if_neg c3]
     have:=SC b size hb n (p+1) (v+(b p % 128) * 2 ^ (7 * i)) (i+1) (by omega) (by omega) hv0' hv'
     rw [show ((i:Int)+1)=((i+1:Nat):Int) from by omega]
     refine ⟨this.1,this.2.1,this.2.2.1,this.2.2.2.1,fun h=>?_⟩
     have:=this.2.2.2.2 h
     omega
end Go.Proofs.YthoimblkpcikdaaGreatDoor.MLay
