/- The reference's rune at a place is the language's own. -/
import Derived.Test.YthoimblkpcikdaaGreatDoorPlain
import Derived.Laws.BitsLemmas
import Derived.Lib.DecodeN
namespace Go.Proofs.YthoimblkpcikdaaGreatDoor.PureRune
open Go.RowKit Go.Proofs.YthoimblkpcikdaaGreatDoor.Mc Go.Proofs.YthoimblkpcikdaaGreatDoor.N Go.Proofs.YthoimblkpcikdaaGreatDoor.Plain
set_option linter.unusedSimpArgs false
set_option linter.unusedVariables false
theorem jY (s:ByteArray) (j:Nat):bt s (j:Int)=(((s.get! j).toNat:Nat):Int):=by
 unfold bt
 rw [Int.toNat_natCast]
 split
 · rename_i h
   have:s.get! j=s[j]'h:=by
     simp [ByteArray.get!,getElem!_pos,h]
     rfl
   rw [this]
 · rename_i h
   have h2:s.data[j]? = none:=Array.getElem?_eq_none (by have:s.size=s.data.size:=rfl; omega)
   have:s.get! j=0:=by
     simp [ByteArray.get!,getElem!_def,h2]
     rfl
   rw [this]; rfl
def at_ (s:ByteArray)(j:Nat):Nat:=(s.get! j).toNat
theorem KE (s:ByteArray)(j:Nat):at_ s j < 256:=(s.get! j).toNat_lt
theorem Oz (s:ByteArray)(j:Nat):bt s (j:Int)=(at_ s j:Int):=jY s j
theorem mask (b:Nat)(hb:b < 256)(i:Nat)(hi:i<=8)(m:Int)(hm:m=2 ^ i - 1):Go.bits .and .u8 (b:Int) m=((b % 2 ^ i:Nat):Int):=by
 subst hm
 rw [bits_mask .u8 8 (by decide) wraps_u8 i hi _ (by omega) (by omega)]
 simp
theorem follows (k:Nat) (s:ByteArray) (j:Nat) (lo hi:Nat):Jx k s (j:Int) (lo:Int) (hi:Int)=some (decide (j < s.size/\lo<=at_ s j/\at_ s j<=hi)):=by
 unfold Jx
 rw [Oz]
 by_cases h1:j < s.size
 · rw [AK (by omega),BB (by omega)]
   by_cases h2:lo<=at_ s j
   · rw [AK (by omega),BB (by omega)]
     congr 1
     rw [decide_eq_decide]
     omega
   · rw [AJ (by omega),decide_eq_false (by omega)]
 · rw [AJ (by omega),decide_eq_false (by omega)]
def Vb (b:Nat):Nat:=if b=224 then 160 else if b=240 then 144 else 128
def VZ (b:Nat):Nat:=if b=237 then 159 else if b=244 then 143 else 191
def LB (n b0 b1 b2 b3:Nat):Nat × Nat :=
 if b0 < 128 then (b0,1)
 else if 194<=b0/\b0<=223/\1 < n/\128<=b1/\b1<=191 then (b0 % 32 * 64+b1 % 64,2)
 else if 224<=b0/\b0<=239/\(1 < n/\Vb b0<=b1/\b1<=VZ b0)/\(2 < n/\128<=b2/\b2<=191) then (b0 % 16 * 4096+b1 % 64 * 64+b2 % 64,3)
 else if 240<=b0/\b0<=244/\(1 < n/\Vb b0<=b1/\b1<=VZ b0)/\(2 < n/\128<=b2/\b2<=191)/\(3 < n/\128<=b3/\b3<=191) then (b0 % 8 * 262144+b1 % 64 * 4096+b2 % 64 * 64+b3 % 64,4)
 else (65533,1)
set_option maxRecDepth 100000 in
set_option maxHeartbeats 8000000 in
theorem dc (n b0 b1 b2 b3:Nat)(h0:b0 < 256)(h1:b1 < 256)(h2:b2 < 256)(h3:b3 < 256):LB n b0 b1 b2 b3=Lib.decodeN n b0 b1 b2 b3:=by
 unfold LB Lib.decodeN Vb VZ
 repeat' split
 all_goals first | rfl | (exfalso; omega) | (apply Prod.ext <;> simp only <;> omega)
theorem wn (i j:Nat)(h:i+j < 1000000000000):IntKind.wrap .i64 ((i:Int)+(j:Int))=((i+j:Nat):Int):=by rw [BK (by omega) (by omega)]; omega
theorem wm (x:Nat)(h:x < 1000000000000):IntKind.wrap .i64 (x:Int)=(x:Int):=BK (by omega) (by omega)
theorem ZA (k:Nat) (s:ByteArray) (i:Nat) (hi:i < s.size) (hs:s.size<=1000000000):dS k s (i:Int)=some (((Utf8.decode s i).1:Int),((Utf8.decode s i).2:Int)):=by
 have hd:Utf8.decode s i=LB (s.size - i) (at_ s i) (at_ s (i+1)) (at_ s (i+2)) (at_ s (i+3)):=by
   rw [Lib.decode_at]; exact (dc _ _ _ _ _ (KE s i) (KE s (i+1)) (KE s (i+2)) (KE s (i+3))).symm
 rw [hd]
 unfold dS
 rw [BB (by omega)]
 have e1:IntKind.wrap .i64 ((i:Int)+1)=((i+1:Nat):Int):=wn i 1 (by omega)
 have e2:IntKind.wrap .i64 ((i:Int)+2)=((i+2:Nat):Int):=wn i 2 (by omega)
 have e3:IntKind.wrap .i64 ((i:Int)+3)=((i+3:Nat):Int):=wn i 3 (by omega)
 simp only [e1,e2,e3,Oz]
 have l0:=KE s i
 have l1:=KE s (i+1)
 have l2:=KE s (i+2)
 have l3:=KE s (i+3)
 have m0a:Go.bits .and .u8 (at_ s i:Int) 31=((at_ s i % 32:Nat):Int):=mask _ l0 5 (by omega) _ (by decide)
 have m0b:Go.bits .and .u8 (at_ s i:Int) 15=((at_ s i % 16:Nat):Int):=mask _ l0 4 (by omega) _ (by decide)
 have m0c:Go.bits .and .u8 (at_ s i:Int) 7=((at_ s i % 8:Nat):Int):=mask _ l0 3 (by omega) _ (by decide)
 have m1:Go.bits .and .u8 (at_ s (i+1):Int) 63=((at_ s (i+1) % 64:Nat):Int):=mask _ l1 6 (by omega) _ (by decide)
 have m2:Go.bits .and .u8 (at_ s (i+2):Int) 63=((at_ s (i+2) % 64:Nat):Int):=mask _ l2 6 (by omega) _ (by decide)
 have m3:Go.bits .and .u8 (at_ s (i+3):Int) 63=((at_ s (i+3) % 64:Nat):Int):=mask _ l3 6 (by omega) _ (by decide)
 simp only [m0a,m0b,m0c,m1,m2,m3]
 have f1:∀ lo hi:Nat,Jx k s ((i+1:Nat):Int) (lo:Int) (hi:Int)=some (decide (i+1 < s.size/\lo<=at_ s (i+1)/\at_ s (i+1)<=hi)):=follows k s (i+1)
 have f1':Jx k s ((i+1:Nat):Int) 128 191=some (decide (i+1 < s.size/\128<=at_ s (i+1)/\at_ s (i+1)<=191)):=follows k s (i+1) 128 191
 have f2':Jx k s ((i+2:Nat):Int) 128 191=some (decide (i+2 < s.size/\128<=at_ s (i+2)/\at_ s (i+2)<=191)):=follows k s (i+2) 128 191
 have f3':Jx k s ((i+3:Nat):Int) 128 191=some (decide (i+3 < s.size/\128<=at_ s (i+3)/\at_ s (i+3)<=191)):=follows k s (i+3) 128 191
 simp only [f1', f2', f3', Option.bind_some]
 generalize at_ s i=b0 at *
 generalize at_ s (i+1)=b1 at *
 generalize at_ s (i+2)=b2 at *
 generalize at_ s (i+3)=b3 at *
 clear m0a m0b m0c m1 m2 m3 hd e1 e2 e3 f1' f2' f3'
 by_cases c0:b0 < 128
 · rw [AK (by omega),wm _ (by omega)]
   simp [LB,c0]
 · rw [AJ (by omega)]
   have A:(cond (decide (194<=(b0:Int))) (cond (decide ((b0:Int)<=223)) (some (decide (i+1 < s.size/\128<=b1/\b1<=191))) (some false)) (some false):Option Bool)=some (decide (194<=b0/\b0<=223/\i+1 < s.size/\128<=b1/\b1<=191)):=by
     by_cases h1:194<=b0
     · rw [AK (by omega)]
       by_cases h2:b0<=223
       · rw [AK (by omega)]; congr 1; rw [decide_eq_decide]; omega
       · rw [AJ (by omega),decide_eq_false (by omega)]
     · rw [AJ (by omega),decide_eq_false (by omega)]
   rw [A,Option.bind_some]
   by_cases c1:194<=b0/\b0<=223/\i+1 < s.size/\128<=b1/\b1<=191
   · rw [AK c1,BB (by omega)]
     have er:LB (s.size - i) b0 b1 b2 b3=(b0 % 32 * 64+b1 % 64,2):=by
       unfold LB
       rw [if_neg c0,if_pos (by omega)]
     rw [er,wm _ (by omega),wm _ (by omega),BK (x:=((b0 % 32:Nat):Int) * 64) (by omega) (by omega),BK (by omega) (by omega)]
     simp only [Int.natCast_add,Int.natCast_mul]
     rfl
   · rw [AJ c1]
     have B:(cond ((b0:Int) == 224) (some (160,191)) (cond ((b0:Int) == 237) (some (128,159)) (cond ((b0:Int) == 240) (some (144,191)) (cond ((b0:Int) == 244) (some (128,143)) (some (128,191))))):Option (Int × Int))=some ((Vb b0:Int),(VZ b0:Int)):=by
       unfold Vb VZ
       by_cases h1:b0=224
       · subst h1; rfl
       · by_cases h2:b0=237
         · subst h2; rfl
         · by_cases h3:b0=240
           · subst h3; rfl
           · by_cases h4:b0=244
             · subst h4; rfl
             · have g1:((b0:Int) == 224)=false:=by rw [beq_eq_false_iff_ne]; omega
               have g2:((b0:Int) == 237)=false:=by rw [beq_eq_false_iff_ne]; omega
               have g3:((b0:Int) == 240)=false:=by rw [beq_eq_false_iff_ne]; omega
               have g4:((b0:Int) == 244)=false:=by rw [beq_eq_false_iff_ne]; omega
               rw [g1,g2,g3,g4,if_neg h1,if_neg h3,if_neg h2,if_neg h4]; rfl
     rw [B,Option.bind_some]
     simp only [f1,Option.bind_some]
     have n1:¬ (194<=b0/\b0<=223/\1 < s.size - i/\128<=b1/\b1<=191):=by omega
     have C:(cond (decide (224<=(b0:Int))) (cond (decide ((b0:Int)<=239)) (cond (decide (i+1 < s.size/\Vb b0<=b1/\b1<=VZ b0)) (some (decide (i+2 < s.size/\128<=b2/\b2<=191))) (some false)) (some false)) (some false):Option Bool)=some (decide (224<=b0/\b0<=239/\(i+1 < s.size/\Vb b0<=b1/\b1<=VZ b0)/\i+2 < s.size/\128<=b2/\b2<=191)):=by
       by_cases h1:224<=b0
       · rw [AK (by omega)]
         by_cases h2:b0<=239
         · rw [AK (by omega)]
           by_cases h3:i+1 < s.size/\Vb b0<=b1/\b1<=VZ b0
           · rw [AK h3]; congr 1; rw [decide_eq_decide]; omega
           · rw [AJ h3,decide_eq_false (by omega)]
         · rw [AJ (by omega),decide_eq_false (by omega)]
       · rw [AJ (by omega),decide_eq_false (by omega)]
     rw [C,Option.bind_some]
     by_cases c2:224<=b0/\b0<=239/\(i+1 < s.size/\Vb b0<=b1/\b1<=VZ b0)/\i+2 < s.size/\128<=b2/\b2<=191
     · rw [AK c2,BB (by omega),BB (by omega)]
       have er:LB (s.size - i) b0 b1 b2 b3=(b0 % 16 * 4096+b1 % 64 * 64+b2 % 64,3):=by
         unfold LB
         rw [if_neg c0,if_neg n1,if_pos (by omega)]
       rw [er,wm _ (by omega),wm _ (by omega),wm _ (by omega),BK (x:=((b0 % 16:Nat):Int) * 4096) (by omega) (by omega),BK (x:=((b1 % 64:Nat):Int) * 64) (by omega) (by omega),BK (x:=((b0 % 16:Nat):Int) * 4096+((b1 % 64:Nat):Int) * 64) (by omega) (by omega),BK (by omega) (by omega)]
       simp only [Int.natCast_add,Int.natCast_mul]
       rfl
     · rw [AJ c2]
       have n2:¬ (224<=b0/\b0<=239/\(1 < s.size - i/\Vb b0<=b1/\b1<=VZ b0)/\2 < s.size - i/\128<=b2/\b2<=191):=by omega
       have E:(cond (decide (240<=(b0:Int))) (cond (decide ((b0:Int)<=244)) (cond (decide (i+1 < s.size/\Vb b0<=b1/\b1<=VZ b0)) (cond (decide (i+2 < s.size/\128<=b2/\b2<=191)) (some (decide (i+3 < s.size/\128<=b3/\b3<=191))) (some false)) (some false)) (some false)) (some false):Option Bool)=some (decide (240<=b0/\b0<=244/\(i+1 < s.size/\Vb b0<=b1/\b1<=VZ b0)/\(i+2 < s.size/\128<=b2/\b2<=191)/\i+3 < s.size/\128<=b3/\b3<=191)):=by
         by_cases h1:240<=b0
         · rw [AK (by omega)]
           by_cases h2:b0<=244
           · rw [AK (by omega)]
             by_cases h3:i+1 < s.size/\Vb b0<=b1/\b1<=VZ b0
             · rw [AK h3]
               by_cases h4:i+2 < s.size/\128<=b2/\b2<=191
               · rw [AK h4]; congr 1; rw [decide_eq_decide]; omega
               · rw [AJ h4,decide_eq_false (by omega)]
             · rw [AJ h3,decide_eq_false (by omega)]
           · rw [AJ (by omega),decide_eq_false (by omega)]
         · rw [AJ (by omega),decide_eq_false (by omega)]
       rw [E,Option.bind_some]
       by_cases c3:240<=b0/\b0<=244/\(i+1 < s.size/\Vb b0<=b1/\b1<=VZ b0)/\(i+2 < s.size/\128<=b2/\b2<=191)/\i+3 < s.size/\128<=b3/\b3<=191
       · rw [AK c3,BB (by omega),BB (by omega),BB (by omega)]
         have er:LB (s.size - i) b0 b1 b2 b3=(b0 % 8 * 262144+b1 % 64 * 4096+b2 % 64 * 64+b3 % 64,4):=by
           unfold LB
           rw [if_neg c0,if_neg n1,if_neg n2,if_pos (by omega)]
         rw [er,wm _ (by omega),wm _ (by omega),wm _ (by omega),wm _ (by omega),BK (x:=((b0 % 8:Nat):Int) * 262144) (by omega) (by omega),BK (x:=((b1 % 64:Nat):Int) * 4096) (by omega) (by omega),BK (x:=((b2 % 64:Nat):Int) * 64) (by omega) (by omega)]
         rw [BK (x:=((b0 % 8:Nat):Int) * 262144+((b1 % 64:Nat):Int) * 4096) (by omega) (by omega),BK (x:=((b0 % 8:Nat):Int) * 262144+((b1 % 64:Nat):Int) * 4096+((b2 % 64:Nat):Int) * 64) (by omega) (by omega),BK (by omega) (by omega)]
         simp only [Int.natCast_add,Int.natCast_mul]
         rfl
       · rw [AJ c3]
         have er:LB (s.size - i) b0 b1 b2 b3=(65533,1):=by
           unfold LB
           rw [if_neg c0,if_neg n1,if_neg n2,if_neg (by omega)]
         rw [er]; rfl
end Go.Proofs.YthoimblkpcikdaaGreatDoor.PureRune
