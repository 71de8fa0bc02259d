/- The check sum: the program's and the reference's. -/
import Derived.Test.YthoimblkpcikdaaGreatDoorPLay
namespace Go.Proofs.YthoimblkpcikdaaGreatDoor.PCrc
open Go.RowKit Go.Proofs.YthoimblkpcikdaaGreatDoor.Mc Go.Proofs.YthoimblkpcikdaaGreatDoor.N Go.Proofs.YthoimblkpcikdaaGreatDoor.Plain
set_option linter.unusedSimpArgs false
set_option linter.unusedVariables false
theorem Cq (x y:Nat)(hx:x < 2 ^ 32)(hy:y < 2 ^ 32):Go.bits .xor .u32 (x:Int) (y:Int)=((x ^^^ y:Nat):Int):=by
 have hor:x ^^^ y < 2 ^ 32:=Nat.xor_lt_two_pow hx hy
 unfold Go.bits IntKind.wrap
 simp only [IntKind.signed]
 have:(BitVec.ofInt (IntKind.u32.bits) (x:Int) ^^^ BitVec.ofInt (IntKind.u32.bits) (y:Int)).toNat=x ^^^ y:=by
   show (BitVec.ofNat 32 x ^^^ BitVec.ofNat 32 y).toNat=x ^^^ y
   rw [BitVec.toNat_xor,BitVec.toNat_ofNat,BitVec.toNat_ofNat,Nat.mod_eq_of_lt hx,Nat.mod_eq_of_lt hy]
 rw [this]
 simp only [IntKind.bits]
 simp
 omega
theorem FC (x y:Nat)(hx:x < 2 ^ 32)(hy:y < 2 ^ 32):Go.bits .and .u32 (x:Int) (y:Int)=((x &&& y:Nat):Int):=by
 have hor:x &&& y < 2 ^ 32:=Nat.and_lt_two_pow x hy
 unfold Go.bits IntKind.wrap
 simp only [IntKind.signed]
 have:(BitVec.ofInt (IntKind.u32.bits) (x:Int) &&& BitVec.ofInt (IntKind.u32.bits) (y:Int)).toNat=x &&& y:=by
   show (BitVec.ofNat 32 x &&& BitVec.ofNat 32 y).toNat=x &&& y
   rw [BitVec.toNat_and,BitVec.toNat_ofNat,BitVec.toNat_ofNat,Nat.mod_eq_of_lt hx,Nat.mod_eq_of_lt hy]
 rw [this]
 simp only [IntKind.bits]
 simp
 omega
theorem YG (y:Nat)(hy:y < 2 ^ 32):4294967295 ^^^ y=4294967295 - y:=by
 have h:(BitVec.allOnes 32 ^^^ BitVec.ofNat 32 y).toNat=(~~~ BitVec.ofNat 32 y).toNat:=by rw [BitVec.allOnes_xor]
 rw [BitVec.toNat_xor,BitVec.toNat_not,BitVec.toNat_allOnes,BitVec.toNat_ofNat,Nat.mod_eq_of_lt hy] at h
 exact h
def cs (x:Nat):Nat:=if x % 2=1 then (x / 2) ^^^ 3988292384 else x / 2
theorem mc {x:Nat}(h:x < 2 ^ 32):cs x < 2 ^ 32:=by
 unfold cs
 split
 · exact Nat.xor_lt_two_pow (by omega) (by omega)
 · omega
def it:Nat->Nat->Nat
 | 0,x=>x
 | n+1,x=>cs (it n x)
theorem Vx {x:Nat}(h:x < 2 ^ 32):∀ n,it n x < 2 ^ 32
 | 0=>h
 | n+1=>mc (Vx h n)
def LZ (x b:Nat):Nat:=it 8 (x ^^^ b)
theorem iA {x b:Nat}(h:x < 2 ^ 32)(hb:b < 256):LZ x b < 2 ^ 32:=Vx (Nat.xor_lt_two_pow h (by omega)) 8
theorem Yq (K:Nat) (hK:20<=K) (x b:Nat) (hx:x < 2 ^ 32) (hb:b < 256):dp K (x:Int) (b:Int)=some ((LZ x b:Nat):Int):=by
 unfold dp
 rw [Kt (by omega) (by omega),Cq x b hx (by omega)]
 have hx0:x ^^^ b < 2 ^ 32:=Nat.xor_lt_two_pow hx (by omega)
 rw [BE (r:=((LZ x b:Nat):Int)) (fun i=>(((it i (x ^^^ b):Nat):Int),(i:Int))) 8 (by rfl) (by omega) ?_ ?_]; rfl
 · intro i hi
   have hl:=Vx hx0 i
   unfold TS
   dsimp only
   rw [AK (by omega),show (1:Int)=((1:Nat):Int) from rfl,FC _ 1 hl (by omega),Nat.and_one_is_mod,BK (by omega) (by omega)]
   have e:((it i (x ^^^ b):Nat):Int).fdiv (2 ^ 1)=((it i (x ^^^ b) / 2:Nat):Int):=(Int.ofNat_fdiv _ 2).symm
   rw [e,show (3988292384:Int)=((3988292384:Nat):Int) from rfl,Cq _ _ (by omega) (by omega)]
   show _=some (Sum.inl (((cs (it i (x ^^^ b)):Nat):Int),((i+1:Nat):Int)))
   unfold cs
   by_cases h:it i (x ^^^ b) % 2=1
   · rw [if_pos h,h]; rfl
   · have h0:it i (x ^^^ b) % 2=0:=by omega
     rw [if_neg h,h0]; rfl
 · unfold TS
   dsimp only
   rw [AJ (by omega)]; rfl
theorem RT (K:Nat) (hK:20<=K) (x b:Nat) (hx:x < 2 ^ 32) (hb:b < 256):nx K (x:Int) (b:Int)=some ((LZ x b:Nat):Int):=by
 unfold nx
 rw [Kt (by omega) (by omega),Cq x b hx (by omega)]
 have hx0:x ^^^ b < 2 ^ 32:=Nat.xor_lt_two_pow hx (by omega)
 rw [BE (r:=((LZ x b:Nat):Int)) (fun i=>(((it i (x ^^^ b):Nat):Int),(i:Int))) 8 (by rfl) (by omega) ?_ ?_]; rfl
 · intro i hi
   have hl:=Vx hx0 i
   unfold ZP
   dsimp only
   have e:((it i (x ^^^ b):Nat):Int).tdiv 2=((it i (x ^^^ b) / 2:Nat):Int):=rfl
   have e2:((it i (x ^^^ b):Nat):Int).tmod 2=((it i (x ^^^ b) % 2:Nat):Int):=rfl
   rw [AK (by omega),e,e2,Kt (by omega) (by omega),BK (by omega) (by omega)]
   rw [show (3988292384:Int)=((3988292384:Nat):Int) from rfl,Cq _ _ (by omega) (by omega)]
   show _=some (Sum.inl (((cs (it i (x ^^^ b)):Nat):Int),((i+1:Nat):Int)))
   unfold cs
   by_cases h:it i (x ^^^ b) % 2=1
   · rw [if_pos h,h]; rfl
   · have h0:it i (x ^^^ b) % 2=0:=by omega
     rw [if_neg h,h0]; rfl
 · unfold ZP
   dsimp only
   rw [AJ (by omega)]; rfl
def fd (b:ByteArray):Nat->Nat
 | 0=>4294967295
 | i+1=>LZ (fd b i) (bt b (i:Int)).toNat
theorem Oz (b:ByteArray)(i:Int):0<=bt b i/\bt b i < 256:=by
 have:=PLay.Bt b i
 omega
theorem Lu (b:ByteArray):∀ i,fd b i < 2 ^ 32
 | 0=>by unfold fd; omega
 | i+1=>iA (Lu b i) (by have:=Oz b i; omega)
def Zj (b:ByteArray):Int:=((4294967295 - fd b b.size:Nat):Int)
theorem LI (K:Nat) (hK:20<=K) (b:ByteArray) (hb:b.size < K) (hb2:b.size<=1000000000):Ry K [b]=some (Zj b):=by
 have hin:AE (Hs K b) K (4294967295,0)=some ((fd b b.size:Nat):Int):=by
   refine BE (fun i=>(((fd b i:Nat):Int),(i:Int))) b.size (by rfl) hb (fun i hi=>?_) ?_
   · have hbt:=Oz b i
     unfold Hs
     dsimp only
     obtain ⟨n,hn⟩:∃ n:Nat,bt b (i:Int)=(n:Int):=⟨(bt b i).toNat,by omega⟩
     rw [AK (by omega),BB (by omega),hn,Yq K hK _ _ (Lu b i) (by omega),Option.bind_some,BK (by omega) (by omega)]
     show _=some (Sum.inl (((LZ (fd b i) (bt b (i:Int)).toNat:Nat):Int),((i+1:Nat):Int)))
     rw [hn]; rfl
   · unfold Hs
     dsimp only
     rw [AJ (by omega)]
 unfold Ry
 have hout:AE (JR K [b]) K (4294967295,0)=some ((fd b b.size:Nat):Int):=by
   obtain ⟨k,rfl⟩:∃ k,K=k+2:=⟨K - 2,by omega⟩
   have h1:JR (k+2) [b] (4294967295,0)=some (.inl (((fd b b.size:Nat):Int),1)):=by
     unfold JR
     dsimp only
     rw [AK (by simp)]
     show ((AE (Hs (k+2) b) (k+2) (4294967295,0)).bind _)=_
     rw [hin]; rfl
   have h2:JR (k+2) [b] (((fd b b.size:Nat):Int),1)=some (.inr ((fd b b.size:Nat):Int)):=by
     unfold JR
     dsimp only
     rw [AJ (by simp)]
   rw [PureKeys.Ab h1,PureKeys.AO h2]
 have hlt:=Lu b b.size
 rw [hout,Option.bind_some,show (4294967295:Int)=((4294967295:Nat):Int) from rfl,Cq _ _ (by omega) hlt,YG _ hlt]; rfl
theorem FI (K:Nat) (hK:20<=K) (b:ByteArray) (hb:b.size < K) (hb2:b.size<=1000000000):me K b=some (Zj b):=by
 have hin:AE (VJ K b) K (4294967295,0)=some ((fd b b.size:Nat):Int):=by
   refine BE (fun i=>(((fd b i:Nat):Int),(i:Int))) b.size (by rfl) hb (fun i hi=>?_) ?_
   · have hbt:=Oz b i
     unfold VJ
     dsimp only
     obtain ⟨n,hn⟩:∃ n:Nat,bt b (i:Int)=(n:Int):=⟨(bt b i).toNat,by omega⟩
     rw [AK (by omega),BB (by omega),hn,RT K hK _ _ (Lu b i) (by omega),Option.bind_some,BK (by omega) (by omega)]
     show _=some (Sum.inl (((LZ (fd b i) (bt b (i:Int)).toNat:Nat):Int),((i+1:Nat):Int)))
     rw [hn]; rfl
   · unfold VJ
     dsimp only
     rw [AJ (by omega)]
 have hlt:=Lu b b.size
 unfold me
 rw [hin,Option.bind_some,Kt (by omega) (by omega)]
 unfold Zj
 congr 1
 omega
end Go.Proofs.YthoimblkpcikdaaGreatDoor.PCrc
