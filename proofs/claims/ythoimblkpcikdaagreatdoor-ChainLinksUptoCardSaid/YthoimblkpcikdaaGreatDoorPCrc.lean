/- The check sum: the program's and the reference's. -/
import Derived.Test.YthoimblkpcikdaaGreatDoorPLay
namespace Go.Proofs.YthoimblkpcikdaaGreatDoor.PCrc
open Go.RowKit Go.Proofs.YthoimblkpcikdaaGreatDoor.Mc Go.Proofs.YthoimblkpcikdaaGreatDoor.N Go.Proofs.YthoimblkpcikdaaGreatDoor.Plain
set_option linter.unusedSimpArgs false
set_option linter.unusedVariables false
theorem Cy (x y:Nat)(hx:x < 2 ^ 32)(hy:y < 2 ^ 32):Go.bits .xor .u32 (x:Int) (y:Int)=((x ^^^ y:Nat):Int):=by
 have hor:x ^^^ y < 2 ^ 32:=Nat.xor_lt_two_pow hx hy
 unfold Go.bits IntKind.wrap
 simp only [IntKind.signed]
 have:(BitVec.ofInt (IntKind.u32.bits) (x:Int) ^^^ BitVec.ofInt (IntKind.u32.bits) (y:Int)).toNat=x ^^^ y:=by
   show (BitVec.ofNat 32 x ^^^ BitVec.ofNat 32 y).toNat=x ^^^ y
   rw [BitVec.toNat_xor,BitVec.toNat_ofNat,BitVec.toNat_ofNat,Nat.mod_eq_of_lt hx,Nat.mod_eq_of_lt hy]
 rw [this]
 simp only [IntKind.bits]
 simp
 omega
theorem Fv (x y:Nat)(hx:x < 2 ^ 32)(hy:y < 2 ^ 32):Go.bits .and .u32 (x:Int) (y:Int)=((x &&& y:Nat):Int):=by
 have hor:x &&& y < 2 ^ 32:=Nat.and_lt_two_pow x hy
 unfold Go.bits IntKind.wrap
 simp only [IntKind.signed]
 have:(BitVec.ofInt (IntKind.u32.bits) (x:Int) &&& BitVec.ofInt (IntKind.u32.bits) (y:Int)).toNat=x &&& y:=by
   show (BitVec.ofNat 32 x &&& BitVec.ofNat 32 y).toNat=x &&& y
   rw [BitVec.toNat_and,BitVec.toNat_ofNat,BitVec.toNat_ofNat,Nat.mod_eq_of_lt hx,Nat.mod_eq_of_lt hy]
 rw [this]
 simp only [IntKind.bits]
 simp
 omega
theorem cB (y:Nat)(hy:y < 2 ^ 32):4294967295 ^^^ y=4294967295 - y:=by
 have h:(BitVec.allOnes 32 ^^^ BitVec.ofNat 32 y).toNat=(~~~ BitVec.ofNat 32 y).toNat:=by rw [BitVec.allOnes_xor]
 rw [BitVec.toNat_xor,BitVec.toNat_not,BitVec.toNat_allOnes,BitVec.toNat_ofNat,Nat.mod_eq_of_lt hy] at h
 exact h
def cs (x:Nat):Nat:=if x % 2=1 then (x / 2) ^^^ 3988292384 else x / 2
theorem nV {x:Nat}(h:x < 2 ^ 32):cs x < 2 ^ 32:=by
 unfold cs
 split
 · exact Nat.xor_lt_two_pow (by omega) (by omega)
 · omega
def it:Nat->Nat->Nat
 | 0,x=>x
 | n+1,x=>cs (it n x)
theorem Wb {x:Nat}(h:x < 2 ^ 32):∀ n,it n x < 2 ^ 32
 | 0=>h
 | n+1=>nV (Wb h n)
def Hk (x b:Nat):Nat:=it 8 (x ^^^ b)
theorem lD {x b:Nat}(h:x < 2 ^ 32)(hb:b < 256):Hk x b < 2 ^ 32:=Wb (Nat.xor_lt_two_pow h (by omega)) 8
theorem bI (K:Nat) (hK:20<=K) (x b:Nat) (hx:x < 2 ^ 32) (hb:b < 256):fG K (x:Int) (b:Int)=some ((Hk x b:Nat):Int):=by
 unfold fG
 rw [Iz (by omega) (by omega),Cy x b hx (by omega)]
 have hx0:x ^^^ b < 2 ^ 32:=Nat.xor_lt_two_pow hx (by omega)
 rw [Ag (r:=((Hk x b:Nat):Int)) (fun i=>(((it i (x ^^^ b):Nat):Int),(i:Int))) 8 (by rfl) (by omega) ?_ ?_]; rfl
 · intro i hi
   have hl:=Wb hx0 i
   unfold WK
   dsimp only
   rw [AE (by omega),show (1:Int)=((1:Nat):Int) from rfl,Fv _ 1 hl (by omega),Nat.and_one_is_mod,Aq (by omega) (by omega)]
   have e:((it i (x ^^^ b):Nat):Int).fdiv (2 ^ 1)=((it i (x ^^^ b) / 2:Nat):Int):=(Int.ofNat_fdiv _ 2).symm
   rw [e,show (3988292384:Int)=((3988292384:Nat):Int) from rfl,Cy _ _ (by omega) (by omega)]
   show _=some (Sum.inl (((cs (it i (x ^^^ b)):Nat):Int),((i+1:Nat):Int)))
   unfold cs
   by_cases h:it i (x ^^^ b) % 2=1
   · rw [if_pos h,h]; rfl
   · have h0:it i (x ^^^ b) % 2=0:=by omega
     rw [if_neg h,h0]; rfl
 · unfold WK
   dsimp only
   rw [AF (by omega)]; rfl
theorem Sx (K:Nat) (hK:20<=K) (x b:Nat) (hx:x < 2 ^ 32) (hb:b < 256):pS K (x:Int) (b:Int)=some ((Hk x b:Nat):Int):=by
 unfold pS
 rw [Iz (by omega) (by omega),Cy x b hx (by omega)]
 have hx0:x ^^^ b < 2 ^ 32:=Nat.xor_lt_two_pow hx (by omega)
 rw [Ag (r:=((Hk x b:Nat):Int)) (fun i=>(((it i (x ^^^ b):Nat):Int),(i:Int))) 8 (by rfl) (by omega) ?_ ?_]; rfl
 · intro i hi
   have hl:=Wb hx0 i
   unfold bu
   dsimp only
   have e:((it i (x ^^^ b):Nat):Int).tdiv 2=((it i (x ^^^ b) / 2:Nat):Int):=rfl
   have e2:((it i (x ^^^ b):Nat):Int).tmod 2=((it i (x ^^^ b) % 2:Nat):Int):=rfl
   rw [AE (by omega),e,e2,Iz (by omega) (by omega),Aq (by omega) (by omega)]
   rw [show (3988292384:Int)=((3988292384:Nat):Int) from rfl,Cy _ _ (by omega) (by omega)]
   show _=some (Sum.inl (((cs (it i (x ^^^ b)):Nat):Int),((i+1:Nat):Int)))
   unfold cs
   by_cases h:it i (x ^^^ b) % 2=1
   · rw [if_pos h,h]; rfl
   · have h0:it i (x ^^^ b) % 2=0:=by omega
     rw [if_neg h,h0]; rfl
 · unfold bu
   dsimp only
   rw [AF (by omega)]; rfl
def fd (b:ByteArray):Nat->Nat
 | 0=>4294967295
 | i+1=>Hk (fd b i) (bt b (i:Int)).toNat
theorem PG (b:ByteArray)(i:Int):0<=bt b i/\bt b i < 256:=by
 have:=PLay.Bf b i
 omega
theorem Ns (b:ByteArray):∀ i,fd b i < 2 ^ 32
 | 0=>by unfold fd; omega
 | i+1=>lD (Ns b i) (by have:=PG b i; omega)
def YX (b:ByteArray):Int:=((4294967295 - fd b b.size:Nat):Int)
theorem Lv (K:Nat) (hK:20<=K) (b:ByteArray) (hb:b.size < K) (hb2:b.size<=1000000000):Sc K [b]=some (YX b):=by
 have hin:AB (Iw K b) K (4294967295,0)=some ((fd b b.size:Nat):Int):=by
   refine Ag (fun i=>(((fd b i:Nat):Int),(i:Int))) b.size (by rfl) hb (fun i hi=>?_) ?_
   · have hbt:=PG b i
     unfold Iw
     dsimp only
     obtain ⟨n,hn⟩:∃ n:Nat,bt b (i:Int)=(n:Int):=⟨(bt b i).toNat,by omega⟩
     rw [AE (by omega),Ak (by omega),hn,bI K hK _ _ (Ns b i) (by omega),Option.bind_some,Aq (by omega) (by omega)]
     show _=some (Sum.inl (((Hk (fd b i) (bt b (i:Int)).toNat:Nat):Int),((i+1:Nat):Int)))
     rw [hn]; rfl
   · unfold Iw
     dsimp only
     rw [AF (by omega)]
 unfold Sc
 have hout:AB (Kb K [b]) K (4294967295,0)=some ((fd b b.size:Nat):Int):=by
   obtain ⟨k,rfl⟩:∃ k,K=k+2:=⟨K - 2,by omega⟩
   have h1:Kb (k+2) [b] (4294967295,0)=some (.inl (((fd b b.size:Nat):Int),1)):=by
     unfold Kb
     dsimp only
     rw [AE (by simp)]
     show ((AB (Iw (k+2) b) (k+2) (4294967295,0)).bind _)=_
     rw [hin]; rfl
   have h2:Kb (k+2) [b] (((fd b b.size:Nat):Int),1)=some (.inr ((fd b b.size:Nat):Int)):=by
     unfold Kb
     dsimp only
     rw [AF (by simp)]
   rw [PureKeys.AU h1,PureKeys.AK h2]
 have hlt:=Ns b b.size
 rw [hout,Option.bind_some,show (4294967295:Int)=((4294967295:Nat):Int) from rfl,Cy _ _ (by omega) hlt,cB _ hlt]; rfl
theorem EH (K:Nat) (hK:20<=K) (b:ByteArray) (hb:b.size < K) (hb2:b.size<=1000000000):mF K b=some (YX b):=by
 have hin:AB (XJ K b) K (4294967295,0)=some ((fd b b.size:Nat):Int):=by
   refine Ag (fun i=>(((fd b i:Nat):Int),(i:Int))) b.size (by rfl) hb (fun i hi=>?_) ?_
   · have hbt:=PG b i
     unfold XJ
     dsimp only
     obtain ⟨n,hn⟩:∃ n:Nat,bt b (i:Int)=(n:Int):=⟨(bt b i).toNat,by omega⟩
     rw [AE (by omega),Ak (by omega),hn,Sx K hK _ _ (Ns b i) (by omega),Option.bind_some,Aq (by omega) (by omega)]
     show _=some (Sum.inl (((Hk (fd b i) (bt b (i:Int)).toNat:Nat):Int),((i+1:Nat):Int)))
     rw [hn]; rfl
   · unfold XJ
     dsimp only
     rw [AF (by omega)]
 have hlt:=Ns b b.size
 unfold mF
 rw [hin,Option.bind_some,Iz (by omega) (by omega)]
 unfold YX
 congr 1
 omega
end Go.Proofs.YthoimblkpcikdaaGreatDoor.PCrc
