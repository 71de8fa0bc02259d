/- Numbers of four bytes: laid and read. -/
import Derived.Test.YthoimblkpcikdaaGreatDoorPPiece
namespace Go.Proofs.YthoimblkpcikdaaGreatDoor.PG4
open Go.RowKit Go.Proofs.YthoimblkpcikdaaGreatDoor.Mc Go.Proofs.YthoimblkpcikdaaGreatDoor.N Go.Proofs.YthoimblkpcikdaaGreatDoor.Plain Go.Proofs.YthoimblkpcikdaaGreatDoor.PLay Go.Proofs.YthoimblkpcikdaaGreatDoor.MLay Go.Proofs.YthoimblkpcikdaaGreatDoor.PPiece
open Go.Proofs.YthoimblkpcikdaaGreatDoor.PCrc (Fv)
set_option linter.unusedSimpArgs false
set_option linter.unusedVariables false
theorem Qn (v c n:Nat)(hv:v < 2 ^ n):(v ||| (c * 2 ^ n))=v+c * 2 ^ n:=by
 rw [Nat.or_comm,Nat.mul_comm c]
 rw [<- Nat.two_pow_add_eq_or_of_lt hv]
 omega
theorem gY (x:ByteArray)(p:Int):g4 x p=bt x p+bt x (p+1) * 256+bt x (p+2) * 65536+bt x (p+3) * 16777216:=by
 have h0:=Bf x p
 have h1:=Bf x (p+1)
 have h2:=Bf x (p+2)
 have h3:=Bf x (p+3)
 unfold g4
 generalize bt x p=a at *
 generalize bt x (p+1)=b at *
 generalize bt x (p+2)=c at *
 generalize bt x (p+3)=d at *
 obtain ⟨a,rfl⟩:=Int.eq_ofNat_of_zero_le h0.1
 obtain ⟨b,rfl⟩:=Int.eq_ofNat_of_zero_le h1.1
 obtain ⟨c,rfl⟩:=Int.eq_ofNat_of_zero_le h2.1
 obtain ⟨d,rfl⟩:=Int.eq_ofNat_of_zero_le h3.1
 have e8:(2:Int) ^ 8=256:=rfl
 have na:(2:Int) ^ 16=65536:=rfl
 have e24:(2:Int) ^ 24=16777216:=rfl
 rw [Iz (x:=(a:Int)) (by omega) (by omega),Iz (x:=(b:Int)) (by omega) (by omega),Iz (x:=(c:Int)) (by omega) (by omega),Iz (x:=(d:Int)) (by omega) (by omega),e8,na,e24,Iz (by omega) (by omega),Iz (by omega) (by omega),Iz (by omega) (by omega)]
 have f8:(b:Int) * 256=((b * 2 ^ 8:Nat):Int):=by omega
 have f16:(c:Int) * 65536=((c * 2 ^ 16:Nat):Int):=by omega
 have f24:(d:Int) * 16777216=((d * 2 ^ 24:Nat):Int):=by omega
 rw [f8,f16,f24,Eg _ _ (by omega) (by omega),Qn _ _ 8 (by omega),Eg _ _ (by omega) (by omega),Qn _ _ 16 (by omega),Eg _ _ (by omega) (by omega),Qn _ _ 24 (by omega)]
 omega
def n4 (v:Int):List Int:=[v % 256,v / 256 % 256,v / 65536 % 256,v / 16777216 % 256]
def p4 (v:Int):ByteArray:=strOfNums (n4 v)
theorem Bi (v:Int):(p4 v).size=4:=by unfold p4; rw [strOfNums_size]; rfl
theorem Lq (v:Int):∀ (j:Nat) (x:Int),(n4 v)[j]? = some x->0<=x/\x<=255:=by
 intro j x h
 have:=List.mem_of_getElem? h
 unfold n4 at this
 simp only [List.mem_cons,List.not_mem_nil,or_false] at this
 omega
theorem WB (x:Int)(h0:0<=x)(h1:x < 4294967296):bits .and .u32 x 255=x % 256:=by
 obtain ⟨a,rfl⟩:=Int.eq_ofNat_of_zero_le h0
 rw [show (255:Int)=((255:Nat):Int) from rfl,Fv _ _ (by omega) (by omega),show (255:Nat)=2 ^ 8 - 1 from rfl,Nat.and_two_pow_sub_one_eq_mod]
 omega
theorem Gf (K:Nat)(v:Int)(h0:0<=v)(h1:v < 4294967296):gB K v=some (p4 v):=by
 unfold gB p4 n4
 simp only [wrap_u8]
 rw [Int.fdiv_eq_ediv_of_nonneg _ (by decide),Int.fdiv_eq_ediv_of_nonneg _ (by decide),Int.fdiv_eq_ediv_of_nonneg _ (by decide)]
 have e8:(2:Int) ^ 8=256:=rfl
 have na:(2:Int) ^ 16=65536:=rfl
 have e24:(2:Int) ^ 24=16777216:=rfl
 rw [e8,na,e24,WB _ h0 h1,WB _ (by omega) (by omega),WB _ (by omega) (by omega)]
 rw [Int.emod_emod_of_dvd _ (by decide),Int.emod_emod_of_dvd _ (by decide),Int.emod_emod_of_dvd _ (by decide)]
theorem Xp (A B:ByteArray)(v:Int)(h0:0<=v)(h1:v < 4294967296):g4 (A ++ p4 v ++ B) (A.size:Int)=v:=by
 rw [gY]
 have b0:=RP A B (n4 v) (Lq v) 0 _ rfl
 have b1:=RP A B (n4 v) (Lq v) 1 _ rfl
 have b2:=RP A B (n4 v) (Lq v) 2 _ rfl
 have b3:=RP A B (n4 v) (Lq v) 3 _ rfl
 rw [show ((A.size:Int)+((0:Nat):Int))=(A.size:Int) by omega] at b0
 rw [show (((1:Nat):Int))=1 from rfl] at b1
 rw [show (((2:Nat):Int))=2 from rfl] at b2
 rw [show (((3:Nat):Int))=3 from rfl] at b3
 unfold p4
 rw [b0,b1,b2,b3]
 omega
theorem MY (a:ByteArray):a ++ (⟨#[]⟩:ByteArray)=a:=by apply ByteArray.ext; simp
theorem RG (a:ByteArray):(⟨#[]⟩:ByteArray) ++ a=a:=by apply ByteArray.ext; simp
def s4 (a b c d:Int):ByteArray:=((p4 a ++ p4 b) ++ p4 c) ++ p4 d
theorem Wl (a b c d:Int):(s4 a b c d).size=16:=by
 unfold s4
 rw [ByteArray.size_append,ByteArray.size_append,ByteArray.size_append,Bi,Bi,Bi,Bi]
def U (v:Int):Prop:=0<=v/\v < 4294967296
theorem qH {a:Int}(b c d:Int)(h:U a):g4 (s4 a b c d) 0=a:=by
 have:=Xp (⟨#[]⟩:ByteArray) (p4 b ++ (p4 c ++ p4 d)) a h.1 h.2
 rw [RG,<- ByteArray.append_assoc,<- ByteArray.append_assoc] at this
 exact this
theorem sK (a:Int){b:Int}(c d:Int)(h:U b):g4 (s4 a b c d) 4=b:=by
 have:=Xp (p4 a) (p4 c ++ p4 d) b h.1 h.2
 rw [Bi,<- ByteArray.append_assoc] at this
 exact this
theorem oE (a b c:Int){d:Int}(h:U d):g4 (s4 a b c d) 12=d:=by
 have:=Xp (p4 a ++ p4 b ++ p4 c) (⟨#[]⟩:ByteArray) d h.1 h.2
 rw [ByteArray.size_append,ByteArray.size_append,Bi,Bi,Bi,MY] at this
 exact this
end Go.Proofs.YthoimblkpcikdaaGreatDoor.PG4
