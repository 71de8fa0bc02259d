/- Numbers of four bytes: laid and read. -/
import Derived.Test.YthoimblkpcikdaaGreatDoorPPiece
namespace Go.Proofs.YthoimblkpcikdaaGreatDoor.PG4
open Go.RowKit Go.Proofs.YthoimblkpcikdaaGreatDoor.Mc Go.Proofs.YthoimblkpcikdaaGreatDoor.N Go.Proofs.YthoimblkpcikdaaGreatDoor.Plain Go.Proofs.YthoimblkpcikdaaGreatDoor.PLay Go.Proofs.YthoimblkpcikdaaGreatDoor.MLay Go.Proofs.YthoimblkpcikdaaGreatDoor.PPiece
open Go.Proofs.YthoimblkpcikdaaGreatDoor.PCrc (FC)
set_option linter.unusedSimpArgs false
set_option linter.unusedVariables false
theorem Pq (v c n:Nat)(hv:v < 2 ^ n):(v ||| (c * 2 ^ n))=v+c * 2 ^ n:=by
 rw [Nat.or_comm,Nat.mul_comm c]
 rw [<- Nat.two_pow_add_eq_or_of_lt hv]
 omega
theorem eV (x:ByteArray)(p:Int):g4 x p=bt x p+bt x (p+1) * 256+bt x (p+2) * 65536+bt x (p+3) * 16777216:=by
 have h0:=Bt x p
 have h1:=Bt x (p+1)
 have h2:=Bt x (p+2)
 have h3:=Bt x (p+3)
 unfold g4
 generalize bt x p=a at *
 generalize bt x (p+1)=b at *
 generalize bt x (p+2)=c at *
 generalize bt x (p+3)=d at *
 obtain ⟨a,rfl⟩:=Int.eq_ofNat_of_zero_le h0.1
 obtain ⟨b,rfl⟩:=Int.eq_ofNat_of_zero_le h1.1
 obtain ⟨c,rfl⟩:=Int.eq_ofNat_of_zero_le h2.1
 obtain ⟨d,rfl⟩:=Int.eq_ofNat_of_zero_le h3.1
 have e8:(2:Int) ^ 8=256:=rfl
 have mf:(2:Int) ^ 16=65536:=rfl
 have e24:(2:Int) ^ 24=16777216:=rfl
 rw [Kt (x:=(a:Int)) (by omega) (by omega),Kt (x:=(b:Int)) (by omega) (by omega),Kt (x:=(c:Int)) (by omega) (by omega),Kt (x:=(d:Int)) (by omega) (by omega),e8,mf,e24,Kt (by omega) (by omega),Kt (by omega) (by omega),Kt (by omega) (by omega)]
 have f8:(b:Int) * 256=((b * 2 ^ 8:Nat):Int):=by omega
 have f16:(c:Int) * 65536=((c * 2 ^ 16:Nat):Int):=by omega
 have f24:(d:Int) * 16777216=((d * 2 ^ 24:Nat):Int):=by omega
 rw [f8,f16,f24,EL _ _ (by omega) (by omega),Pq _ _ 8 (by omega),EL _ _ (by omega) (by omega),Pq _ _ 16 (by omega),EL _ _ (by omega) (by omega),Pq _ _ 24 (by omega)]
 omega
def n4 (v:Int):List Int:=[v % 256,v / 256 % 256,v / 65536 % 256,v / 16777216 % 256]
def p4 (v:Int):ByteArray:=strOfNums (n4 v)
theorem Bd (v:Int):(p4 v).size=4:=by unfold p4; rw [strOfNums_size]; rfl
theorem LL (v:Int):∀ (j:Nat) (x:Int),(n4 v)[j]? = some x->0<=x/\x<=255:=by
 intro j x h
 have:=List.mem_of_getElem? h
 unfold n4 at this
 simp only [List.mem_cons,List.not_mem_nil,or_false] at this
 omega
theorem UW (x:Int)(h0:0<=x)(h1:x < 4294967296):bits .and .u32 x 255=x % 256:=by
 obtain ⟨a,rfl⟩:=Int.eq_ofNat_of_zero_le h0
 rw [show (255:Int)=((255:Nat):Int) from rfl,FC _ _ (by omega) (by omega),show (255:Nat)=2 ^ 8 - 1 from rfl,Nat.and_two_pow_sub_one_eq_mod]
 omega
theorem Ez (K:Nat)(v:Int)(h0:0<=v)(h1:v < 4294967296):cR K v=some (p4 v):=by
 unfold cR p4 n4
 simp only [wrap_u8]
 rw [Int.fdiv_eq_ediv_of_nonneg _ (by decide),Int.fdiv_eq_ediv_of_nonneg _ (by decide),Int.fdiv_eq_ediv_of_nonneg _ (by decide)]
 have e8:(2:Int) ^ 8=256:=rfl
 have mf:(2:Int) ^ 16=65536:=rfl
 have e24:(2:Int) ^ 24=16777216:=rfl
 rw [e8,mf,e24,UW _ h0 h1,UW _ (by omega) (by omega),UW _ (by omega) (by omega)]
 rw [Int.emod_emod_of_dvd _ (by decide),Int.emod_emod_of_dvd _ (by decide),Int.emod_emod_of_dvd _ (by decide)]
theorem VA (A B:ByteArray)(v:Int)(h0:0<=v)(h1:v < 4294967296):g4 (A ++ p4 v ++ B) (A.size:Int)=v:=by
 rw [eV]
 have b0:=PN A B (n4 v) (LL v) 0 _ rfl
 have b1:=PN A B (n4 v) (LL v) 1 _ rfl
 have b2:=PN A B (n4 v) (LL v) 2 _ rfl
 have b3:=PN A B (n4 v) (LL v) 3 _ rfl
 rw [show ((A.size:Int)+((0:Nat):Int))=(A.size:Int) by omega] at b0
 rw [show (((1:Nat):Int))=1 from rfl] at b1
 rw [show (((2:Nat):Int))=2 from rfl] at b2
 rw [show (((3:Nat):Int))=3 from rfl] at b3
 unfold p4
 rw [b0,b1,b2,b3]
 omega
theorem Ld (a:ByteArray):a ++ (⟨#[]⟩:ByteArray)=a:=by apply ByteArray.ext; simp
theorem PR (a:ByteArray):(⟨#[]⟩:ByteArray) ++ a=a:=by apply ByteArray.ext; simp
def s4 (a b c d:Int):ByteArray:=((p4 a ++ p4 b) ++ p4 c) ++ p4 d
theorem Ve (a b c d:Int):(s4 a b c d).size=16:=by
 unfold s4
 rw [ByteArray.size_append,ByteArray.size_append,ByteArray.size_append,Bd,Bd,Bd,Bd]
def U (v:Int):Prop:=0<=v/\v < 4294967296
theorem pR {a:Int}(b c d:Int)(h:U a):g4 (s4 a b c d) 0=a:=by
 have:=VA (⟨#[]⟩:ByteArray) (p4 b ++ (p4 c ++ p4 d)) a h.1 h.2
 rw [PR,<- ByteArray.append_assoc,<- ByteArray.append_assoc] at this
 exact this
theorem sH (a:Int){b:Int}(c d:Int)(h:U b):g4 (s4 a b c d) 4=b:=by
 have:=VA (p4 a) (p4 c ++ p4 d) b h.1 h.2
 rw [Bd,<- ByteArray.append_assoc] at this
 exact this
theorem kS (a b c:Int){d:Int}(h:U d):g4 (s4 a b c d) 12=d:=by
 have:=VA (p4 a ++ p4 b ++ p4 c) (⟨#[]⟩:ByteArray) d h.1 h.2
 rw [ByteArray.size_append,ByteArray.size_append,Bd,Bd,Bd,Ld] at this
 exact this
end Go.Proofs.YthoimblkpcikdaaGreatDoor.PG4
