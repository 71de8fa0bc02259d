/- What the hand's functions compute: Pick, Key, Keys, Val, Writes. -/
import Derived.Test.YthoimblkpcikdaaGreatDoorPMkR
import Derived.Test.YthoimblkpcikdaaGreatDoorPBook
namespace Go.Proofs.YthoimblkpcikdaaGreatDoor.PHand
open Go.RowKit Go.Proofs.YthoimblkpcikdaaGreatDoor.Mc Go.Proofs.YthoimblkpcikdaaGreatDoor.N Go.Proofs.YthoimblkpcikdaaGreatDoor.Plain Go.Proofs.YthoimblkpcikdaaGreatDoor.PureKeys Go.Proofs.YthoimblkpcikdaaGreatDoor.PBatch1 Go.Proofs.YthoimblkpcikdaaGreatDoor.PMk Go.Proofs.YthoimblkpcikdaaGreatDoor.PMkR
open Go.Proofs.YthoimblkpcikdaaGreatDoor.PBook (short NI KW)
set_option linter.unusedSimpArgs false
set_option linter.unusedVariables false
abbrev Sm:Type:=Int × Bool × ByteArray
theorem FG (K:Nat) (n m:Int) (h0:0 < m) (h1:m<=1000000):dU K n m=some (n % m):=by
 have ha:=Int.tmod_lt_of_pos n h0
 have hb : -m < n.tmod m:=by
   rcases Int.le_total 0 n with h | h
   · have:=Int.tmod_nonneg m h; omega
   · have:=Int.tmod_lt_of_pos (-n) h0
     rw [Int.neg_tmod] at this
     omega
 unfold dU
 rw [FY (by rw [bne_iff_ne]; omega),<- PR h0]
 by_cases h:n.tmod m < 0
 · rw [AE h,if_pos h,Option.bind_some,Aq (by omega) (by omega)]
 · rw [AF h,if_neg h,Option.bind_some]
def hk (n:Int):ByteArray:=DC.getD (n % 12).toNat ⟨#[]⟩
theorem lF (n:Int):hk n ∈ DC:=by
 have h1:=Int.emod_nonneg n (show (12:Int) ≠ 0 by omega)
 have h2:=Int.emod_lt_of_pos n (show (0:Int) < 12 by omega)
 unfold hk
 have hl:(n % 12).toNat < DC.length:=by show _ < 12; omega
 rw [List.getD_eq_getElem?_getD,List.getElem?_eq_getElem hl]
 exact List.getElem_mem hl
theorem Sf:∀ s ∈ DC,s.size<=4:=by decide +kernel
theorem eM (n:Int):(hk n).size<=4:=Sf _ (lF n)
theorem eL (K:Nat)(n:Int):pw K n=some (hk n):=by
 have h1:=Int.emod_nonneg n (show (12:Int) ≠ 0 by omega)
 have h2:=Int.emod_lt_of_pos n (show (0:Int) < 12 by omega)
 unfold pw
 rw [FG K n 12 (by omega) (by omega),Option.bind_some]
 have hl:(n % 12).toNat < DC.length:=by show _ < 12; omega
 obtain ⟨m,hm⟩:∃ m:Nat,n % 12=(m:Int):=⟨(n % 12).toNat,by omega⟩
 unfold hk
 rw [hm,Bz,Int.toNat_natCast]
 rw [hm,Int.toNat_natCast] at hl
 rw [List.getD_eq_getElem?_getD,List.getElem?_eq_getElem hl]; rfl
def mX:ByteArray:=strOfNums (List.replicate 40 120)
theorem bB (K:Nat)(hK:100<=K):qW K 120 40=some mX:=by
 obtain ⟨k,rfl⟩:∃ k,K=k+100:=⟨K - 100,by omega⟩
 kernel_rfl
def hv (s:ByteArray)(n:Int):ByteArray:=short (if n % 9=8 then s ++ mX else s) 48
theorem fw (s:ByteArray)(n:Int):(hv s n).size<=48:=NI _ _
theorem fp (K:Nat)(hK:100<=K)(s:ByteArray)(n:Int)(hs:s.size<=1000000000):pW K s n=some (hv s n):=by
 have hf:mX.size=40:=by decide +kernel
 unfold pW hv
 rw [FG K n 9 (by omega) (by omega),Option.bind_some,bB K hK,Option.bind_some]
 by_cases h:n % 9=8
 · rw [if_pos h,beq_iff_eq.2 h,cond_true,Ak (by omega),Option.bind_some,show lK K (s ++ mX) 48=_ from KW K (s ++ mX) 48]; rfl
 · rw [if_neg h,beq_eq_false_iff_ne.2 h,cond_false,Option.bind_some,show lK K s 48=_ from KW K s 48]; rfl
def Oq (x:Sm):Wr:=(hk x.1,x.2.1,if x.2.1 then ByteArray.empty else hv x.2.2 (IntKind.wrap .i64 (x.1.tdiv 12)))
def ae (l:List Sm)(m:Nat):List Wr:=if ((l.take m).map Oq).isEmpty then [((⟨#[97]⟩:ByteArray),false,(⟨#[49]⟩:ByteArray))] else (l.take m).map Oq
noncomputable def ZV (l:List Sm)(m:Nat):List Wr:=mk (ae l m)
theorem Jt (l:List Sm)(m:Nat):∀ w ∈ ae l m,w.1.size<=4/\w.2.2.size<=48:=by
 intro w hw
 unfold ae at hw
 split at hw
 · rw [List.mem_singleton] at hw
   subst hw
   exact ⟨by decide,by decide⟩
 · obtain ⟨x,_,rfl⟩:=List.mem_map.1 hw
   unfold Oq
   refine ⟨eM _,?_⟩
   dsimp only
   split
   · exact Nat.zero_le _
   · exact fw _ _
theorem fS (l:List Sm)(m:Nat)(hm:1<=m):(ae l m).length<=m:=by
 unfold ae
 split
 · simpa using hm
 · rw [List.length_map,List.length_take]; omega
theorem Xx (l:List Sm)(m:Nat):∀ w ∈ ZV l m,w.1.size<=4/\w.2.2.size<=48:=by
 intro w hw
 obtain ⟨v,hv,rfl⟩:=RX hw
 exact ⟨(Jt l m v hv).1,Pu (Jt l m v hv).2⟩
theorem Vr (K:Nat) (hK:2000000<=K) (l:List Sm) (m:Nat) (h1:1<=m) (hm:m<=1000) (hs:∀ x ∈ l,x.2.2.size<=1000000000):nQ K l (m:Int)=some (ZV l m):=by
 unfold nQ
 rw [Ag (r:=(l.take m).map Oq) (fun i=>((i:Int),(l.take i).map Oq)) (min m l.length) (by rfl) (by omega) ?_ ?_,Option.bind_some]
 · have e:(cond ((((l.take m).map Oq).length:Int) == 0) (some [((⟨#[97]⟩:ByteArray),false,(⟨#[49]⟩:ByteArray))]) (some ((l.take m).map Oq)):Option (List Wr))=some (ae l m):=by
     rw [tj]
     unfold ae
     cases ((l.take m).map Oq).isEmpty <;> rfl
   have hsm:DK (ae l m):=fun w hw=>by have:=Jt l m w hw; omega
   have:=fS l m h1
   rw [e,Option.bind_some,SR K _ hsm (by omega) hK]; rfl
 · intro i hi
   have hil:i < l.length:=by omega
   unfold bX
   simp only [Bz,List.getElem?_eq_getElem hil,Option.bind_some,eL]
   rw [AE (by omega),decide_eq_true (by omega:(i:Int) < (m:Int)),Option.bind_some,cond_true,fp K (by omega) _ _ (hs _ (List.getElem_mem hil)),Option.bind_some]
   have e:((cond (!l[i].2.1) (some (hk l[i].1,l[i].2.1,hv l[i].2.2 (IntKind.wrap .i64 (l[i].1.tdiv 12)))) (some (hk l[i].1,l[i].2.1,ByteArray.empty))):Option Wr)=some (Oq l[i]):=by
     unfold Oq
     cases l[i].2.1 <;> rfl
   rw [e,Option.bind_some,Ak (by simp only [List.length_map,List.length_take,List.length_singleton]; omega),Aq (by omega) (by omega),AL hil,List.map_append]
   rfl
 · unfold bX
   have e:l.take (min m l.length)=l.take m:=by
     rw [List.take_eq_take_iff]; omega
   rw [e]
   by_cases h:min m l.length < l.length
   · rw [AE (by omega),decide_eq_false (by omega)]; rfl
   · rw [AF (by omega)]; rfl
end Go.Proofs.YthoimblkpcikdaaGreatDoor.PHand
