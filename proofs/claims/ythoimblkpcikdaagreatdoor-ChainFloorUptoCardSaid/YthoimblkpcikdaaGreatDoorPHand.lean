/- What the hand's functions compute: Pick, Key, Keys, Val, Writes. -/
import Derived.Test.YthoimblkpcikdaaGreatDoorPMkR
import Derived.Test.YthoimblkpcikdaaGreatDoorPBook
namespace Go.Proofs.YthoimblkpcikdaaGreatDoor.PHand
open Go.RowKit Go.Proofs.YthoimblkpcikdaaGreatDoor.Mc Go.Proofs.YthoimblkpcikdaaGreatDoor.N Go.Proofs.YthoimblkpcikdaaGreatDoor.Plain Go.Proofs.YthoimblkpcikdaaGreatDoor.PureKeys Go.Proofs.YthoimblkpcikdaaGreatDoor.PBatch1 Go.Proofs.YthoimblkpcikdaaGreatDoor.PMk Go.Proofs.YthoimblkpcikdaaGreatDoor.PMkR
open Go.Proofs.YthoimblkpcikdaaGreatDoor.PBook (short Lk Jj)
set_option linter.unusedSimpArgs false
set_option linter.unusedVariables false
abbrev Sm:Type:=Int × Bool × ByteArray
theorem Dj (K:Nat) (n m:Int) (h0:0 < m) (h1:m<=1000000):bQ K n m=some (n % m):=by
 have ha:=Int.tmod_lt_of_pos n h0
 have hb : -m < n.tmod m:=by
   rcases Int.le_total 0 n with h | h
   · have:=Int.tmod_nonneg m h; omega
   · have:=Int.tmod_lt_of_pos (-n) h0
     rw [Int.neg_tmod] at this
     omega
 unfold bQ
 rw [Ec (by rw [bne_iff_ne]; omega),<- Ov h0]
 by_cases h:n.tmod m < 0
 · rw [AK h,if_pos h,Option.bind_some,BK (by omega) (by omega)]
 · rw [AJ h,if_neg h,Option.bind_some]
def hk (n:Int):ByteArray:=ES.getD (n % 12).toNat ⟨#[]⟩
theorem gK (n:Int):hk n ∈ ES:=by
 have h1:=Int.emod_nonneg n (show (12:Int) ≠ 0 by omega)
 have h2:=Int.emod_lt_of_pos n (show (0:Int) < 12 by omega)
 unfold hk
 have hl:(n % 12).toNat < ES.length:=by show _ < 12; omega
 rw [List.getD_eq_getElem?_getD,List.getElem?_eq_getElem hl]
 exact List.getElem_mem hl
theorem Ro:∀ s ∈ ES,s.size<=4:=by decide +kernel
theorem cP (n:Int):(hk n).size<=4:=Ro _ (gK n)
theorem dz (K:Nat)(n:Int):nq K n=some (hk n):=by
 have h1:=Int.emod_nonneg n (show (12:Int) ≠ 0 by omega)
 have h2:=Int.emod_lt_of_pos n (show (0:Int) < 12 by omega)
 unfold nq
 rw [Dj K n 12 (by omega) (by omega),Option.bind_some]
 have hl:(n % 12).toNat < ES.length:=by show _ < 12; omega
 obtain ⟨m,hm⟩:∃ m:Nat,n % 12=(m:Int):=⟨(n % 12).toNat,by omega⟩
 unfold hk
 rw [hm,DP,Int.toNat_natCast]
 rw [hm,Int.toNat_natCast] at hl
 rw [List.getD_eq_getElem?_getD,List.getElem?_eq_getElem hl]; rfl
def nE:ByteArray:=strOfNums (List.replicate 40 120)
theorem aQ (K:Nat)(hK:100<=K):rf K 120 40=some nE:=by
 obtain ⟨k,rfl⟩:∃ k,K=k+100:=⟨K - 100,by omega⟩
 kernel_rfl
def hv (s:ByteArray)(n:Int):ByteArray:=short (if n % 9=8 then s ++ nE else s) 48
theorem eB (s:ByteArray)(n:Int):(hv s n).size<=48:=Lk _ _
theorem dP (K:Nat)(hK:100<=K)(s:ByteArray)(n:Int)(hs:s.size<=1000000000):ng K s n=some (hv s n):=by
 have hf:nE.size=40:=by decide +kernel
 unfold ng hv
 rw [Dj K n 9 (by omega) (by omega),Option.bind_some,aQ K hK,Option.bind_some]
 by_cases h:n % 9=8
 · rw [if_pos h,beq_iff_eq.2 h,cond_true,BB (by omega),Option.bind_some,show jx K (s ++ nE) 48=_ from Jj K (s ++ nE) 48]; rfl
 · rw [if_neg h,beq_eq_false_iff_ne.2 h,cond_false,Option.bind_some,show jx K s 48=_ from Jj K s 48]; rfl
def Qt (x:Sm):Wr:=(hk x.1,x.2.1,if x.2.1 then ByteArray.empty else hv x.2.2 (IntKind.wrap .i64 (x.1.tdiv 12)))
def ZK (l:List Sm)(m:Nat):List Wr:=if ((l.take m).map Qt).isEmpty then [((⟨#[97]⟩:ByteArray),false,(⟨#[49]⟩:ByteArray))] else (l.take m).map Qt
noncomputable def Xk (l:List Sm)(m:Nat):List Wr:=mk (ZK l m)
theorem JV (l:List Sm)(m:Nat):∀ w ∈ ZK l m,w.1.size<=4/\w.2.2.size<=48:=by
 intro w hw
 unfold ZK at hw
 split at hw
 · rw [List.mem_singleton] at hw
   subst hw
   exact ⟨by decide,by decide⟩
 · obtain ⟨x,_,rfl⟩:=List.mem_map.1 hw
   unfold Qt
   refine ⟨cP _,?_⟩
   dsimp only
   split
   · exact Nat.zero_le _
   · exact eB _ _
theorem ba (l:List Sm)(m:Nat)(hm:1<=m):(ZK l m).length<=m:=by
 unfold ZK
 split
 · simpa using hm
 · rw [List.length_map,List.length_take]; omega
theorem Wh (l:List Sm)(m:Nat):∀ w ∈ Xk l m,w.1.size<=4/\w.2.2.size<=48:=by
 intro w hw
 obtain ⟨v,hv,rfl⟩:=QD hw
 exact ⟨(JV l m v hv).1,PA (JV l m v hv).2⟩
theorem To (K:Nat) (hK:2000000<=K) (l:List Sm) (m:Nat) (h1:1<=m) (hm:m<=1000) (hs:∀ x ∈ l,x.2.2.size<=1000000000):kQ K l (m:Int)=some (Xk l m):=by
 unfold kQ
 rw [BE (r:=(l.take m).map Qt) (fun i=>((i:Int),(l.take i).map Qt)) (min m l.length) (by rfl) (by omega) ?_ ?_,Option.bind_some]
 · have e:(cond ((((l.take m).map Qt).length:Int) == 0) (some [((⟨#[97]⟩:ByteArray),false,(⟨#[49]⟩:ByteArray))]) (some ((l.take m).map Qt)):Option (List Wr))=some (ZK l m):=by
     rw [sE]
     unfold ZK
     cases ((l.take m).map Qt).isEmpty <;> rfl
   have hsm:Dm (ZK l m):=fun w hw=>by have:=JV l m w hw; omega
   have:=ba l m h1
   rw [e,Option.bind_some,Sz K _ hsm (by omega) hK]; rfl
 · intro i hi
   have hil:i < l.length:=by omega
   unfold aV
   simp only [DP,List.getElem?_eq_getElem hil,Option.bind_some,dz]
   rw [AK (by omega),decide_eq_true (by omega:(i:Int) < (m:Int)),Option.bind_some,cond_true,dP K (by omega) _ _ (hs _ (List.getElem_mem hil)),Option.bind_some]
   have e:((cond (!l[i].2.1) (some (hk l[i].1,l[i].2.1,hv l[i].2.2 (IntKind.wrap .i64 (l[i].1.tdiv 12)))) (some (hk l[i].1,l[i].2.1,ByteArray.empty))):Option Wr)=some (Qt l[i]):=by
     unfold Qt
     cases l[i].2.1 <;> rfl
   rw [e,Option.bind_some,BB (by simp only [List.length_map,List.length_take,List.length_singleton]; omega),BK (by omega) (by omega),AM hil,List.map_append]
   rfl
 · unfold aV
   have e:l.take (min m l.length)=l.take m:=by
     rw [List.take_eq_take_iff]; omega
   rw [e]
   by_cases h:min m l.length < l.length
   · rw [AK (by omega),decide_eq_false (by omega)]; rfl
   · rw [AJ (by omega)]; rfl
end Go.Proofs.YthoimblkpcikdaaGreatDoor.PHand
