/- What the functions that judge batches compute. -/
import Derived.Test.YthoimblkpcikdaaGreatDoorPSorted
import Derived.Test.YthoimblkpcikdaaGreatDoorPKeyRight
namespace Go.Proofs.YthoimblkpcikdaaGreatDoor.PBatch1
open Go.RowKit Go.Proofs.YthoimblkpcikdaaGreatDoor.Mc Go.Proofs.YthoimblkpcikdaaGreatDoor.N Go.Proofs.YthoimblkpcikdaaGreatDoor.Plain Go.Proofs.YthoimblkpcikdaaGreatDoor.PureRune Go.Proofs.YthoimblkpcikdaaGreatDoor.PureKeys Go.Proofs.YthoimblkpcikdaaGreatDoor.PureCmp Go.Proofs.YthoimblkpcikdaaGreatDoor.PureBytes Go.Proofs.YthoimblkpcikdaaGreatDoor.PSort Go.Proofs.YthoimblkpcikdaaGreatDoor.PSorted
open Go.Proofs.YthoimblkpcikdaaGreatDoor.PKeyRight
open Go.Proofs.YthoimblkpcikdaaGreatDoor.PureKeysRight
set_option linter.unusedSimpArgs false
set_option linter.unusedVariables false
abbrev Wr:Type:=ByteArray × Bool × ByteArray
noncomputable def kr (s:ByteArray):Bool :=
 let L:=Classical.choose (EA s s.size 0 (by omega))
 L.all LV && (decide (1<=L.length) && decide (L.length<=12))
theorem kZ {s:ByteArray}{L:List (Nat × Nat)}(h:Runes s 0 L):kr s=(L.all LV && (decide (1<=L.length) && decide (L.length<=12))):=by
 have e:=uniq (Classical.choose_spec (EA s s.size 0 (by omega))).1 h
 unfold kr
 simp only [e]
theorem Ze (s:ByteArray):∃ L,Runes s 0 L/\L.length<=s.size/\kr s=(L.all LV && (decide (1<=L.length) && decide (L.length<=12))):=by
 obtain ⟨L,h1,h2⟩:=EA s s.size 0 (by omega)
 exact ⟨L,h1,by omega,kZ h1⟩
theorem iI (K:Nat)(s:ByteArray)(hk:20<=K):UI K s=some (kr s):=by
 obtain ⟨L,h1,_,e⟩:=Ze s
 rw [WO K h1 hk,e]
theorem Zu (K:Nat){s:ByteArray}(hs:s.size<=1048576)(hk:2000000<=K):Wq K s=some (kr s):=by
 obtain ⟨L,h1,h2,e⟩:=Ze s
 rw [Qf K (by omega) h1 (by omega) h2,e]
theorem IQ {s:ByteArray}(h:kr s=true):s.size<=48:=by
 obtain ⟨L,h1,_,e⟩:=Ze s
 rw [e,Bool.and_eq_true,Bool.and_eq_true,decide_eq_true_eq,decide_eq_true_eq] at h
 have:=Ym h1 (by omega)
 omega
theorem Ur (K:Nat){a b:ByteArray}(ha:a.size<=1000000)(hb:b.size<=1000000)(hK:2000000<=K):bD K a b=some (lt a b):=by
 unfold bD lt
 rw [bj K ha hb hK,Option.bind_some]
 by_cases h:cmp (rl a) (rl b) < 0
 · rw [decide_eq_true h]; rfl
 · rw [decide_eq_false h]
   cases cmp (rl a) (rl b) == 0 <;> rfl
def DG (c:Nat->Int):Nat->Nat->Int
 | 0,_=>0
 | m+1,i=>if c i=0 then DG c m (i+1) else c i
theorem NS {f:Int->Option (Int ⊕ (Int ⊕ Unit))} (c:Nat->Int) (n:Nat) (hs:∀ i,i < n->(∀ j,j < i->c j=0)->f (i:Int)=if c i=0 then some (.inl ((i+1:Nat):Int)) else some (.inr (.inl (c i)))) (he:f (n:Int)=some (.inr (.inr ()))) :
   ∀ (m i k:Nat),i+m=n->m < k->(∀ j,j < i->c j=0)->∃ r,AE f k (i:Int)=some r/\BN (fun y=>some y) (fun _=>some 0) r=some (DG c m i)
 | 0,i,k,hi,hk,_=>by
   obtain ⟨k,rfl⟩:∃ j,k=j+1:=⟨k - 1,by omega⟩
   obtain rfl:i=n:=by omega
   exact ⟨_,AO he,rfl⟩
 | m + 1,i,k,hi,hk,hz=>by
   obtain ⟨k,rfl⟩:∃ j,k=j+1:=⟨k - 1,by omega⟩
   have h:=hs i (by omega) hz
   by_cases hc:c i=0
   · rw [if_pos hc] at h
     obtain ⟨r,h1,h2⟩:=NS c n hs he m (i+1) k (by omega) (by omega) (fun j hj=>by
       rcases Nat.lt_succ_iff_lt_or_eq.1 hj with h | rfl
       · exact hz j h
       · exact hc)
     exact ⟨r,by rw [Ab h]; exact h1,by rw [h2,show DG c (m+1) i=DG c m (i+1) from if_pos hc]⟩
   · rw [if_neg hc] at h
     exact ⟨_,AO h,by unfold DG; rw [if_neg hc]; rfl⟩
theorem IK (c:Nat->Int):∀ (m i:Nat),DG c m i=0->∀ j,i<=j->j < i+m->c j=0
 | 0,i,_,j,h1,h2=>by omega
 | m + 1,i,h,j,h1,h2=>by
   unfold DG at h
   by_cases hc:c i=0
   · rw [if_pos hc] at h
     by_cases e:j=i
     · rw [e]; exact hc
     · exact IK c m (i+1) h j (by omega) (by omega)
   · rw [if_neg hc] at h; exact absurd h hc
def pk (k big del ne ah:Bool):Int:=cond k (cond big 11 (cond (cond del ne false || !ah) 2 0)) 10
noncomputable def Fe (l:List Wr)(i:Nat):Int :=
 match l[i]? with
 | none=>0
 | some w=>pk (kr w.1) (decide (48 < w.2.2.size)) w.2.1 (!(w.2.2.toList == (⟨#[]⟩:ByteArray).toList)) (!decide (0 < i) || (l[i - 1]?.map fun v=>lt v.1 w.1).getD true)
noncomputable def Bq (l:List Wr):Int:=if l.length < 1\/8 < l.length then 12 else DG (Fe l) l.length 0
theorem IZ {l:List Wr}{i:Nat}{w:Wr}(h:l[i]? = some w):Fe l i=pk (kr w.1) (decide (48 < w.2.2.size)) w.2.1 (!(w.2.2.toList == (⟨#[]⟩:ByteArray).toList)) (!decide (0 < i) || (l[i - 1]?.map fun v=>lt v.1 w.1).getD true):=by
 unfold Fe; rw [h]
theorem Lz {l:List Wr}{i:Nat}{w:Wr}(h:l[i]? = some w)(hc:Fe l i=0):kr w.1=true:=by
 rw [IZ h] at hc
 cases hk:kr w.1 with
 | true=>rfl
 | false=>rw [hk] at hc; exact absurd (show (10:Int)=0 from hc) (by decide)
theorem Tz (K:Nat) (l:List Wr) (hn:l.length<=1000) (hK:2000000<=K) (i:Nat) (hi:i < l.length) (hz:∀ j,j < i->Fe l j=0) :
   Ib K l (i:Int)=if Fe l i=0 then some (.inl ((i+1:Nat):Int)) else some (.inr (.inl (Fe l i))):=by
 have hli:l[i]? = some l[i]:=List.getElem?_eq_getElem hi
 unfold Ib
 rw [AK (by omega),DP,hli,Option.bind_some,iI K _ (by omega),Option.bind_some]
 rw [IZ hli]
 cases hk:kr l[i].1 with
 | false=>rfl
 | true =>
   have hs:=IQ hk
   rw [Bool.not_true,cond_false]
   by_cases hv:48 < l[i].2.2.size
   · rw [AK (by omega),decide_eq_true hv]; rfl
   rw [AJ (by omega),decide_eq_false hv,BK (x:=(i:Int)+1) (by omega) (by omega)]
   by_cases h0:0 < i
   · have hp:l[i - 1]? = some (l[i - 1]'(by omega)):=List.getElem?_eq_getElem (by omega)
     have hpk:=Lz hp (hz (i - 1) (by omega))
     have hps:=IQ hpk
     have hb:=Ur K (a:=(l[i - 1]'(by omega)).1) (b:=l[i].1) (by omega) (by omega) hK
     rw [BK (x:=(i:Int) - 1) (by omega) (by omega),show (i:Int) - 1=((i - 1:Nat):Int) by omega,DP,hp]
     simp only [AK (show (0:Int) < (i:Int) by omega),Option.bind_some,hb,decide_eq_true h0,Bool.not_true,Bool.false_or,Option.map_some,Option.getD_some]
     generalize l[i].2.1=d
     generalize (l[i].2.2.toList == (⟨#[]⟩:ByteArray).toList)=e
     generalize lt (l[i - 1]'(by omega)).1 l[i].1=o
     cases d <;> cases e <;> cases o <;> rfl
   · simp only [AJ (show ¬ (0:Int) < (i:Int) by omega),decide_eq_false h0,Bool.not_false,Bool.true_or]
     generalize l[i].2.1=d
     generalize (l[i].2.2.toList == (⟨#[]⟩:ByteArray).toList)=e
     cases d <;> cases e <;> rfl
theorem GS (K:Nat)(l:List Wr)(hK:2000000<=K):dr K l=some (Bq l):=by
 unfold dr Bq
 by_cases h:l.length < 1\/8 < l.length
 · rw [if_pos h]
   by_cases h1:l.length < 1
   · rw [AK (by omega)]; rfl
   · rw [AJ (by omega),decide_eq_true (by omega:(8:Int) < (l.length:Int))]; rfl
 · rw [if_neg h,AJ (by omega),decide_eq_false (by omega:¬ (8:Int) < (l.length:Int)),Option.bind_some,cond_false]
   obtain ⟨r,h1,h2⟩:=NS (f:=Ib K l) (Fe l) l.length (fun i hi hz=>Tz K l (by omega) hK i hi hz) (by unfold Ib; rw [AJ (by omega)]) l.length 0 K (by omega) (by omega) (fun j hj=>by omega)
   rw [show (0:Int)=((0:Nat):Int) from rfl,h1,Option.bind_some]
   exact h2
def ai (l:List Wr):Prop:=∀ w ∈ l,w.1.size<=1048576
theorem Yt (K:Nat) (l:List Wr) (hl:ai l) (hn:l.length<=1000) (hK:2000000<=K) (i:Nat) (hi:i < l.length) (hz:∀ j,j < i->Fe l j=0) :
   ME K l (i:Int)=if Fe l i=0 then some (.inl ((i+1:Nat):Int)) else some (.inr (.inl (Fe l i))):=by
 have hli:l[i]? = some l[i]:=List.getElem?_eq_getElem hi
 unfold ME
 simp only [DP,Int.toNat_natCast,hli,Option.bind_some]
 rw [AK (by omega),Zu K (hl _ (List.getElem_mem hi)) (by omega),Option.bind_some]
 rw [IZ hli]
 cases hk:kr l[i].1 with
 | false=>rfl
 | true =>
   have hs:=IQ hk
   rw [Bool.not_true,cond_false]
   by_cases hv:48 < l[i].2.2.size
   · rw [AK (by omega),decide_eq_true hv]; rfl
   rw [AJ (by omega),decide_eq_false hv,BK (x:=(i:Int)+1) (by omega) (by omega)]
   by_cases h0:0 < i
   · have hp:l[i - 1]? = some (l[i - 1]'(by omega)):=List.getElem?_eq_getElem (by omega)
     have hpk:=Lz hp (hz (i - 1) (by omega))
     have hps:=IQ hpk
     have hb:=PSorted.ahead K (a:=(l[i - 1]'(by omega)).1) (b:=l[i].1) (by omega) (by omega) hK
     rw [BK (x:=(i:Int) - 1) (by omega) (by omega),show (i:Int) - 1=((i - 1:Nat):Int) by omega]
     simp only [DP,Int.toNat_natCast,hp,AK (show (0:Int) < (i:Int) by omega),Option.bind_some,hb,decide_eq_true h0,Bool.not_true,Bool.false_or,Option.map_some,Option.getD_some]
     generalize l[i].2.1=d
     generalize (l[i].2.2.toList == (⟨#[]⟩:ByteArray).toList)=e
     generalize lt (l[i - 1]'(by omega)).1 l[i].1=o
     cases d <;> cases e <;> cases o <;> rfl
   · simp only [AJ (show ¬ (0:Int) < (i:Int) by omega),decide_eq_false h0,Bool.not_false,Bool.true_or]
     generalize l[i].2.1=d
     generalize (l[i].2.2.toList == (⟨#[]⟩:ByteArray).toList)=e
     cases d <;> cases e <;> rfl
theorem FY (K:Nat)(l:List Wr)(hl:ai l)(hK:2000000<=K):nk K l=some (Bq l):=by
 unfold nk Bq
 by_cases h:l.length < 1\/8 < l.length
 · rw [if_pos h]
   by_cases h1:l.length < 1
   · rw [AK (by omega)]; rfl
   · rw [AJ (by omega),decide_eq_true (by omega:(8:Int) < (l.length:Int))]; rfl
 · rw [if_neg h,AJ (by omega),decide_eq_false (by omega:¬ (8:Int) < (l.length:Int)),Option.bind_some,cond_false]
   obtain ⟨r,h1,h2⟩:=NS (f:=ME K l) (Fe l) l.length (fun i hi hz=>Yt K l hl (by omega) hK i hi hz) (by unfold ME; rw [AJ (by omega)]) l.length 0 K (by omega) (by omega) (fun j hj=>by omega)
   rw [show (0:Int)=((0:Nat):Int) from rfl,h1,Option.bind_some]
   exact h2
end Go.Proofs.YthoimblkpcikdaaGreatDoor.PBatch1
