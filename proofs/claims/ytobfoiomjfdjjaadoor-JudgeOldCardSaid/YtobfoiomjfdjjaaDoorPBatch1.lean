/- What the functions that judge batches compute. -/
import Derived.Test.YtobfoiomjfdjjaaDoorPSorted
import Derived.Test.YtobfoiomjfdjjaaDoorPKeyRight
namespace Go.Proofs.YtobfoiomjfdjjaaDoor.PBatch1
open Go.RowKit Go.Proofs.YtobfoiomjfdjjaaDoor.Mc Go.Proofs.YtobfoiomjfdjjaaDoor.N Go.Proofs.YtobfoiomjfdjjaaDoor.Plain Go.Proofs.YtobfoiomjfdjjaaDoor.PureRune Go.Proofs.YtobfoiomjfdjjaaDoor.PureKeys Go.Proofs.YtobfoiomjfdjjaaDoor.PureCmp Go.Proofs.YtobfoiomjfdjjaaDoor.PureBytes Go.Proofs.YtobfoiomjfdjjaaDoor.PSort Go.Proofs.YtobfoiomjfdjjaaDoor.PSorted
open Go.Proofs.YtobfoiomjfdjjaaDoor.PKeyRight
open Go.Proofs.YtobfoiomjfdjjaaDoor.PureKeysRight
set_option linter.unusedSimpArgs false
set_option linter.unusedVariables false
abbrev Wr:Type:=ByteArray × Bool × ByteArray
noncomputable def kr (s:ByteArray):Bool :=
 let L:=Classical.choose (DK s s.size 0 (by omega))
 L.all Pg && (decide (1<=L.length) && decide (L.length<=12))
theorem aE {s:ByteArray}{L:List (Nat × Nat)}(h:Runes s 0 L):kr s=(L.all Pg && (decide (1<=L.length) && decide (L.length<=12))):=by
 have e:=uniq (Classical.choose_spec (DK s s.size 0 (by omega))).1 h
 unfold kr
 simp only [e]
theorem Yd (s:ByteArray):∃ L,Runes s 0 L/\L.length<=s.size/\kr s=(L.all Pg && (decide (1<=L.length) && decide (L.length<=12))):=by
 obtain ⟨L,h1,h2⟩:=DK s s.size 0 (by omega)
 exact ⟨L,h1,by omega,aE h1⟩
theorem QT (K:Nat)(s:ByteArray)(hk:20<=K):WW K s=some (kr s):=by
 obtain ⟨L,h1,_,e⟩:=Yd s
 rw [TM K h1 hk,e]
theorem Mr {s:ByteArray}(h:kr s=true):s.size<=48:=by
 obtain ⟨L,h1,_,e⟩:=Yd s
 rw [e,Bool.and_eq_true,Bool.and_eq_true,decide_eq_true_eq,decide_eq_true_eq] at h
 have:=Vp h1 (by omega)
 omega
theorem Qj (K:Nat){a b:ByteArray}(ha:a.size<=1000000)(hb:b.size<=1000000)(hK:2000000<=K):bC K a b=some (lt a b):=by
 unfold bC lt
 rw [Rc K ha hb hK,Option.bind_some]
 by_cases h:cmp (rl a) (rl b) < 0
 · rw [decide_eq_true h]; rfl
 · rw [decide_eq_false h]
   cases cmp (rl a) (rl b) == 0 <;> rfl
def Dw (c:Nat->Int):Nat->Nat->Int
 | 0,_=>0
 | m+1,i=>if c i=0 then Dw c m (i+1) else c i
theorem Oy {f:Int->Option (Int ⊕ (Int ⊕ Unit))} (c:Nat->Int) (n:Nat) (hs:∀ i,i < n->(∀ j,j < i->c j=0)->f (i:Int)=if c i=0 then some (.inl ((i+1:Nat):Int)) else some (.inr (.inl (c i)))) (he:f (n:Int)=some (.inr (.inr ()))) :
   ∀ (m i k:Nat),i+m=n->m < k->(∀ j,j < i->c j=0)->∃ r,AX f k (i:Int)=some r/\Aq (fun y=>some y) (fun _=>some 0) r=some (Dw c m i)
 | 0,i,k,hi,hk,_=>by
   obtain ⟨k,rfl⟩:∃ j,k=j+1:=⟨k - 1,by omega⟩
   obtain rfl:i=n:=by omega
   exact ⟨_,Am he,rfl⟩
 | m + 1,i,k,hi,hk,hz=>by
   obtain ⟨k,rfl⟩:∃ j,k=j+1:=⟨k - 1,by omega⟩
   have h:=hs i (by omega) hz
   by_cases hc:c i=0
   · rw [if_pos hc] at h
     obtain ⟨r,h1,h2⟩:=Oy c n hs he m (i+1) k (by omega) (by omega) (fun j hj=>by
       rcases Nat.lt_succ_iff_lt_or_eq.1 hj with h | rfl
       · exact hz j h
       · exact hc)
     exact ⟨r,by rw [Av h]; exact h1,by rw [h2,show Dw c (m+1) i=Dw c m (i+1) from if_pos hc]⟩
   · rw [if_neg hc] at h
     exact ⟨_,Am h,by unfold Dw; rw [if_neg hc]; rfl⟩
def fj (k big del ne ah:Bool):Int:=cond k (cond big 11 (cond (cond del ne false || !ah) 2 0)) 10
noncomputable def JB (l:List Wr)(i:Nat):Int :=
 match l[i]? with
 | none=>0
 | some w=>fj (kr w.1) (decide (48 < w.2.2.size)) w.2.1 (!(w.2.2.toList == (⟨#[]⟩:ByteArray).toList)) (!decide (0 < i) || (l[i - 1]?.map fun v=>lt v.1 w.1).getD true)
noncomputable def GO (l:List Wr):Int:=if l.length < 1\/8 < l.length then 12 else Dw (JB l) l.length 0
theorem Pa {l:List Wr}{i:Nat}{w:Wr}(h:l[i]? = some w):JB l i=fj (kr w.1) (decide (48 < w.2.2.size)) w.2.1 (!(w.2.2.toList == (⟨#[]⟩:ByteArray).toList)) (!decide (0 < i) || (l[i - 1]?.map fun v=>lt v.1 w.1).getD true):=by
 unfold JB; rw [h]
theorem UT {l:List Wr}{i:Nat}{w:Wr}(h:l[i]? = some w)(hc:JB l i=0):kr w.1=true:=by
 rw [Pa h] at hc
 cases hk:kr w.1 with
 | true=>rfl
 | false=>rw [hk] at hc; exact absurd (show (10:Int)=0 from hc) (by decide)
theorem Qd (K:Nat) (l:List Wr) (hn:l.length<=1000) (hK:2000000<=K) (i:Nat) (hi:i < l.length) (hz:∀ j,j < i->JB l j=0) :
   Kr K l (i:Int)=if JB l i=0 then some (.inl ((i+1:Nat):Int)) else some (.inr (.inl (JB l i))):=by
 have hli:l[i]? = some l[i]:=List.getElem?_eq_getElem hi
 unfold Kr
 rw [BC (by omega)]
 simp only [Qw,Int.toNat_natCast,hli,Option.bind_some]
 rw [QT K _ (by omega),Option.bind_some]
 rw [Pa hli]
 cases hk:kr l[i].1 with
 | false=>rfl
 | true =>
   have hs:=Mr hk
   rw [Bool.not_true,cond_false]
   by_cases hv:48 < l[i].2.2.size
   · rw [BC (by omega),decide_eq_true hv]; rfl
   rw [BT (by omega),decide_eq_false hv,LS (x:=(i:Int)+1) (by omega) (by omega)]
   by_cases h0:0 < i
   · have hp:l[i - 1]? = some (l[i - 1]'(by omega)):=List.getElem?_eq_getElem (by omega)
     have hpk:=UT hp (hz (i - 1) (by omega))
     have hps:=Mr hpk
     have hb:=Qj K (a:=(l[i - 1]'(by omega)).1) (b:=l[i].1) (by omega) (by omega) hK
     rw [LS (x:=(i:Int) - 1) (by omega) (by omega),show (i:Int) - 1=((i - 1:Nat):Int) by omega]
     simp only [Qw,Int.toNat_natCast,hp,BC (show (0:Int) < (i:Int) by omega),Option.bind_some,hb,decide_eq_true h0,Bool.not_true,Bool.false_or,Option.map_some,Option.getD_some]
     generalize l[i].2.1=d
     generalize (l[i].2.2.toList == (⟨#[]⟩:ByteArray).toList)=e
     generalize lt (l[i - 1]'(by omega)).1 l[i].1=o
     cases d <;> cases e <;> cases o <;> rfl
   · simp only [BT (show ¬ (0:Int) < (i:Int) by omega),decide_eq_false h0,Bool.not_false,Bool.true_or]
     generalize l[i].2.1=d
     generalize (l[i].2.2.toList == (⟨#[]⟩:ByteArray).toList)=e
     cases d <;> cases e <;> rfl
theorem DB (K:Nat)(l:List Wr)(hK:2000000<=K):eY K l=some (GO l):=by
 unfold eY GO
 by_cases h:l.length < 1\/8 < l.length
 · rw [if_pos h]
   by_cases h1:l.length < 1
   · rw [BC (by omega)]; rfl
   · rw [BT (by omega),decide_eq_true (by omega:(8:Int) < (l.length:Int))]; rfl
 · rw [if_neg h,BT (by omega),decide_eq_false (by omega:¬ (8:Int) < (l.length:Int)),Option.bind_some,cond_false]
   obtain ⟨r,h1,h2⟩:=Oy (f:=Kr K l) (JB l) l.length (fun i hi hz=>Qd K l (by omega) hK i hi hz) (by unfold Kr; rw [BT (by omega)]) l.length 0 K (by omega) (by omega) (fun j hj=>by omega)
   rw [show (0:Int)=((0:Nat):Int) from rfl,h1,Option.bind_some]
   exact h2
end Go.Proofs.YtobfoiomjfdjjaaDoor.PBatch1
