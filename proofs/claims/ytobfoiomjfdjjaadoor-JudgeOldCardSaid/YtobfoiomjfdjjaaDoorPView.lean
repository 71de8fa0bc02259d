/- What a view's functions compute. -/
import Derived.Test.YtobfoiomjfdjjaaDoorPMkO
namespace Go.Proofs.YtobfoiomjfdjjaaDoor.PView
open Go.RowKit Go.Proofs.YtobfoiomjfdjjaaDoor.Mc Go.Proofs.YtobfoiomjfdjjaaDoor.N Go.Proofs.YtobfoiomjfdjjaaDoor.Plain Go.Proofs.YtobfoiomjfdjjaaDoor.PureRune Go.Proofs.YtobfoiomjfdjjaaDoor.PureKeys Go.Proofs.YtobfoiomjfdjjaaDoor.PSort Go.Proofs.YtobfoiomjfdjjaaDoor.PSorted Go.Proofs.YtobfoiomjfdjjaaDoor.PBatch1 Go.Proofs.YtobfoiomjfdjjaaDoor.PMk Go.Proofs.YtobfoiomjfdjjaaDoor.PMkO
open Go.Proofs.YtobfoiomjfdjjaaDoor.PFd (Lo fo Du)
set_option linter.unusedSimpArgs false
set_option linter.unusedVariables false
abbrev Rd:=ByteArray × Int × Int
def XD:Option Nat->Int | some i=>(i:Int) | none => -1
theorem Ln {α:Type} {f:Int->Option (Int ⊕ (Int ⊕ Unit))} (l:List α) (p:α->Bool) (hf:∀ (i:Nat) (h:i < l.length),f (i:Int)=cond (p l[i]) (some (.inr (.inl (i:Int)))) (some (.inl ((i+1:Nat):Int)))) (he:f (l.length:Int)=some (.inr (.inr ()))) :
   ∀ (m i k:Nat),i+m=l.length->m < k->AX f k (i:Int)=some (match (l.drop i).findIdx? p with | some j=>.inl ((i+j:Nat):Int) | none=>.inr ())
 | 0,i,k,hi,hk=>by
   obtain ⟨k,rfl⟩:∃ q,k=q+1:=⟨k - 1,by omega⟩
   have hil:i=l.length:=by omega
   subst hil
   rw [Am he,List.drop_length]; rfl
 | m + 1,i,k,hi,hk=>by
   obtain ⟨k,rfl⟩:∃ q,k=q+1:=⟨k - 1,by omega⟩
   have hil:i < l.length:=by omega
   have h:=hf i hil
   rw [List.drop_eq_getElem_cons hil,List.findIdx?_cons]
   cases hp:p l[i] with
   | true =>
     rw [hp] at h
     rw [Am (r:=.inl (i:Int)) h]; rfl
   | false =>
     rw [hp] at h
     rw [Av h,Ln l p hf he m (i+1) k (by omega) (by omega)]
     simp only [Bool.false_eq_true,if_false]
     cases (l.drop (i+1)).findIdx? p with
     | none=>rfl
     | some j=>simp only [Option.map_some]; rw [show i+1+j=i+(j+1) by omega]
theorem fW (K:Nat)(l:List Wr)(key:ByteArray)(d:Bool)(v:ByteArray)(hl:l.length<=1000000)(hK:l.length < K):eU K l key d v=some (XD (l.findIdx? fun w=>w.1.toList == key.toList)):=by
 unfold eU
 have:=Ln (f:=SH K l key d v) l (fun w=>w.1.toList == key.toList) (fun i hi=>by
   unfold SH fG
   simp only [Qw,Int.toNat_natCast,List.getElem?_eq_getElem hi,Option.bind_some]
   rw [BC (by omega),LS (by omega) (by omega)]; rfl) (by
   unfold SH
   rw [BT (by omega)]) l.length 0 K (by omega) hK
 rw [show (0:Int)=((0:Nat):Int) from rfl,this,Option.bind_some,List.drop_zero]
 cases l.findIdx? fun w=>w.1.toList == key.toList with
 | none=>rfl
 | some j=>simp only [Aq,XD,Nat.zero_add]
def gz (W:List Wr)(w:Wr):Option (List Wr) :=
 match W.findIdx? fun v=>v.1.toList == w.1.toList with
 | some i=>some (W.set i w)
 | none=>if 8<=W.length then none else some (W ++ [w])
noncomputable def Iw (W:List Wr)(w:Wr):Int × List Wr :=
 if kr w.1=false then (10,W) else if 48 < w.2.2.size then (11,W) else match gz W w with
   | some V=>(0,V)
   | none=>(12,W)
theorem Zl {α:Type}{p:α->Bool}{l:List α}{i:Nat}(h:l.findIdx? p=some i):∃ hi:i < l.length,p l[i]=true:=by
 rw [List.findIdx?_eq_some_iff_getElem] at h
 obtain ⟨hi,hp,_⟩:=h
 exact ⟨hi,hp⟩
theorem TB (K:Nat) (hK:2000000<=K) (key val:ByteArray) (d:Bool) (R:List Rd) (W:List Wr) (hW:W.length<=1000):dM K key d val R W=some ((Iw W (key,d,val)).1,R,(Iw W (key,d,val)).2):=by
 unfold dM Iw
 rw [QT K _ (by omega),Option.bind_some]
 dsimp only
 cases kr key with
 | false=>rw [Bool.not_false,cond_true,if_pos rfl]
 | true =>
   rw [Bool.not_true,cond_false,if_neg (by decide)]
   by_cases hv:48 < val.size
   · rw [BC (by omega),if_pos hv]
   · rw [BT (by omega),if_neg hv,fW K W key d val (by omega) (by omega),Option.bind_some]
     unfold gz
     dsimp only
     cases hx:W.findIdx? fun v=>v.1.toList == key.toList with
     | some i =>
       obtain ⟨hi,_⟩:=Zl hx
       rw [show XD (some i)=(i:Int) from rfl,BC (by omega)]
       simp only [Qw,Int.toNat_natCast,List.getElem?_eq_getElem hi,Option.bind_some,Aq]
     | none =>
       rw [show XD none=(-1:Int) from rfl,BT (by omega)]
       by_cases h8:8<=W.length
       · rw [BC (by omega),if_pos h8]; rfl
       · rw [BT (by omega),if_neg h8,Ew (by simp; omega)]; rfl
theorem RS (K:Nat)(hK:2000000<=K)(key val:ByteArray)(R:List Rd)(W:List Wr)(hW:W.length<=1000):cH K key val R W=some ((Iw W (key,false,val)).1,R,(Iw W (key,false,val)).2):=by
 unfold cH
 rw [TB K hK key val false R W hW]; rfl
theorem Kh (K:Nat)(hK:2000000<=K)(R:List Rd)(W:List Wr)(hs:DI W)(hW:W.length<=1000):cy K R W=some (mk W):=by
 unfold cy
 rw [UQ K W hs (by omega) hK]; rfl
end Go.Proofs.YtobfoiomjfdjjaaDoor.PView
