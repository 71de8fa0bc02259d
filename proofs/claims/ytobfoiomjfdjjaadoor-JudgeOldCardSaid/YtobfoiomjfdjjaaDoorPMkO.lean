/- What Find, Keys and Make compute, where the writes are somebody's own row. -/
import Derived.Test.YtobfoiomjfdjjaaDoorPMk
namespace Go.Proofs.YtobfoiomjfdjjaaDoor.PMkO
open Go.RowKit Go.Proofs.YtobfoiomjfdjjaaDoor.Mc Go.Proofs.YtobfoiomjfdjjaaDoor.N Go.Proofs.YtobfoiomjfdjjaaDoor.Plain Go.Proofs.YtobfoiomjfdjjaaDoor.PureRune Go.Proofs.YtobfoiomjfdjjaaDoor.PureKeys Go.Proofs.YtobfoiomjfdjjaaDoor.PSort Go.Proofs.YtobfoiomjfdjjaaDoor.PSorted Go.Proofs.YtobfoiomjfdjjaaDoor.PBatch1 Go.Proofs.YtobfoiomjfdjjaaDoor.PMk
open Go.Proofs.YtobfoiomjfdjjaaDoor.PFd (Lo fo Du)
set_option linter.unusedSimpArgs false
set_option linter.unusedVariables false
theorem DM {α:Type}{l:List α}{j:Nat}(h:j < l.length):l.take (j+1)=l.take j ++ [l[j]]:=by
 simp [List.take_append_getElem]
theorem La (K:Nat) (l:List Wr) (key:ByteArray) (hl:l.length<=1000000):∀ (i k:Nat) (z:ByteArray × ByteArray),i<=l.length->i < k->∃ r,AX (PL K key l) k ((i:Int) - 1,z)=some r/\Aq (fun y17:ByteArray × Bool × ByteArray=>some (y17.1,y17.2.1,y17.2.2,true)) (fun _=>some (ByteArray.empty,false,ByteArray.empty,false)) r=some (fo (Lo l key i))
 | 0,k,z,hi,hk=>by
   obtain ⟨k,rfl⟩:∃ q,k=q+1:=⟨k - 1,by omega⟩
   exact ⟨_,Am (by unfold PL; rw [BT (by show ¬ (0:Int)<=((0:Nat):Int) - 1; omega)]),rfl⟩
 | i + 1,k,z,hi,hk=>by
   obtain ⟨k,rfl⟩:∃ q,k=q+1:=⟨k - 1,by omega⟩
   have hli:l[i]? = some l[i]:=List.getElem?_eq_getElem (by omega)
   have e:(((i+1:Nat):Int) - 1)=(i:Int):=by omega
   rw [e,Lo,hli]
   simp only []
   cases hb:l[i].1.toList == key.toList with
   | true =>
     refine ⟨_,Am (r:=.inl (l[i].1,l[i].2.1,l[i].2.2)) ?_,rfl⟩
     unfold PL
     simp only [Qw,Int.toNat_natCast,hli,Option.bind_some]
     rw [BC (by omega),hb,cond_true]
   | false =>
     obtain ⟨r,r1,r2⟩:=La K l key hl i k z (by omega) (by omega)
     refine ⟨r,?_,r2⟩
     rw [Av (b:=((i:Int) - 1,z))]
     · exact r1
     · unfold PL
       simp only [Qw,Int.toNat_natCast,hli,Option.bind_some]
       rw [BC (by omega),hb,cond_false,LS (by omega) (by omega)]
theorem OX (K:Nat)(l:List Wr)(key:ByteArray)(hl:l.length<=1000000)(hK:2000000<=K):cP K key l=some (fo (Lo l key l.length)):=by
 obtain ⟨r,r1,r2⟩:=La K l key hl l.length K (ByteArray.empty,ByteArray.empty) (Nat.le_refl _) (by omega)
 unfold cP
 rw [LS (by omega) (by omega),r1,Option.bind_some]
 exact r2
theorem Vw (K:Nat)(l:List Wr)(hs:DI l)(hl:l.length<=1000000)(hK:2000000<=K):ec K l=some (ks l):=by
 unfold ec
 rw [Na (r:=kl l) (fun i=>((i:Int),kl (l.take i))) l.length (by rfl) (by omega) ?_ ?_,Option.bind_some,Ka K hK (VG hs) (by rw [Jg]; exact hl),Option.bind_some]; rfl
 · intro i hi
   unfold Tq
   simp only [Qw,Int.toNat_natCast,List.getElem?_eq_getElem hi,Option.bind_some]
   rw [BC (by omega),Ew (by simp only [Jg,List.length_take,List.length_singleton]; omega),LS (by omega) (by omega),DM hi,kl,kl,List.map_append]; rfl
 · unfold Tq
   rw [BT (by omega),List.take_length]
theorem UQ (K:Nat) (l:List Wr) (hs:DI l) (hl:l.length<=1000000) (hK:2000000<=K):eW K l=some (mk l):=by
 have hkl:=Uy l
 unfold eW
 rw [Vw K l hs hl hK,Option.bind_some,Na (r:=mk l) (fun i=>((i:Int),((ks l).take i).map (mw l))) (ks l).length (by rfl) (by omega) ?_ ?_]; rfl
 · intro i hi
   unfold Vb
   rw [BC (by omega),Qw,List.getElem?_eq_getElem hi,Option.bind_some,OX K l _ hl hK,Option.bind_some]
   have e:((cond (fo (Lo l (ks l)[i] l.length)).2.1 (some ((fo (Lo l (ks l)[i] l.length)).1,(fo (Lo l (ks l)[i] l.length)).2.1,(⟨#[]⟩:ByteArray))) (some ((fo (Lo l (ks l)[i] l.length)).1,(fo (Lo l (ks l)[i] l.length)).2.1,(fo (Lo l (ks l)[i] l.length)).2.2.1)):Option (ByteArray × Bool × ByteArray)))=some (mw l (ks l)[i]):=by
     unfold mw
     dsimp only
     cases (fo (Lo l (ks l)[i] l.length)).2.1 <;> rfl
   rw [e,Option.bind_some,Ew (by simp only [List.length_map,List.length_take,List.length_singleton]; omega),LS (by omega) (by omega),DM hi,List.map_append]; rfl
 · unfold Vb
   rw [BT (by omega),List.take_length]; rfl
end Go.Proofs.YtobfoiomjfdjjaaDoor.PMkO
