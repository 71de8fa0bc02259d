/- What is wrong with a batch: the reference's, at a list that nobody writes. -/
import Derived.Test.YthoimblkpcikdaaGreatDoorPBatch1
namespace Go.Proofs.YthoimblkpcikdaaGreatDoor.PBatch1x
open Go.RowKit Go.Proofs.YthoimblkpcikdaaGreatDoor.Mc Go.Proofs.YthoimblkpcikdaaGreatDoor.N Go.Proofs.YthoimblkpcikdaaGreatDoor.Plain Go.Proofs.YthoimblkpcikdaaGreatDoor.PureRune Go.Proofs.YthoimblkpcikdaaGreatDoor.PureKeys Go.Proofs.YthoimblkpcikdaaGreatDoor.PSort Go.Proofs.YthoimblkpcikdaaGreatDoor.PBatch1
set_option linter.unusedSimpArgs false
set_option linter.unusedVariables false
theorem Yd (K:Nat) (l:List Wr) (hl:QO l) (hn:l.length<=1000) (hK:2000000<=K) (i:Nat) (hi:i < l.length) (hz:∀ j,j < i->Dd l j=0) :
   Gc K l (i:Int)=if Dd l i=0 then some (.inl ((i+1:Nat):Int)) else some (.inr (.inl (Dd l i))):=by
 have hli:l[i]? = some l[i]:=List.getElem?_eq_getElem hi
 unfold Gc
 simp only [Bz,Int.toNat_natCast,hli,Option.bind_some]
 rw [AE (by omega),TY K (hl _ (List.getElem_mem hi)) (by omega),Option.bind_some]
 rw [Gq hli]
 cases hk:kr l[i].1 with
 | false=>rfl
 | true =>
   have hs:=Fh hk
   rw [Bool.not_true,cond_false]
   by_cases hv:48 < l[i].2.2.size
   · rw [AE (by omega),decide_eq_true hv]; rfl
   rw [AF (by omega),decide_eq_false hv,Aq (x:=(i:Int)+1) (by omega) (by omega)]
   by_cases h0:0 < i
   · have hp:l[i - 1]? = some (l[i - 1]'(by omega)):=List.getElem?_eq_getElem (by omega)
     have hpk:=Ip hp (hz (i - 1) (by omega))
     have hps:=Fh hpk
     have hb:=PSorted.ahead K (a:=(l[i - 1]'(by omega)).1) (b:=l[i].1) (by omega) (by omega) hK
     rw [Aq (x:=(i:Int) - 1) (by omega) (by omega),show (i:Int) - 1=((i - 1:Nat):Int) by omega]
     simp only [Bz,Int.toNat_natCast,hp,AE (show (0:Int) < (i:Int) by omega),Option.bind_some,hb,decide_eq_true h0,Bool.not_true,Bool.false_or,Option.map_some,Option.getD_some]
     generalize l[i].2.1=d
     generalize (l[i].2.2.toList == (⟨#[]⟩:ByteArray).toList)=e
     generalize lt (l[i - 1]'(by omega)).1 l[i].1=o
     cases d <;> cases e <;> cases o <;> rfl
   · simp only [AF (show ¬ (0:Int) < (i:Int) by omega),decide_eq_false h0,Bool.not_false,Bool.true_or]
     generalize l[i].2.1=d
     generalize (l[i].2.2.toList == (⟨#[]⟩:ByteArray).toList)=e
     cases d <;> cases e <;> rfl
theorem dP (K:Nat)(l:List Wr)(hl:QO l)(hK:2000000<=K):Wx K l=some (Bb l):=by
 unfold Wx Bb
 by_cases h:l.length < 1\/8 < l.length
 · rw [if_pos h]
   by_cases h1:l.length < 1
   · rw [AE (by omega)]; rfl
   · rw [AF (by omega),decide_eq_true (by omega:(8:Int) < (l.length:Int))]; rfl
 · rw [if_neg h,AF (by omega),decide_eq_false (by omega:¬ (8:Int) < (l.length:Int)),Option.bind_some,cond_false]
   obtain ⟨r,h1,h2⟩:=JO (f:=Gc K l) (Dd l) l.length (fun i hi hz=>Yd K l hl (by omega) hK i hi hz) (by unfold Gc; rw [AF (by omega)]) l.length 0 K (by omega) (by omega) (fun j hj=>by omega)
   rw [show (0:Int)=((0:Nat):Int) from rfl,h1,Option.bind_some]
   exact h2
end Go.Proofs.YthoimblkpcikdaaGreatDoor.PBatch1x
