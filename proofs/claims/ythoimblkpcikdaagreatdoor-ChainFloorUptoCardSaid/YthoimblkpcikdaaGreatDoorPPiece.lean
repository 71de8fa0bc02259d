/- Pieces: what a frame says. -/
import Derived.Test.YthoimblkpcikdaaGreatDoorPCrc
namespace Go.Proofs.YthoimblkpcikdaaGreatDoor.PPiece
open Go.RowKit Go.Proofs.YthoimblkpcikdaaGreatDoor.Mc Go.Proofs.YthoimblkpcikdaaGreatDoor.N Go.Proofs.YthoimblkpcikdaaGreatDoor.Plain
set_option linter.unusedSimpArgs false
set_option linter.unusedVariables false
def g4 (x:ByteArray)(p:Int):Int:=bits .or .u32 (bits .or .u32 (bits .or .u32 (IntKind.wrap .u32 (bt x p)) (IntKind.wrap .u32 ((IntKind.wrap .u32 (bt x (p+1))) * 2 ^ 8))) (IntKind.wrap .u32 ((IntKind.wrap .u32 (bt x (p+2))) * 2 ^ 16))) (IntKind.wrap .u32 ((IntKind.wrap .u32 (bt x (p+3))) * 2 ^ 24))
theorem PQ (b:ByteArray)(p j:Nat)(h:p+j < b.size):bt (b.extract p b.size) (j:Int)=bt b ((p:Int)+(j:Int)):=by
 have h1:j < (b.extract p b.size).size:=by rw [ByteArray.size_extract]; omega
 rw [PLay.QL _ _ h1,show (p:Int)+(j:Int)=((p+j:Nat):Int) by omega,PLay.QL _ _ h]
 simp only [ByteArray.data_extract,Array.getElem_extract]
theorem UZ (K:Nat)(x:ByteArray)(p:Nat)(h:p+4<=x.size)(hx:x.size<=1000000000):dI K x (p:Int)=some (g4 x p,true):=by
 have hs:(x.extract p x.size).size=x.size - p:=by rw [ByteArray.size_extract]; omega
 unfold dI g4
 rw [AJ (by omega),AJ (by omega),BK (by omega) (by omega),decide_eq_false (by omega),Option.bind_some,cond_false,Ec (by unfold Be; exact decide_eq_true (by omega))]
 simp only [Int.toNat_natCast,hs]
 rw [BB (by omega),BB (by omega),BB (by omega),BB (by omega)]
 have e0:=PQ x p 0 (by omega)
 have e1:=PQ x p 1 (by omega)
 have e2:=PQ x p 2 (by omega)
 have e3:=PQ x p 3 (by omega)
 have z:(p:Int)+((0:Nat):Int)=(p:Int):=by omega
 rw [z] at e0
 rw [show (0:Int)=((0:Nat):Int) from rfl,show (1:Int)=((1:Nat):Int) from rfl,show (2:Int)=((2:Nat):Int) from rfl,show (3:Int)=((3:Nat):Int) from rfl,e0,e1,e2,e3]
theorem Dy (K:Nat)(x:ByteArray)(i:Nat)(h:4 * i+4<=x.size)(hx:x.size<=1000000000):XA K x (i:Int)=some (g4 x ((4 * i:Nat):Int)):=by
 unfold XA
 rw [BK (by omega) (by omega),show (4:Int) * (i:Int)=((4 * i:Nat):Int) by omega,UZ K x _ h hx]; rfl
def pr (k a b:Int) (t:ByteArray):Bool :=
 cond (decide (a < 1) || decide (2147483647 < a)) false
   (cond (k == 1) (t.toList == (⟨#[]⟩:ByteArray).toList)
     (cond (k == 2) (!(t.toList == (⟨#[]⟩:ByteArray).toList))
       (cond (k == 3) (cond (b != 0) (cond ((t.size:Int) == 16) (decide (g4 t 0 < a) && (decide (1<=g4 t 4) && (decide (g4 t 4<=a) && (g4 t 12 != 0)))) false) false)
         (cond (k == 4) (cond ((t.size:Int) == 4) (decide (g4 t 0<=a)) false) false))))
abbrev OfT:Type:=Int ⊕ (Int × Int × Int) ⊕ (Int × Int × ByteArray × Int) ⊕ (Int × Int × Int × Int × Int × Int × Int) ⊕ (Int × Int × Int × Int)
def KO (k a b:Int)(t:ByteArray):OfT :=
 cond (pr k a b t) (cond (k == 1) (.inr (.inl (a,b,0))) (cond (k == 2) (.inr (.inr (.inl (a,b,t,0)))) (cond (k == 3) (.inr (.inr (.inr (.inl (a,b,g4 t 0,g4 t 4,g4 t 8,g4 t 12,0))))) (.inr (.inr (.inr (.inr (a,b,g4 t 0,0)))))))) (.inl 2)
theorem NZ (K:Nat) (k a b:Int) (t:ByteArray) (ht:t.size<=1000000000):eE K k a b t=some (KO k a b t):=by
 unfold eE KO pr
 have e:((cond (decide (a < 1)) (some true) (some (decide (2147483647 < a)))):Option Bool)=some (decide (a < 1) || decide (2147483647 < a)):=by cases decide (a < 1) <;> rfl
 rw [e,Option.bind_some]
 cases decide (a < 1) || decide (2147483647 < a) with
 | true=>rfl
 | false =>
   rw [cond_false,cond_false]
   have k12:∀ q:Int,k=q->∀ p:Int,p ≠ q->(k == p)=false:=fun q h p hp=>beq_eq_false_iff_ne.2 (by rw [h]; exact fun e=>hp e.symm)
   by_cases h1:k=1
   · subst h1
     cases hq:t.toList == (⟨#[]⟩:ByteArray).toList with
     | true=>rfl
     | false=>rfl
   · by_cases h2:k=2
     · subst h2
       cases hq:t.toList == (⟨#[]⟩:ByteArray).toList with
       | true=>rfl
       | false=>rfl
     · by_cases h3:k=3
       · subst h3
         by_cases hs:(t.size:Int)=16
         · have n0:=Dy K t 0 (by omega) ht
           have n1:=Dy K t 1 (by omega) ht
           have n2:=Dy K t 2 (by omega) ht
           have n3:=Dy K t 3 (by omega) ht
           rw [beq_iff_eq.2 hs]
           cases hb:b != 0 with
           | false=>rfl
           | true =>
             rw [show XA K t 0=_ from n0,show XA K t 1=_ from n1,show XA K t 2=_ from n2,show XA K t 3=_ from n3]
             show (((cond (decide (g4 t 0 < a)) (cond (decide (1<=g4 t 4)) (cond (decide (g4 t 4<=a)) (some (g4 t 12 != 0)) (some false)) (some false)) (some false):Option Bool).bind fun y25=>cond y25 (some (.inr (.inr (.inr (.inl (a,b,g4 t 0,g4 t 4,g4 t 8,g4 t 12)))))) (some (.inl ())):Option (Unit ⊕ (Int × Int) ⊕ (Int × Int × ByteArray) ⊕ (Int × Int × Int × Int × Int × Int) ⊕ (Int × Int × Int)))).bind _=some (cond (decide (g4 t 0 < a) && (decide (1<=g4 t 4) && (decide (g4 t 4<=a) && (g4 t 12 != 0)))) _ _)
             cases decide (g4 t 0 < a) <;> cases decide (1<=g4 t 4) <;> cases decide (g4 t 4<=a) <;> cases g4 t 12 != 0 <;> rfl
         · rw [beq_eq_false_iff_ne.2 hs]
           cases b != 0 <;> rfl
       · by_cases h4:k=4
         · subst h4
           by_cases hs:(t.size:Int)=4
           · have n0:=Dy K t 0 (by omega) ht
             rw [beq_iff_eq.2 hs,show XA K t 0=_ from n0]
             show ((cond (decide (g4 t 0<=a)) (some (.inr (.inr (.inr (.inr (a,b,g4 t 0)))))) (some (.inl ())):Option (Unit ⊕ (Int × Int) ⊕ (Int × Int × ByteArray) ⊕ (Int × Int × Int × Int × Int × Int) ⊕ (Int × Int × Int)))).bind _=some (cond (decide (g4 t 0<=a)) _ _)
             cases decide (g4 t 0<=a) <;> rfl
           · rw [beq_eq_false_iff_ne.2 hs]; rfl
         · rw [beq_eq_false_iff_ne.2 h1,beq_eq_false_iff_ne.2 h2,beq_eq_false_iff_ne.2 h3,beq_eq_false_iff_ne.2 h4]; rfl
end Go.Proofs.YthoimblkpcikdaaGreatDoor.PPiece
