/- A text's runes, and what the functions on keys tell of them. -/
import Derived.Test.YtobfoiomjfdjjaaDoorPureRune
import Derived.Lib.RuneCountTail
namespace Go.Proofs.YtobfoiomjfdjjaaDoor.PureKeys
open Go.RowKit Go.Proofs.YtobfoiomjfdjjaaDoor.Mc Go.Proofs.YtobfoiomjfdjjaaDoor.N Go.Proofs.YtobfoiomjfdjjaaDoor.Plain Go.Proofs.YtobfoiomjfdjjaaDoor.PureRune
set_option linter.unusedSimpArgs false
set_option linter.unusedVariables false
inductive Runes (s:ByteArray):Nat->List (Nat × Nat)->Prop where
 | nil (p:Nat) (h:¬ p < s.size):Runes s p []
 | cons (p:Nat) (h:p < s.size) (L:List (Nat × Nat)) (t:Runes s (p+(Utf8.decode s p).2) L):Runes s p (Utf8.decode s p :: L)
theorem DK (s:ByteArray):∀ (m p:Nat),s.size - p<=m->∃ L,Runes s p L/\L.length<=s.size - p
 | 0,p,h=>⟨[],.nil p (by omega),by simp⟩
 | m + 1,p,h=>by
   by_cases hp:p < s.size
   · have h1:=Lib.decode_width_pos s p hp
     obtain ⟨L,h2,h3⟩:=DK s m (p+(Utf8.decode s p).2) (by omega)
     exact ⟨_,.cons p hp L h2,by simp only [List.length_cons]; omega⟩
   · exact ⟨[],.nil p hp,by simp⟩
theorem Av {α β:Type}{f:α->Option (α ⊕ β)}{k:Nat}{a b:α}(h:f a=some (.inl b)):AX f (k+1) a=AX f k b:=by simp only [AX,h,Option.bind_some,Aq]
theorem Am {α β:Type}{f:α->Option (α ⊕ β)}{k:Nat}{a:α}{r:β}(h:f a=some (.inr r)):AX f (k+1) a=some r:=by simp only [AX,h,Option.bind_some,Aq]
theorem Qt (s:ByteArray)(p:Nat):(Utf8.decode s p).2<=4:=by
 rw [Lib.decode_at]
 unfold Lib.decodeN
 repeat' split
 all_goals simp
def rs (L:List (Nat × Nat)):List Int:=L.map fun x=>(x.1:Int)
def Pg (x:Nat × Nat):Bool:=decide (33<=x.1) && !(decide (127<=x.1) && decide (x.1<=160)) && !(x.1 == 65533 && x.2 == 1)
def RA:Nat->List (Nat × Nat)->Bool
 | _,[]=>true
 | m,x :: L=>decide (m+1<=12) && Pg x && RA (m+1) L
theorem VV:∀ (L:List (Nat × Nat)) (m:Nat),RA m L=(L.all Pg && (L.isEmpty || decide (m+L.length<=12)))
 | [],m=>rfl
 | x :: L,m=>by
   rw [RA,VV L (m+1)]
   simp only [List.all_cons,List.isEmpty_cons,Bool.false_or,List.length_cons]
   cases Pg x with
   | false=>simp
   | true =>
     cases L.all Pg with
     | false=>simp
     | true =>
       simp only [Bool.and_true,Bool.true_and]
       cases L with
       | nil=>simp
       | cons y L =>
         simp only [List.isEmpty_cons,Bool.false_or,List.length_cons]
         rw [<- Bool.decide_and,decide_eq_decide]
         omega
end Go.Proofs.YtobfoiomjfdjjaaDoor.PureKeys
