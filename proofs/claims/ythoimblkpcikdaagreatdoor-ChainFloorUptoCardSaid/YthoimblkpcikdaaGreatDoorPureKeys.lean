/- A text's runes, and what the functions on keys tell of them. -/
import Derived.Test.YthoimblkpcikdaaGreatDoorPureRune
import Derived.Lib.RuneCountTail
namespace Go.Proofs.YthoimblkpcikdaaGreatDoor.PureKeys
open Go.RowKit Go.Proofs.YthoimblkpcikdaaGreatDoor.Mc Go.Proofs.YthoimblkpcikdaaGreatDoor.N Go.Proofs.YthoimblkpcikdaaGreatDoor.Plain Go.Proofs.YthoimblkpcikdaaGreatDoor.PureRune
set_option linter.unusedSimpArgs false
set_option linter.unusedVariables false
inductive Runes (s:ByteArray):Nat->List (Nat × Nat)->Prop where
 | nil (p:Nat) (h:¬ p < s.size):Runes s p []
 | cons (p:Nat) (h:p < s.size) (L:List (Nat × Nat)) (t:Runes s (p+(Utf8.decode s p).2) L):Runes s p (Utf8.decode s p :: L)
theorem EA (s:ByteArray):∀ (m p:Nat),s.size - p<=m->∃ L,Runes s p L/\L.length<=s.size - p
 | 0,p,h=>⟨[],.nil p (by omega),by simp⟩
 | m + 1,p,h=>by
   by_cases hp:p < s.size
   · have h1:=Lib.decode_width_pos s p hp
     obtain ⟨L,h2,h3⟩:=EA s m (p+(Utf8.decode s p).2) (by omega)
     exact ⟨_,.cons p hp L h2,by simp only [List.length_cons]; omega⟩
   · exact ⟨[],.nil p hp,by simp⟩
theorem Ab {α β:Type}{f:α->Option (α ⊕ β)}{k:Nat}{a b:α}(h:f a=some (.inl b)):AE f (k+1) a=AE f k b:=by simp only [AE,h,Option.bind_some,BN]
theorem AO {α β:Type}{f:α->Option (α ⊕ β)}{k:Nat}{a:α}{r:β}(h:f a=some (.inr r)):AE f (k+1) a=some r:=by simp only [AE,h,Option.bind_some,BN]
theorem Ll (s:ByteArray)(p:Nat):(Utf8.decode s p).2<=4:=by
 rw [Lib.decode_at]
 unfold Lib.decodeN
 repeat' split
 all_goals simp
def rs (L:List (Nat × Nat)):List Int:=L.map fun x=>(x.1:Int)
def ns (L:List (Nat × Nat)):List Int:=L.map fun x=>(x.2:Int)
theorem Ra (K:Nat) (s:ByteArray) (hs:s.size<=1000000000):∀ {p:Nat} {L:List (Nat × Nat)},Runes s p L->∀ (k:Nat) (A B:List Int),L.length < k->A.length+L.length<=1000000000->B.length+L.length<=1000000000->p<=2000000000->AE (Qm K s) k ((p:Int),A,B)=some (A ++ rs L,B ++ ns L)
 | _,_,.nil p h,k,A,B,hk,_,_,hp=>by
   obtain ⟨k,rfl⟩:∃ j,k=j+1:=⟨k - 1,by simp at hk; omega⟩
   refine AO ?_
   unfold Qm
   rw [AJ (by omega)]
   simp [rs,ns]
 | _,_,.cons p h L t,k,A,B,hk,ha,hb,hp=>by
   simp only [List.length_cons] at hk ha hb
   obtain ⟨k,rfl⟩:∃ j,k=j+1:=⟨k - 1,by omega⟩
   have hd:=Ll s p
   rw [Ab (b:=(((p+(Utf8.decode s p).2:Nat):Int),A ++ [((Utf8.decode s p).1:Int)],B ++ [((Utf8.decode s p).2:Int)])),Ra K s hs t k _ _ (by omega) (by simp only [List.length_append,List.length_singleton]; omega) (by simp only [List.length_append,List.length_singleton]; omega) (by omega)]
   · simp [rs,ns]
   · unfold Qm
     rw [AK (by omega),ZA K s p h hs]
     simp only [Option.bind_some]
     rw [BB (by simp only [List.length_singleton]; omega),BB (by simp only [List.length_singleton]; omega),wn _ _ (by omega)]
theorem FY (K:Nat){s:ByteArray}(hs:s.size<=1000000000){L:List (Nat × Nat)}(hL:Runes s 0 L)(hk:L.length < K)(hl:L.length<=s.size):Rx K s=some (rs L,ns L):=by
 unfold Rx
 rw [show ((0:Int),([]:List Int),([]:List Int))=(((0:Nat):Int),[],[]) from rfl,Ra K s hs hL K [] [] hk (by simp; omega) (by simp; omega) (by omega)]
 simp
def LV (x:Nat × Nat):Bool:=decide (33<=x.1) && !(decide (127<=x.1) && decide (x.1<=160)) && !(x.1 == 65533 && x.2 == 1)
def TW:Nat->List (Nat × Nat)->Bool
 | _,[]=>true
 | m,x :: L=>decide (m+1<=12) && LV x && TW (m+1) L
theorem Xv:∀ (L:List (Nat × Nat)) (m:Nat),TW m L=(L.all LV && (L.isEmpty || decide (m+L.length<=12)))
 | [],m=>rfl
 | x :: L,m=>by
   rw [TW,Xv L (m+1)]
   simp only [List.all_cons,List.isEmpty_cons,Bool.false_or,List.length_cons]
   cases LV x with
   | false=>simp
   | true =>
     cases L.all LV with
     | false=>simp
     | true =>
       simp only [Bool.and_true,Bool.true_and]
       cases L with
       | nil=>simp
       | cons y L =>
         simp only [List.isEmpty_cons,Bool.false_or,List.length_cons]
         rw [<- Bool.decide_and,decide_eq_decide]
         omega
end Go.Proofs.YthoimblkpcikdaaGreatDoor.PureKeys
