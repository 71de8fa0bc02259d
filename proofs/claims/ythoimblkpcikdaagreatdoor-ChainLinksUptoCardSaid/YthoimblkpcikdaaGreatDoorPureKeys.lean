/- A text's runes, and what the functions on keys tell of them. -/
import Derived.Test.YthoimblkpcikdaaGreatDoorPureRune
import Derived.Lib.RuneCountTail
namespace Go.Proofs.YthoimblkpcikdaaGreatDoor.PureKeys
open Go.RowKit Go.Proofs.YthoimblkpcikdaaGreatDoor.Mc Go.Proofs.YthoimblkpcikdaaGreatDoor.N Go.Proofs.YthoimblkpcikdaaGreatDoor.Plain Go.Proofs.YthoimblkpcikdaaGreatDoor.PureRune
set_option linter.unusedSimpArgs false
set_option linter.unusedVariables false
inductive Runes (s:ByteArray):Nat->List (Nat × Nat)->Prop where
 | nil (p:Nat) (h:¬ p < s.size):Runes s p []
 | cons (p:Nat) (h:p < s.size) (L:List (Nat × Nat)) (t:Runes s (p+(Utf8.decode s p).2) L):Runes s p (Utf8.decode s p :: L)
theorem EP (s:ByteArray):∀ (m p:Nat),s.size - p<=m->∃ L,Runes s p L/\L.length<=s.size - p
 | 0,p,h=>⟨[],.nil p (by omega),by simp⟩
 | m + 1,p,h=>by
   by_cases hp:p < s.size
   · have h1:=Lib.decode_width_pos s p hp
     obtain ⟨L,h2,h3⟩:=EP s m (p+(Utf8.decode s p).2) (by omega)
     exact ⟨_,.cons p hp L h2,by simp only [List.length_cons]; omega⟩
   · exact ⟨[],.nil p hp,by simp⟩
theorem AU {α β:Type}{f:α->Option (α ⊕ β)}{k:Nat}{a b:α}(h:f a=some (.inl b)):AB f (k+1) a=AB f k b:=by simp only [AB,h,Option.bind_some,BM]
theorem AK {α β:Type}{f:α->Option (α ⊕ β)}{k:Nat}{a:α}{r:β}(h:f a=some (.inr r)):AB f (k+1) a=some r:=by simp only [AB,h,Option.bind_some,BM]
theorem Mh (s:ByteArray)(p:Nat):(Utf8.decode s p).2<=4:=by
 rw [Lib.decode_at]
 unfold Lib.decodeN
 repeat' split
 all_goals simp
def rs (L:List (Nat × Nat)):List Int:=L.map fun x=>(x.1:Int)
def ns (L:List (Nat × Nat)):List Int:=L.map fun x=>(x.2:Int)
theorem JT (K:Nat) (s:ByteArray) (hs:s.size<=1000000000):∀ {p:Nat} {L:List (Nat × Nat)},Runes s p L->∀ (k:Nat) (A B:List Int),L.length < k->A.length+L.length<=1000000000->B.length+L.length<=1000000000->p<=2000000000->AB (Rj K s) k ((p:Int),A,B)=some (A ++ rs L,B ++ ns L)
 | _,_,.nil p h,k,A,B,hk,_,_,hp=>by
   obtain ⟨k,rfl⟩:∃ j,k=j+1:=⟨k - 1,by simp at hk; omega⟩
   refine AK ?_
   unfold Rj
   rw [AF (by omega)]
   simp [rs,ns]
 | _,_,.cons p h L t,k,A,B,hk,ha,hb,hp=>by
   simp only [List.length_cons] at hk ha hb
   obtain ⟨k,rfl⟩:∃ j,k=j+1:=⟨k - 1,by omega⟩
   have hd:=Mh s p
   rw [AU (b:=(((p+(Utf8.decode s p).2:Nat):Int),A ++ [((Utf8.decode s p).1:Int)],B ++ [((Utf8.decode s p).2:Int)])),JT K s hs t k _ _ (by omega) (by simp only [List.length_append,List.length_singleton]; omega) (by simp only [List.length_append,List.length_singleton]; omega) (by omega)]
   · simp [rs,ns]
   · unfold Rj
     rw [AE (by omega),Zc K s p h hs]
     simp only [Option.bind_some]
     rw [Ak (by simp only [List.length_singleton]; omega),Ak (by simp only [List.length_singleton]; omega),wn _ _ (by omega)]
theorem De (K:Nat){s:ByteArray}(hs:s.size<=1000000000){L:List (Nat × Nat)}(hL:Runes s 0 L)(hk:L.length < K)(hl:L.length<=s.size):UP K s=some (rs L,ns L):=by
 unfold UP
 rw [show ((0:Int),([]:List Int),([]:List Int))=(((0:Nat):Int),[],[]) from rfl,JT K s hs hL K [] [] hk (by simp; omega) (by simp; omega) (by omega)]
 simp
def ML (x:Nat × Nat):Bool:=decide (33<=x.1) && !(decide (127<=x.1) && decide (x.1<=160)) && !(x.1 == 65533 && x.2 == 1)
def VX:Nat->List (Nat × Nat)->Bool
 | _,[]=>true
 | m,x :: L=>decide (m+1<=12) && ML x && VX (m+1) L
theorem bq:∀ (L:List (Nat × Nat)) (m:Nat),VX m L=(L.all ML && (L.isEmpty || decide (m+L.length<=12)))
 | [],m=>rfl
 | x :: L,m=>by
   rw [VX,bq L (m+1)]
   simp only [List.all_cons,List.isEmpty_cons,Bool.false_or,List.length_cons]
   cases ML x with
   | false=>simp
   | true =>
     cases L.all ML with
     | false=>simp
     | true =>
       simp only [Bool.and_true,Bool.true_and]
       cases L with
       | nil=>simp
       | cons y L =>
         simp only [List.isEmpty_cons,Bool.false_or,List.length_cons]
         rw [<- Bool.decide_and,decide_eq_decide]
         omega
end Go.Proofs.YthoimblkpcikdaaGreatDoor.PureKeys
