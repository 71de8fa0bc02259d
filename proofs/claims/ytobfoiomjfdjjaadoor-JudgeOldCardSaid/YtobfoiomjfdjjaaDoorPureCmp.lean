/- Two texts held against each other, rune by rune. -/
import Derived.Test.YtobfoiomjfdjjaaDoorPureKeys
namespace Go.Proofs.YtobfoiomjfdjjaaDoor.PureCmp
open Go.RowKit Go.Proofs.YtobfoiomjfdjjaaDoor.Mc Go.Proofs.YtobfoiomjfdjjaaDoor.N Go.Proofs.YtobfoiomjfdjjaaDoor.Plain Go.Proofs.YtobfoiomjfdjjaaDoor.PureRune Go.Proofs.YtobfoiomjfdjjaaDoor.PureKeys
set_option linter.unusedSimpArgs false
set_option linter.unusedVariables false
def cmp:List Int->List Int->Int
 | [],[]=>0
 | [],_ :: _ => -1
 | _ :: _,[]=>1
 | x :: xs,y :: ys=>if x=y then cmp xs ys else if x < y then -1 else 1
theorem OC:∀ (A B:List Int),cmp B A = - cmp A B
 | [],[]=>rfl
 | [],_ :: _=>rfl
 | _ :: _,[]=>rfl
 | x :: xs,y :: ys=>by
   unfold cmp
   by_cases h:x=y
   · rw [if_pos h,if_pos h.symm,OC xs ys]
   · rw [if_neg h,if_neg (fun e=>h e.symm)]
     split <;> split <;> omega
theorem Oq:∀ (A:List Int),cmp A A=0
 | []=>rfl
 | x :: xs=>by unfold cmp; rw [if_pos rfl,Oq xs]
theorem OE {f:Int->Option (Int ⊕ (Int ⊕ Unit))} {A B:List Int} (hA:A.length<=1000000000)
   (hf:∀ i:Nat,f (i:Int)=match A[i]?,B[i]? with
     | some a,some b=>(if a=b then some (.inl ((i+1:Nat):Int)) else some (.inr (.inl (if a < b then -1 else 1))))
     | some _,none=>some (.inr (.inl 1))
     | none,_=>some (.inr (.inr ()))) :
   ∀ (m i k:Nat),A.length - i=m->i<=A.length->i<=B.length->m < k->∃ r,AX f k (i:Int)=some r/\Aq (fun y=>some y) (fun _=>cond (decide ((A.length:Int) < (B.length:Int))) (some (-1)) (some 0)) r=some (cmp (A.drop i) (B.drop i))
 | m, i, k,hm,ha,hb,hk=>by
   obtain ⟨k,rfl⟩:∃ j,k=j+1:=⟨k - 1,by omega⟩
   have hs:=hf i
   by_cases h1:i < A.length
   · rw [List.getElem?_eq_getElem h1] at hs
     rw [List.drop_eq_getElem_cons h1]
     by_cases h2:i < B.length
     · rw [List.getElem?_eq_getElem h2] at hs
       rw [List.drop_eq_getElem_cons h2]
       simp only at hs
       unfold cmp
       by_cases h:A[i]=B[i]
       · rw [if_pos h] at hs
         obtain ⟨r,e,hr⟩:=OE hA hf (A.length - (i+1)) (i+1) k rfl (by omega) (by omega) (by omega)
         exact ⟨r,by rw [Av hs,e],by rw [if_pos h]; exact hr⟩
       · rw [if_neg h] at hs
         exact ⟨_,Am hs,by rw [if_neg h]; rfl⟩
     · rw [List.getElem?_eq_none (show B.length<=i by omega)] at hs
       refine ⟨_,Am hs,?_⟩
       rw [List.drop_eq_nil_of_le (show B.length<=i by omega)]; rfl
   · rw [List.getElem?_eq_none (show A.length<=i by omega)] at hs
     refine ⟨_,Am hs,?_⟩
     rw [List.drop_eq_nil_of_le (show A.length<=i by omega)]
     simp only [Aq]
     by_cases h2:i < B.length
     · rw [List.drop_eq_getElem_cons h2,BC (by omega)]; rfl
     · rw [List.drop_eq_nil_of_le (show B.length<=i by omega),BT (by omega)]; rfl
termination_by m=>m
decreasing_by omega
theorem Ma (K:Nat) (s:ByteArray) (hs:s.size<=1000000000):∀ {p:Nat} {L:List (Nat × Nat)},Runes s p L->∀ (k:Nat) (A:List Int),L.length < k->A.length+L.length<=1000000000->∃ p', AX (Ru K) k (s,p,A)=some (s,p', A ++ rs L)
 | _,_,.nil p h,k,A,hk,ha=>by
   obtain ⟨k,rfl⟩:∃ j,k=j+1:=⟨k - 1,by simp at hk; omega⟩
   refine ⟨p,Am ?_⟩
   unfold Ru
   simp only [decide_eq_false h,cond_false]
   simp [rs]
 | _,_,.cons p h L t,k,A,hk,ha=>by
   simp only [List.length_cons] at hk ha
   obtain ⟨k,rfl⟩:∃ j,k=j+1:=⟨k - 1,by omega⟩
   obtain ⟨p', e⟩:=Ma K s hs t k (A ++ [((Utf8.decode s p).1:Int)]) (by omega) (by simp only [List.length_append,List.length_singleton]; omega)
   refine ⟨p', ?_⟩
   rw [Av (b:=(s,p+(Utf8.decode s p).2,A ++ [((Utf8.decode s p).1:Int)])),e]
   · simp [rs]
   · unfold Ru
     simp only [decide_eq_true h,cond_true]
     rw [Ew (by simp only [List.length_singleton]; omega)]
theorem Oh (K:Nat){s:ByteArray}(hs:s.size<=1000000000){L:List (Nat × Nat)}(hL:Runes s 0 L)(hk:L.length < K)(hl:L.length<=s.size):eE K s=some (rs L):=by
 obtain ⟨p', e⟩:=Ma K s hs hL K [] hk (by simp; omega)
 unfold eE
 rw [e]; rfl
theorem QS (K:Nat)(a b:Int):cB K a b=some (if a < b then -1 else if b < a then 1 else 0):=by
 unfold cB eZ
 simp only [bne_self_eq_false,Option.bind_some,cond_false]
 by_cases h:a < b
 · rw [BC h,if_pos h]
 · rw [BT h,if_neg h]
   by_cases h2:b < a
   · rw [BC h2,if_pos h2]
   · rw [BT h2,if_neg h2]
theorem LJ (K:Nat) (A B:List Int) (hA:A.length<=1000000000) (hk:A.length < K):SC K A B=some (cmp A B):=by
 obtain ⟨r,e,hr⟩:=OE (f:=NC K A B) (A:=A) (B:=B) hA (fun i=>by
   unfold NC
   by_cases h1:i < A.length
   · rw [BC (by omega)]
     simp only [Qw,List.getElem?_eq_getElem h1,Option.bind_some]
     by_cases h2:i < B.length
     · rw [BT (by omega)]
       simp only [Qw,List.getElem?_eq_getElem h2,Option.bind_some,QS]
       by_cases h:A[i]=B[i]
       · rw [if_pos h,if_neg (by omega),if_neg (by omega)]
         simp only [bne_self_eq_false,cond_false]
         rw [LS (by omega) (by omega)]; rfl
       · rw [if_neg h]
         by_cases h3:A[i] < B[i]
         · rw [if_pos h3,if_pos h3]; rfl
         · rw [if_neg h3,if_pos (by omega),if_neg h3]; rfl
     · rw [BC (by omega),List.getElem?_eq_none (show B.length<=i by omega)]
   · rw [BT (by omega),List.getElem?_eq_none (show A.length<=i by omega)]) A.length 0 K (by omega) (by omega) (by omega) hk
 unfold SC
 rw [show (0:Int)=((0:Nat):Int) from rfl,e,Option.bind_some]
 exact hr
theorem XJ (K:Nat){s t:ByteArray}(hs:s.size<=1000000000)(ht:t.size<=1000000000){L M:List (Nat × Nat)}(hL:Runes s 0 L)(hM:Runes t 0 M)(hk:L.length < K)(hk2:M.length < K)(hl:L.length<=s.size)(hm:M.length<=t.size):Zt K s t=some (cmp (rs L) (rs M)):=by
 unfold Zt
 rw [Oh K hs hL hk hl,Option.bind_some,Oh K ht hM hk2 hm,Option.bind_some,LJ K _ _ (by simp [rs]; omega) (by simp [rs]; omega)]; rfl
end Go.Proofs.YtobfoiomjfdjjaaDoor.PureCmp
