/- Two texts held against each other, rune by rune. -/
import Derived.Test.YthoimblkpcikdaaGreatDoorPureKeys
namespace Go.Proofs.YthoimblkpcikdaaGreatDoor.PureCmp
open Go.RowKit Go.Proofs.YthoimblkpcikdaaGreatDoor.Mc Go.Proofs.YthoimblkpcikdaaGreatDoor.N Go.Proofs.YthoimblkpcikdaaGreatDoor.Plain Go.Proofs.YthoimblkpcikdaaGreatDoor.PureRune Go.Proofs.YthoimblkpcikdaaGreatDoor.PureKeys
set_option linter.unusedSimpArgs false
set_option linter.unusedVariables false
def Oe:List Int->List Int->Nat
 | x :: xs,y :: ys=>if x=y then Oe xs ys+1 else 0
 | _,_=>0
def cmp:List Int->List Int->Int
 | [],[]=>0
 | [],_ :: _ => -1
 | _ :: _,[]=>1
 | x :: xs,y :: ys=>if x=y then cmp xs ys else if x < y then -1 else 1
theorem Zp:∀ (A B:List Int),Oe A B<=A.length/\Oe A B<=B.length
 | [],B=>by simp [Oe]
 | _ :: _,[]=>by simp [Oe]
 | x :: xs,y :: ys=>by
   have:=Zp xs ys
   unfold Oe
   split <;> simp only [List.length_cons] <;> omega
theorem Tc:∀ (A B:List Int),cmp B A = - cmp A B
 | [],[]=>rfl
 | [],_ :: _=>rfl
 | _ :: _,[]=>rfl
 | x :: xs,y :: ys=>by
   unfold cmp
   by_cases h:x=y
   · rw [if_pos h,if_pos h.symm,Tc xs ys]
   · rw [if_neg h,if_neg (fun e=>h e.symm)]
     split <;> split <;> omega
theorem UY:∀ (A:List Int),cmp A A=0
 | []=>rfl
 | x :: xs=>by unfold cmp; rw [if_pos rfl,UY xs]
theorem Se {f:Int->Option (Int ⊕ Int)} {A B:List Int} (hA:A.length<=1000000000)
   (hf:∀ i:Nat,f (i:Int)=match A[i]?,B[i]? with | some a,some b=>(if a=b then some (.inl ((i+1:Nat):Int)) else some (.inr (i:Int))) | _,_=>some (.inr (i:Int))) :
   ∀ (m i k:Nat),A.length - i=m->m < k->AB f k (i:Int)=some ((i+Oe (A.drop i) (B.drop i):Nat):Int)
 | m, i, k,hm,hk=>by
   obtain ⟨k,rfl⟩:∃ j,k=j+1:=⟨k - 1,by omega⟩
   by_cases h1:i < A.length
   · by_cases h2:i < B.length
     · have hs:=hf i
       rw [List.getElem?_eq_getElem h1,List.getElem?_eq_getElem h2] at hs
       simp only at hs
       rw [List.drop_eq_getElem_cons h1,List.drop_eq_getElem_cons h2]
       unfold Oe
       by_cases h:A[i]=B[i]
       · rw [if_pos h] at hs
         rw [AU hs,Se hA hf (A.length - (i+1)) (i+1) k rfl (by omega),if_pos h]
         congr 2; omega
       · rw [if_neg h] at hs
         rw [AK hs,if_neg h,Nat.add_zero]
     · have hs:=hf i
       rw [List.getElem?_eq_getElem h1,List.getElem?_eq_none (by omega)] at hs
       rw [AK hs,List.drop_eq_nil_of_le (show B.length<=i by omega)]
       cases A.drop i <;> simp [Oe]
   · have hs:=hf i
     rw [List.getElem?_eq_none (show A.length<=i by omega)] at hs
     rw [AK hs,List.drop_eq_nil_of_le (show A.length<=i by omega)]
     simp [Oe]
termination_by m=>m
decreasing_by omega
theorem Zg:∀ (A B:List Int),cmp A B=(if Oe A B=A.length/\Oe A B=B.length then 0 else if Oe A B=A.length then -1 else if Oe A B=B.length then 1 else if A.getD (Oe A B) 0 < B.getD (Oe A B) 0 then -1 else 1)
 | [],[]=>by simp [cmp,Oe]
 | [],_ :: _=>by simp [cmp,Oe]
 | _ :: _,[]=>by simp [cmp,Oe]
 | x :: xs,y :: ys=>by
   unfold cmp Oe
   by_cases h:x=y
   · rw [if_pos h,if_pos h,Zg xs ys]
     simp only [List.length_cons,Nat.add_right_cancel_iff,List.getD_cons_succ]
   · rw [if_neg h,if_neg h]
     simp
theorem SV {f:Int->Option (Int ⊕ (Int ⊕ Unit))} {A B:List Int} (hA:A.length<=1000000000)
   (hf:∀ i:Nat,f (i:Int)=match A[i]?,B[i]? with
     | some a,some b=>(if a=b then some (.inl ((i+1:Nat):Int)) else some (.inr (.inl (if a < b then -1 else 1))))
     | some _,none=>some (.inr (.inl 1))
     | none,_=>some (.inr (.inr ()))) :
   ∀ (m i k:Nat),A.length - i=m->i<=A.length->i<=B.length->m < k->∃ r,AB f k (i:Int)=some r/\BM (fun y=>some y) (fun _=>cond (decide ((A.length:Int) < (B.length:Int))) (some (-1)) (some 0)) r=some (cmp (A.drop i) (B.drop i))
 | m, i, k,hm,ha,hb,hk=>by
   obtain ⟨k,rfl⟩:∃ j,k=j+1:=⟨k - 1,by omega⟩
   have hs:=hf i
   by_cases h1:i < A.length
   · rw [List.getElem?_eq_getElem h1] at hs
     rw [List.drop_eq_getElem_cons h1]
     by_cases h2:i < B.length
     · rw [List.getElem?_eq_getElem h2] at hs
       rw [List.drop_eq_getElem_cons h2]
       simp only at hs
       unfold cmp
       by_cases h:A[i]=B[i]
       · rw [if_pos h] at hs
         obtain ⟨r,e,hr⟩:=SV hA hf (A.length - (i+1)) (i+1) k rfl (by omega) (by omega) (by omega)
         exact ⟨r,by rw [AU hs,e],by rw [if_pos h]; exact hr⟩
       · rw [if_neg h] at hs
         exact ⟨_,AK hs,by rw [if_neg h]; rfl⟩
     · rw [List.getElem?_eq_none (show B.length<=i by omega)] at hs
       refine ⟨_,AK hs,?_⟩
       rw [List.drop_eq_nil_of_le (show B.length<=i by omega)]; rfl
   · rw [List.getElem?_eq_none (show A.length<=i by omega)] at hs
     refine ⟨_,AK hs,?_⟩
     rw [List.drop_eq_nil_of_le (show A.length<=i by omega)]
     simp only [BM]
     by_cases h2:i < B.length
     · rw [List.drop_eq_getElem_cons h2,AE (by omega)]; rfl
     · rw [List.drop_eq_nil_of_le (show B.length<=i by omega),AF (by omega)]; rfl
termination_by m=>m
decreasing_by omega
theorem QG (K:Nat) (s:ByteArray) (hs:s.size<=1000000000):∀ {p:Nat} {L:List (Nat × Nat)},Runes s p L->∀ (k:Nat) (A:List Int),L.length < k->A.length+L.length<=1000000000->∃ p', AB (RE K) k (s,p,A)=some (s,p', A ++ rs L)
 | _,_,.nil p h,k,A,hk,ha=>by
   obtain ⟨k,rfl⟩:∃ j,k=j+1:=⟨k - 1,by simp at hk; omega⟩
   refine ⟨p,AK ?_⟩
   unfold RE
   simp only [decide_eq_false h,cond_false]
   simp [rs]
 | _,_,.cons p h L t,k,A,hk,ha=>by
   simp only [List.length_cons] at hk ha
   obtain ⟨k,rfl⟩:∃ j,k=j+1:=⟨k - 1,by omega⟩
   obtain ⟨p', e⟩:=QG K s hs t k (A ++ [((Utf8.decode s p).1:Int)]) (by omega) (by simp only [List.length_append,List.length_singleton]; omega)
   refine ⟨p', ?_⟩
   rw [AU (b:=(s,p+(Utf8.decode s p).2,A ++ [((Utf8.decode s p).1:Int)])),e]
   · simp [rs]
   · unfold RE
     simp only [decide_eq_true h,cond_true]
     rw [Ak (by simp only [List.length_singleton]; omega)]
theorem TH (K:Nat){s:ByteArray}(hs:s.size<=1000000000){L:List (Nat × Nat)}(hL:Runes s 0 L)(hk:L.length < K)(hl:L.length<=s.size):aH K s=some (rs L):=by
 obtain ⟨p', e⟩:=QG K s hs hL K [] hk (by simp; omega)
 unfold aH
 rw [e]; rfl
theorem VM (K:Nat)(a b:Int):Zf K a b=some (if a < b then -1 else if b < a then 1 else 0):=by
 unfold Zf dX
 simp only [bne_self_eq_false,Option.bind_some,cond_false]
 by_cases h:a < b
 · rw [AE h,if_pos h]
 · rw [AF h,if_neg h]
   by_cases h2:b < a
   · rw [AE h2,if_pos h2]
   · rw [AF h2,if_neg h2]
theorem Oo (K:Nat) (A B:List Int) (hA:A.length<=1000000000) (hk:A.length < K):RA K A B=some (cmp A B):=by
 obtain ⟨r,e,hr⟩:=SV (f:=Mi K A B) (A:=A) (B:=B) hA (fun i=>by
   unfold Mi
   by_cases h1:i < A.length
   · rw [AE (by omega)]
     simp only [Bz,List.getElem?_eq_getElem h1,Option.bind_some]
     by_cases h2:i < B.length
     · rw [AF (by omega)]
       simp only [Bz,List.getElem?_eq_getElem h2,Option.bind_some,VM]
       by_cases h:A[i]=B[i]
       · rw [if_pos h,if_neg (by omega),if_neg (by omega)]
         simp only [bne_self_eq_false,cond_false]
         rw [Aq (by omega) (by omega)]; rfl
       · rw [if_neg h]
         by_cases h3:A[i] < B[i]
         · rw [if_pos h3,if_pos h3]; rfl
         · rw [if_neg h3,if_pos (by omega),if_neg h3]; rfl
     · rw [AE (by omega),List.getElem?_eq_none (show B.length<=i by omega)]
   · rw [AF (by omega),List.getElem?_eq_none (show A.length<=i by omega)]) A.length 0 K (by omega) (by omega) (by omega) hk
 unfold RA
 rw [show (0:Int)=((0:Nat):Int) from rfl,e,Option.bind_some]
 exact hr
theorem MK (K:Nat){s t:ByteArray}(hs:s.size<=1000000000)(ht:t.size<=1000000000){L M:List (Nat × Nat)}(hL:Runes s 0 L)(hM:Runes t 0 M)(hk:L.length < K)(hk2:M.length < K)(hl:L.length<=s.size)(hm:M.length<=t.size):aA K s t=some (cmp (rs L) (rs M)):=by
 unfold aA
 rw [TH K hs hL hk hl,Option.bind_some,TH K ht hM hk2 hm,Option.bind_some,Oo K _ _ (by simp [rs]; omega) (by simp [rs]; omega)]; rfl
theorem Ot (K:Nat) {s t:ByteArray} (hs:s.size<=1000000000) (ht:t.size<=1000000000) {L M:List (Nat × Nat)} (hL:Runes s 0 L) (hM:Runes t 0 M) (hk:L.length < K) (hk2:M.length < K) (hl:L.length<=s.size) (hm:M.length<=t.size):da K s t=some ((Oe (rs L) (rs M):Nat):Int):=by
 have hlen:(rs L).length=L.length:=by simp [rs]
 have loop:=Se (f:=RJ K (rs L,ns L) (rs M,ns M)) (A:=rs L) (B:=rs M) (by omega) (fun i=>by
   unfold RJ
   simp only
   by_cases h1:i < (rs L).length
   · rw [AE (by omega)]
     by_cases h2:i < (rs M).length
     · rw [AE (by omega)]
       simp only [Bz,Int.toNat_natCast,List.getElem?_eq_getElem h1,List.getElem?_eq_getElem h2,Option.bind_some]
       by_cases h:(rs L)[i]=(rs M)[i]
       · rw [if_pos h,h]
         simp only [BEq.rfl,cond_true]
         rw [Aq (by omega) (by omega)]; rfl
       · have hb:((rs L)[i] == (rs M)[i])=false:=by simpa using h
         rw [if_neg h,hb]; rfl
     · rw [AF (by omega),List.getElem?_eq_getElem h1,List.getElem?_eq_none (show (rs M).length<=i by omega)]; rfl
   · rw [AF (by omega),List.getElem?_eq_none (show (rs L).length<=i by omega)]; rfl) (rs L).length 0 K (by omega) (by omega)
 unfold da
 rw [De K hs hL hk hl,Option.bind_some,De K ht hM hk2 hm,Option.bind_some,show (0:Int)=((0:Nat):Int) from rfl,loop,Option.bind_some]
 simp
theorem VW (K:Nat) {s t:ByteArray} (hs:s.size<=1000000000) (ht:t.size<=1000000000) {L M:List (Nat × Nat)} (hL:Runes s 0 L) (hM:Runes t 0 M) (hk:L.length < K) (hk2:M.length < K) (hl:L.length<=s.size) (hm:M.length<=t.size):cc K s t=some (cmp (rs L) (rs M)):=by
 unfold cc
 rw [De K hs hL hk hl,Option.bind_some,De K ht hM hk2 hm,Option.bind_some,Ot K hs ht hL hM hk hk2 hl hm,Option.bind_some,Zg]
 have hc:=Zp (rs L) (rs M)
 generalize rs L=A at hc ⊢
 generalize rs M=B at hc ⊢
 generalize Oe A B=c at hc ⊢
 simp only
 have ea:(((c:Nat):Int) == (A.length:Int))=decide (c=A.length):=by rw [Bool.eq_iff_iff]; simp only [beq_iff_eq,decide_eq_true_eq]; omega
 have eb:(((c:Nat):Int) == (B.length:Int))=decide (c=B.length):=by rw [Bool.eq_iff_iff]; simp only [beq_iff_eq,decide_eq_true_eq]; omega
 rw [ea,eb]
 by_cases h1:c=A.length
 · by_cases h2:c=B.length
   · rw [if_pos ⟨h1,h2⟩,decide_eq_true h1,decide_eq_true h2]; rfl
   · rw [if_neg (fun e=>h2 e.2),if_pos h1,decide_eq_true h1,decide_eq_false h2]; rfl
 · rw [if_neg (fun e=>h1 e.1),if_neg h1,decide_eq_false h1]
   simp only [cond_false,Option.bind_some]
   by_cases h2:c=B.length
   · rw [if_pos h2,decide_eq_true h2]; rfl
   · have g1:c < A.length:=by omega
     have g2:c < B.length:=by omega
     rw [if_neg h2,decide_eq_false h2]
     simp only [cond_false,Bz,Int.toNat_natCast,List.getElem?_eq_getElem g1,List.getElem?_eq_getElem g2,Option.bind_some,List.getD,Option.getD_some]
     by_cases h3:A[c] < B[c]
     · rw [AE h3,if_pos h3]
     · rw [AF h3,if_neg h3]
end Go.Proofs.YthoimblkpcikdaaGreatDoor.PureCmp
