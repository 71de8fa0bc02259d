/- Two texts held against each other, rune by rune. -/
import Derived.Test.YthoimblkpcikdaaGreatDoorPureKeys
namespace Go.Proofs.YthoimblkpcikdaaGreatDoor.PureCmp
open Go.RowKit Go.Proofs.YthoimblkpcikdaaGreatDoor.Mc Go.Proofs.YthoimblkpcikdaaGreatDoor.N Go.Proofs.YthoimblkpcikdaaGreatDoor.Plain Go.Proofs.YthoimblkpcikdaaGreatDoor.PureRune Go.Proofs.YthoimblkpcikdaaGreatDoor.PureKeys
set_option linter.unusedSimpArgs false
set_option linter.unusedVariables false
def Nf:List Int->List Int->Nat
 | x :: xs,y :: ys=>if x=y then Nf xs ys+1 else 0
 | _,_=>0
def cmp:List Int->List Int->Int
 | [],[]=>0
 | [],_ :: _ => -1
 | _ :: _,[]=>1
 | x :: xs,y :: ys=>if x=y then cmp xs ys else if x < y then -1 else 1
theorem bL:∀ (A B:List Int),Nf A B<=A.length/\Nf A B<=B.length
 | [],B=>by simp [Nf]
 | _ :: _,[]=>by simp [Nf]
 | x :: xs,y :: ys=>by
   have:=bL xs ys
   unfold Nf
   split <;> simp only [List.length_cons] <;> omega
theorem Ss:∀ (A B:List Int),cmp B A = - cmp A B
 | [],[]=>rfl
 | [],_ :: _=>rfl
 | _ :: _,[]=>rfl
 | x :: xs,y :: ys=>by
   unfold cmp
   by_cases h:x=y
   · rw [if_pos h,if_pos h.symm,Ss xs ys]
   · rw [if_neg h,if_neg (fun e=>h e.symm)]
     split <;> split <;> omega
theorem Rn:∀ (A:List Int),cmp A A=0
 | []=>rfl
 | x :: xs=>by unfold cmp; rw [if_pos rfl,Rn xs]
theorem TC {f:Int->Option (Int ⊕ Int)} {A B:List Int} (hA:A.length<=1000000000)
   (hf:∀ i:Nat,f (i:Int)=match A[i]?,B[i]? with | some a,some b=>(if a=b then some (.inl ((i+1:Nat):Int)) else some (.inr (i:Int))) | _,_=>some (.inr (i:Int))) :
   ∀ (m i k:Nat),A.length - i=m->m < k->AE f k (i:Int)=some ((i+Nf (A.drop i) (B.drop i):Nat):Int)
 | m, i, k,hm,hk=>by
   obtain ⟨k,rfl⟩:∃ j,k=j+1:=⟨k - 1,by omega⟩
   by_cases h1:i < A.length
   · by_cases h2:i < B.length
     · have hs:=hf i
       rw [List.getElem?_eq_getElem h1,List.getElem?_eq_getElem h2] at hs
       simp only at hs
       rw [List.drop_eq_getElem_cons h1,List.drop_eq_getElem_cons h2]
       unfold Nf
       by_cases h:A[i]=B[i]
       · rw [if_pos h] at hs
         rw [Ab hs,TC hA hf (A.length - (i+1)) (i+1) k rfl (by omega),if_pos h]
         congr 2; omega
       · rw [if_neg h] at hs
         rw [AO hs,if_neg h,Nat.add_zero]
     · have hs:=hf i
       rw [List.getElem?_eq_getElem h1,List.getElem?_eq_none (by omega)] at hs
       rw [AO hs,List.drop_eq_nil_of_le (show B.length<=i by omega)]
       cases A.drop i <;> simp [Nf]
   · have hs:=hf i
     rw [List.getElem?_eq_none (show A.length<=i by omega)] at hs
     rw [AO hs,List.drop_eq_nil_of_le (show A.length<=i by omega)]
     simp [Nf]
termination_by m=>m
decreasing_by omega
theorem ZW:∀ (A B:List Int),cmp A B=(if Nf A B=A.length/\Nf A B=B.length then 0 else if Nf A B=A.length then -1 else if Nf A B=B.length then 1 else if A.getD (Nf A B) 0 < B.getD (Nf A B) 0 then -1 else 1)
 | [],[]=>by simp [cmp,Nf]
 | [],_ :: _=>by simp [cmp,Nf]
 | _ :: _,[]=>by simp [cmp,Nf]
 | x :: xs,y :: ys=>by
   unfold cmp Nf
   by_cases h:x=y
   · rw [if_pos h,if_pos h,ZW xs ys]
     simp only [List.length_cons,Nat.add_right_cancel_iff,List.getD_cons_succ]
   · rw [if_neg h,if_neg h]
     simp
theorem TH {f:Int->Option (Int ⊕ (Int ⊕ Unit))} {A B:List Int} (hA:A.length<=1000000000)
   (hf:∀ i:Nat,f (i:Int)=match A[i]?,B[i]? with
     | some a,some b=>(if a=b then some (.inl ((i+1:Nat):Int)) else some (.inr (.inl (if a < b then -1 else 1))))
     | some _,none=>some (.inr (.inl 1))
     | none,_=>some (.inr (.inr ()))) :
   ∀ (m i k:Nat),A.length - i=m->i<=A.length->i<=B.length->m < k->∃ r,AE f k (i:Int)=some r/\BN (fun y=>some y) (fun _=>cond (decide ((A.length:Int) < (B.length:Int))) (some (-1)) (some 0)) r=some (cmp (A.drop i) (B.drop i))
 | m, i, k,hm,ha,hb,hk=>by
   obtain ⟨k,rfl⟩:∃ j,k=j+1:=⟨k - 1,by omega⟩
   have hs:=hf i
   by_cases h1:i < A.length
   · rw [List.getElem?_eq_getElem h1] at hs
     rw [List.drop_eq_getElem_cons h1]
     by_cases h2:i < B.length
     · rw [List.getElem?_eq_getElem h2] at hs
       rw [List.drop_eq_getElem_cons h2]
       simp only at hs
       unfold cmp
       by_cases h:A[i]=B[i]
       · rw [if_pos h] at hs
         obtain ⟨r,e,hr⟩:=TH hA hf (A.length - (i+1)) (i+1) k rfl (by omega) (by omega) (by omega)
         exact ⟨r,by rw [Ab hs,e],by rw [if_pos h]; exact hr⟩
       · rw [if_neg h] at hs
         exact ⟨_,AO hs,by rw [if_neg h]; rfl⟩
     · rw [List.getElem?_eq_none (show B.length<=i by omega)] at hs
       refine ⟨_,AO hs,?_⟩
       rw [List.drop_eq_nil_of_le (show B.length<=i by omega)]; rfl
   · rw [List.getElem?_eq_none (show A.length<=i by omega)] at hs
     refine ⟨_,AO hs,?_⟩
     rw [List.drop_eq_nil_of_le (show A.length<=i by omega)]
     simp only [BN]
     by_cases h2:i < B.length
     · rw [List.drop_eq_getElem_cons h2,AK (by omega)]; rfl
     · rw [List.drop_eq_nil_of_le (show B.length<=i by omega),AJ (by omega)]; rfl
termination_by m=>m
decreasing_by omega
theorem PB (K:Nat) (s:ByteArray) (hs:s.size<=1000000000):∀ {p:Nat} {L:List (Nat × Nat)},Runes s p L->∀ (k:Nat) (A:List Int),L.length < k->A.length+L.length<=1000000000->∃ p', AE (Pk K) k (s,p,A)=some (s,p', A ++ rs L)
 | _,_,.nil p h,k,A,hk,ha=>by
   obtain ⟨k,rfl⟩:∃ j,k=j+1:=⟨k - 1,by simp at hk; omega⟩
   refine ⟨p,AO ?_⟩
   unfold Pk
   simp only [decide_eq_false h,cond_false]
   simp [rs]
 | _,_,.cons p h L t,k,A,hk,ha=>by
   simp only [List.length_cons] at hk ha
   obtain ⟨k,rfl⟩:∃ j,k=j+1:=⟨k - 1,by omega⟩
   obtain ⟨p', e⟩:=PB K s hs t k (A ++ [((Utf8.decode s p).1:Int)]) (by omega) (by simp only [List.length_append,List.length_singleton]; omega)
   refine ⟨p', ?_⟩
   rw [Ab (b:=(s,p+(Utf8.decode s p).2,A ++ [((Utf8.decode s p).1:Int)])),e]
   · simp [rs]
   · unfold Pk
     simp only [decide_eq_true h,cond_true]
     rw [BB (by simp only [List.length_singleton]; omega)]
theorem RB (K:Nat){s:ByteArray}(hs:s.size<=1000000000){L:List (Nat × Nat)}(hL:Runes s 0 L)(hk:L.length < K)(hl:L.length<=s.size):Xt K s=some (rs L):=by
 obtain ⟨p', e⟩:=PB K s hs hL K [] hk (by simp; omega)
 unfold Xt
 rw [e]; rfl
theorem Ue (K:Nat)(a b:Int):Yv K a b=some (if a < b then -1 else if b < a then 1 else 0):=by
 unfold Yv cQ
 simp only [bne_self_eq_false,Option.bind_some,cond_false]
 by_cases h:a < b
 · rw [AK h,if_pos h]
 · rw [AJ h,if_neg h]
   by_cases h2:b < a
   · rw [AK h2,if_pos h2]
   · rw [AJ h2,if_neg h2]
theorem Nx (K:Nat) (A B:List Int) (hA:A.length<=1000000000) (hk:A.length < K):Ps K A B=some (cmp A B):=by
 obtain ⟨r,e,hr⟩:=TH (f:=NW K A B) (A:=A) (B:=B) hA (fun i=>by
   unfold NW
   by_cases h1:i < A.length
   · rw [AK (by omega)]
     simp only [DP,List.getElem?_eq_getElem h1,Option.bind_some]
     by_cases h2:i < B.length
     · rw [AJ (by omega)]
       simp only [DP,List.getElem?_eq_getElem h2,Option.bind_some,Ue]
       by_cases h:A[i]=B[i]
       · rw [if_pos h,if_neg (by omega),if_neg (by omega)]
         simp only [bne_self_eq_false,cond_false]
         rw [BK (by omega) (by omega)]; rfl
       · rw [if_neg h]
         by_cases h3:A[i] < B[i]
         · rw [if_pos h3,if_pos h3]; rfl
         · rw [if_neg h3,if_pos (by omega),if_neg h3]; rfl
     · rw [AK (by omega),List.getElem?_eq_none (show B.length<=i by omega)]
   · rw [AJ (by omega),List.getElem?_eq_none (show A.length<=i by omega)]) A.length 0 K (by omega) (by omega) (by omega) hk
 unfold Ps
 rw [show (0:Int)=((0:Nat):Int) from rfl,e,Option.bind_some]
 exact hr
theorem LC (K:Nat){s t:ByteArray}(hs:s.size<=1000000000)(ht:t.size<=1000000000){L M:List (Nat × Nat)}(hL:Runes s 0 L)(hM:Runes t 0 M)(hk:L.length < K)(hk2:M.length < K)(hl:L.length<=s.size)(hm:M.length<=t.size):aZ K s t=some (cmp (rs L) (rs M)):=by
 unfold aZ
 rw [RB K hs hL hk hl,Option.bind_some,RB K ht hM hk2 hm,Option.bind_some,Nx K _ _ (by simp [rs]; omega) (by simp [rs]; omega)]; rfl
theorem Nw (K:Nat) {s t:ByteArray} (hs:s.size<=1000000000) (ht:t.size<=1000000000) {L M:List (Nat × Nat)} (hL:Runes s 0 L) (hM:Runes t 0 M) (hk:L.length < K) (hk2:M.length < K) (hl:L.length<=s.size) (hm:M.length<=t.size):cB K s t=some ((Nf (rs L) (rs M):Nat):Int):=by
 have hlen:(rs L).length=L.length:=by simp [rs]
 have loop:=TC (f:=Pz K (rs L,ns L) (rs M,ns M)) (A:=rs L) (B:=rs M) (by omega) (fun i=>by
   unfold Pz
   simp only
   by_cases h1:i < (rs L).length
   · rw [AK (by omega)]
     by_cases h2:i < (rs M).length
     · rw [AK (by omega)]
       simp only [DP,Int.toNat_natCast,List.getElem?_eq_getElem h1,List.getElem?_eq_getElem h2,Option.bind_some]
       by_cases h:(rs L)[i]=(rs M)[i]
       · rw [if_pos h,h]
         simp only [BEq.rfl,cond_true]
         rw [BK (by omega) (by omega)]; rfl
       · have hb:((rs L)[i] == (rs M)[i])=false:=by simpa using h
         rw [if_neg h,hb]; rfl
     · rw [AJ (by omega),List.getElem?_eq_getElem h1,List.getElem?_eq_none (show (rs M).length<=i by omega)]; rfl
   · rw [AJ (by omega),List.getElem?_eq_none (show (rs L).length<=i by omega)]; rfl) (rs L).length 0 K (by omega) (by omega)
 unfold cB
 rw [FY K hs hL hk hl,Option.bind_some,FY K ht hM hk2 hm,Option.bind_some,show (0:Int)=((0:Nat):Int) from rfl,loop,Option.bind_some]
 simp
theorem TY (K:Nat) {s t:ByteArray} (hs:s.size<=1000000000) (ht:t.size<=1000000000) {L M:List (Nat × Nat)} (hL:Runes s 0 L) (hM:Runes t 0 M) (hk:L.length < K) (hk2:M.length < K) (hl:L.length<=s.size) (hm:M.length<=t.size):ZV K s t=some (cmp (rs L) (rs M)):=by
 unfold ZV
 rw [FY K hs hL hk hl,Option.bind_some,FY K ht hM hk2 hm,Option.bind_some,Nw K hs ht hL hM hk hk2 hl hm,Option.bind_some,ZW]
 have hc:=bL (rs L) (rs M)
 generalize rs L=A at hc ⊢
 generalize rs M=B at hc ⊢
 generalize Nf A B=c at hc ⊢
 simp only
 have ea:(((c:Nat):Int) == (A.length:Int))=decide (c=A.length):=by rw [Bool.eq_iff_iff]; simp only [beq_iff_eq,decide_eq_true_eq]; omega
 have eb:(((c:Nat):Int) == (B.length:Int))=decide (c=B.length):=by rw [Bool.eq_iff_iff]; simp only [beq_iff_eq,decide_eq_true_eq]; omega
 rw [ea,eb]
 by_cases h1:c=A.length
 · by_cases h2:c=B.length
   · rw [if_pos ⟨h1,h2⟩,decide_eq_true h1,decide_eq_true h2]; rfl
   · rw [if_neg (fun e=>h2 e.2),if_pos h1,decide_eq_true h1,decide_eq_false h2]; rfl
 · rw [if_neg (fun e=>h1 e.1),if_neg h1,decide_eq_false h1]
   simp only [cond_false,Option.bind_some]
   by_cases h2:c=B.length
   · rw [if_pos h2,decide_eq_true h2]; rfl
   · have g1:c < A.length:=by omega
     have g2:c < B.length:=by omega
     rw [if_neg h2,decide_eq_false h2]
     simp only [cond_false,DP,Int.toNat_natCast,List.getElem?_eq_getElem g1,List.getElem?_eq_getElem g2,Option.bind_some,List.getD,Option.getD_some]
     by_cases h3:A[c] < B[c]
     · rw [AK h3,if_pos h3]
     · rw [AJ h3,if_neg h3]
end Go.Proofs.YthoimblkpcikdaaGreatDoor.PureCmp
