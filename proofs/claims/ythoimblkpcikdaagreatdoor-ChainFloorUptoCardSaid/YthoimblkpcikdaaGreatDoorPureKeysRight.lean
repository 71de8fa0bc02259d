/- Plain law: KeysRight. -/
import Derived.Test.YthoimblkpcikdaaGreatDoorPureKeys
namespace Go.Proofs.YthoimblkpcikdaaGreatDoor.PureKeysRight
open Go.RowKit Go.Proofs.YthoimblkpcikdaaGreatDoor.Mc Go.Proofs.YthoimblkpcikdaaGreatDoor.N Go.Proofs.YthoimblkpcikdaaGreatDoor.Plain Go.Proofs.YthoimblkpcikdaaGreatDoor.PureRune Go.Proofs.YthoimblkpcikdaaGreatDoor.PureKeys
set_option linter.unusedSimpArgs false
set_option linter.unusedVariables false
theorem ET (s:ByteArray)(p:Nat)(h:p < s.size):Lib.decodeGo (s.extract p s.size)=Utf8.decode s p:=by
 unfold Lib.decodeGo
 rw [Lib.tail_size,if_neg (by omega),Lib.tail_decode,Nat.add_zero]
theorem NA (K:Nat) (s:ByteArray) (hs:s.size<=1000000000):∀ {p:Nat} {L:List (Nat × Nat)},Runes s p L->∀ (k m:Nat),L.length < k->m+L.length<=1000000000 ->
   ∃ p', AE (FZ K s) k ((m:Int),s,p)=some (if TW m L then .inr (((m+L.length:Nat):Int),s,p') else .inl (s,p'))
 | _,_,.nil p h,k,m,hk,hm=>by
   obtain ⟨k,rfl⟩:∃ j,k=j+1:=⟨k - 1,by simp at hk; omega⟩
   refine ⟨p,AO ?_⟩
   unfold FZ
   simp only [decide_eq_false h,cond_false,TW,if_true]; rfl
 | _, _, .cons p h L t,k,m,hk,hm=>by
   simp only [List.length_cons] at hk hm
   obtain ⟨k,rfl⟩:∃ j,k=j+1:=⟨k - 1,by omega⟩
   obtain ⟨p', e⟩:=NA K s hs t k (m+1) (by omega) (by omega)
   have hdg:=ET s p h
   have step : FZ K s ((m:Int),s,p)=cond (decide (m+1<=12) && LV (Utf8.decode s p)) (some (.inl (((m+1:Nat):Int),s,p+(Utf8.decode s p).2))) (some (.inr (.inl (s,p+(Utf8.decode s p).2)))):=by
     unfold FZ di
     simp only [decide_eq_true h,cond_true,Int.toNat_natCast,hdg]
     rw [BK (by omega) (by omega)]
     generalize Utf8.decode s p=x
     obtain ⟨r,n⟩:=x
     simp only [LV]
     have A:(cond (decide (12 < (m:Int)+1)) (some true) (cond (decide ((r:Int) < 33)) (some true) (cond (decide (127<=(r:Int))) (some (decide ((r:Int)<=160))) (some false))):Option Bool)=some (!(decide (m+1<=12) && (decide (33<=r) && !(decide (127<=r) && decide (r<=160))))):=by
       by_cases h1:m+1<=12
       · rw [AJ (by omega)]
         by_cases h2:33<=r
         · rw [AJ (by omega)]
           by_cases h3:127<=r
           · rw [AK (by omega)]
             by_cases h4:r<=160
             · simp [h1,h2,h3,h4]; omega
             · simp [h1,h2,h3,h4]; omega
           · rw [AJ (by omega)]; simp [h1,h2,h3]
         · rw [AK (by omega)]; simp [h2]
       · rw [AK (by omega)]; simp [h1]
     rw [A,Option.bind_some]
     cases hc:(decide (m+1<=12) && (decide (33<=r) && !(decide (127<=r) && decide (r<=160)))) with
     | false =>
       have:(decide (m+1<=12) && (decide (33<=r) && !(decide (127<=r) && decide (r<=160)) && !(r == 65533 && n == 1)))=false:=by
         rw [<- Bool.and_assoc,hc]; rfl
       rw [this]; rfl
     | true =>
       have:(decide (m+1<=12) && (decide (33<=r) && !(decide (127<=r) && decide (r<=160)) && !(r == 65533 && n == 1))) = !(r == 65533 && n == 1):=by
         rw [<- Bool.and_assoc,hc]; rfl
       rw [this]
       simp only [Bool.not_true,cond_false]
       rw [Ec (by unfold Be; exact decide_eq_true (by omega))]
       simp only [Option.bind_some]
       by_cases h5:r=65533
       · subst h5
         by_cases h6:n=1
         · subst h6; rfl
         · have g6:((n:Int) == 1)=false:=by rw [beq_eq_false_iff_ne]; omega
           have g7:(n == 1)=false:=by simpa using h6
           rw [g6,g7]; rfl
       · have g5:((r:Int) == 65533)=false:=by rw [beq_eq_false_iff_ne]; omega
         have g7:(r == 65533)=false:=by simpa using h5
         rw [g5,g7]; rfl
   by_cases hc:(decide (m+1<=12) && LV (Utf8.decode s p))=true
   · refine ⟨p', ?_⟩
     rw [Ab (b:=(((m+1:Nat):Int),s,p+(Utf8.decode s p).2)) (by rw [step,hc]; rfl),e,TW,hc,Bool.true_and]
     have:m+1+L.length=m+(Utf8.decode s p :: L).length:=by simp only [List.length_cons]; omega
     rw [this]
   · refine ⟨p+(Utf8.decode s p).2,?_⟩
     rw [Bool.not_eq_true] at hc
     rw [AO (r:=.inl (s,p+(Utf8.decode s p).2)) (by rw [step,hc]; rfl)]
     rw [TW,hc]; rfl
theorem GS (K:Nat){s:ByteArray}(hs:s.size<=1000000000){L:List (Nat × Nat)}(hL:Runes s 0 L)(hk:L.length < K)(hl:L.length<=s.size):UI K s=some (TW 0 L && decide (0 < L.length)):=by
 obtain ⟨p', e⟩:=NA K s hs hL K 0 hk (by omega)
 unfold UI
 rw [show ((0:Int),s,0)=(((0:Nat):Int),s,0) from rfl,e]
 cases TW 0 L with
 | false=>rfl
 | true=>simp [BN]
theorem dF (K:Nat) (x:Nat × Nat):dW K (x.1:Int) (x.2:Int)=some (LV x):=by
 obtain ⟨r,n⟩:=x
 unfold dW LV
 simp only
 have np:((r:Int) == 65533)=(r == 65533):=by rw [Bool.eq_iff_iff]; simp only [beq_iff_eq]; omega
 have h1:((n:Int) == 1)=(n == 1):=by rw [Bool.eq_iff_iff]; simp only [beq_iff_eq]; omega
 rw [np,h1]
 by_cases a1:33<=r
 · rw [AK (by omega)]
   by_cases a2:127<=r
   · rw [AK (by omega)]
     by_cases a3:r<=160
     · have:decide ((r:Int)<=160)=true:=decide_eq_true (by omega)
       rw [this]; simp [a1,a2,a3]
     · have:decide ((r:Int)<=160)=false:=decide_eq_false (by omega)
       rw [this]
       cases r == 65533 <;> simp [a1,a2,a3]
   · rw [AJ (by omega)]
     cases r == 65533 <;> simp [a1,a2]
 · rw [AJ (by omega)]; simp [a1]
theorem RD (K:Nat) (L:List (Nat × Nat)) (hl:L.length<=1000000000):∀ (m j k:Nat),L.length - j=m->j<=L.length->m < k->AE (Li K (rs L,ns L)) k (j:Int)=some (if (L.drop j).all LV then .inr () else .inl ())
 | 0,j,k,hm,hj,hk=>by
   obtain ⟨k,rfl⟩:∃ i,k=i+1:=⟨k - 1,by omega⟩
   have:j=L.length:=by omega
   subst this
   rw [AO (r:=.inr ()) (by unfold Li; rw [AJ (by simp [rs])])]
   simp
 | m + 1,j,k,hm,hj,hk=>by
   obtain ⟨k,rfl⟩:∃ i,k=i+1:=⟨k - 1,by omega⟩
   have hlt:j < L.length:=by omega
   have hr:(rs L)[j]? = some ((L[j].1:Nat):Int):=by simp [rs,hlt]
   have hn:(ns L)[j]? = some ((L[j].2:Nat):Int):=by simp [ns,hlt]
   have hd:L.drop j=L[j] :: L.drop (j+1):=List.drop_eq_getElem_cons hlt
   have step:Li K (rs L,ns L) (j:Int)=cond (LV L[j]) (some (.inl ((j+1:Nat):Int))) (some (.inr (.inl ()))):=by
     unfold Li
     simp only [DP,Int.toNat_natCast,hr,hn,Option.bind_some]
     rw [AK (by simp [rs]; omega),dF,Option.bind_some]
     cases LV L[j] with
     | false=>rfl
     | true =>
       simp only [Bool.not_true,cond_false,cond_true]
       rw [BK (by omega) (by omega)]; rfl
   rw [hd,List.all_cons]
   cases hc:LV L[j] with
   | true =>
     rw [Ab (b:=((j+1:Nat):Int)) (by rw [step,hc]; rfl),RD K L hl m (j+1) k (by omega) (by omega) (by omega),Bool.true_and]
   | false =>
     rw [AO (r:=.inl ()) (by rw [step,hc]; rfl)]; rfl
theorem Qf (K:Nat) {s:ByteArray} (hs:s.size<=1000000000) {L:List (Nat × Nat)} (hL:Runes s 0 L) (hk:L.length < K) (hl:L.length<=s.size):Wq K s=some (L.all LV && (decide (1<=L.length) && decide (L.length<=12))):=by
 unfold Wq
 rw [FY K hs hL hk hl,Option.bind_some,show (0:Int)=((0:Nat):Int) from rfl,RD K L (by omega) L.length 0 K (by omega) (by omega) hk,Option.bind_some,List.drop_zero]
 cases L.all LV with
 | false=>rfl
 | true =>
   simp only [if_true,BN,Bool.true_and]
   have e:(rs L).length=L.length:=by simp [rs]
   rw [e]
   by_cases h:1<=L.length
   · rw [AK (by omega),decide_eq_true h,Bool.true_and]
     congr 1
     rw [decide_eq_decide]; omega
   · rw [AJ (by omega),decide_eq_false h,Bool.false_and]
theorem Rb (L:List (Nat × Nat)):(TW 0 L && decide (0 < L.length))=(L.all LV && (decide (1<=L.length) && decide (L.length<=12))):=by
 rw [Xv]
 cases L.all LV with
 | false=>simp
 | true =>
   cases L with
   | nil=>rfl
   | cons x L=>simp
end Go.Proofs.YthoimblkpcikdaaGreatDoor.PureKeysRight
