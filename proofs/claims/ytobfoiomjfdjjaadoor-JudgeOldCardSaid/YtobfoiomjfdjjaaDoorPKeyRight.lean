/- Right, of texts as long as they may be. -/
import Derived.Test.YtobfoiomjfdjjaaDoorPureKeysRight
namespace Go.Proofs.YtobfoiomjfdjjaaDoor.PKeyRight
open Go.RowKit Go.Proofs.YtobfoiomjfdjjaaDoor.Mc Go.Proofs.YtobfoiomjfdjjaaDoor.N Go.Proofs.YtobfoiomjfdjjaaDoor.Plain Go.Proofs.YtobfoiomjfdjjaaDoor.PureRune Go.Proofs.YtobfoiomjfdjjaaDoor.PureKeys
open Go.Proofs.YtobfoiomjfdjjaaDoor.PureKeysRight (Oe Ds)
set_option linter.unusedSimpArgs false
set_option linter.unusedVariables false
theorem Ip (K:Nat) (s:ByteArray):∀ {p:Nat} {L:List (Nat × Nat)},Runes s p L->∀ (k m:Nat),13 - m < k->m<=12 ->
   ∃ p', AX (HF K s) k ((m:Int),s,p)=some (if RA m L then .inr (((m+L.length:Nat):Int),s,p') else .inl (s,p'))
 | _,_,.nil p h,k,m,hk,hm=>by
   obtain ⟨k,rfl⟩:∃ j,k=j+1:=⟨k - 1,by omega⟩
   refine ⟨p,Am ?_⟩
   unfold HF
   simp only [decide_eq_false h,cond_false,RA,if_true]; rfl
 | _, _, .cons p h L t,k,m,hk,hm=>by
   obtain ⟨k,rfl⟩:∃ j,k=j+1:=⟨k - 1,by omega⟩
   have hdg:=Ds s p h
   have step : HF K s ((m:Int),s,p)=cond (decide (m+1<=12) && Pg (Utf8.decode s p)) (some (.inl (((m+1:Nat):Int),s,p+(Utf8.decode s p).2))) (some (.inr (.inl (s,p+(Utf8.decode s p).2)))):=by
     unfold HF eT
     simp only [decide_eq_true h,cond_true,Int.toNat_natCast,hdg]
     rw [LS (by omega) (by omega)]
     generalize Utf8.decode s p=x
     obtain ⟨r,n⟩:=x
     simp only [Pg]
     have A:(cond (decide (12 < (m:Int)+1)) (some true) (cond (decide ((r:Int) < 33)) (some true) (cond (decide (127<=(r:Int))) (some (decide ((r:Int)<=160))) (some false))):Option Bool)=some (!(decide (m+1<=12) && (decide (33<=r) && !(decide (127<=r) && decide (r<=160))))):=by
       by_cases h1:m+1<=12
       · rw [BT (by omega)]
         by_cases h2:33<=r
         · rw [BT (by omega)]
           by_cases h3:127<=r
           · rw [BC (by omega)]
             by_cases h4:r<=160
             · simp [h1,h2,h3,h4]; omega
             · simp [h1,h2,h3,h4]; omega
           · rw [BT (by omega)]; simp [h1,h2,h3]
         · rw [BC (by omega)]; simp [h2]
       · rw [BC (by omega)]; simp [h1]
     rw [A,Option.bind_some]
     cases hc:(decide (m+1<=12) && (decide (33<=r) && !(decide (127<=r) && decide (r<=160)))) with
     | false =>
       have:(decide (m+1<=12) && (decide (33<=r) && !(decide (127<=r) && decide (r<=160)) && !(r == 65533 && n == 1)))=false:=by
         rw [<- Bool.and_assoc,hc]; rfl
       rw [this]; rfl
     | true =>
       have:(decide (m+1<=12) && (decide (33<=r) && !(decide (127<=r) && decide (r<=160)) && !(r == 65533 && n == 1))) = !(r == 65533 && n == 1):=by
         rw [<- Bool.and_assoc,hc]; rfl
       rw [this]
       simp only [Bool.not_true,cond_false]
       rw [LU (by unfold Dj; exact decide_eq_true (by omega))]
       simp only [Option.bind_some]
       by_cases h5:r=65533
       · subst h5
         by_cases h6:n=1
         · subst h6; rfl
         · have g6:((n:Int) == 1)=false:=by rw [beq_eq_false_iff_ne]; omega
           have g7:(n == 1)=false:=by simpa using h6
           rw [g6,g7]; rfl
       · have g5:((r:Int) == 65533)=false:=by rw [beq_eq_false_iff_ne]; omega
         have g7:(r == 65533)=false:=by simpa using h5
         rw [g5,g7]; rfl
   by_cases hc:(decide (m+1<=12) && Pg (Utf8.decode s p))=true
   · have hc':=hc
     simp only [Bool.and_eq_true,decide_eq_true_eq] at hc'
     obtain ⟨p', e⟩:=Ip K s t k (m+1) (by omega) (by omega)
     refine ⟨p', ?_⟩
     rw [Av (b:=(((m+1:Nat):Int),s,p+(Utf8.decode s p).2)) (by rw [step,hc]; rfl),e,RA,hc,Bool.true_and]
     have:m+1+L.length=m+(Utf8.decode s p :: L).length:=by simp only [List.length_cons]; omega
     rw [this]
   · refine ⟨p+(Utf8.decode s p).2,?_⟩
     rw [Bool.not_eq_true] at hc
     rw [Am (r:=.inl (s,p+(Utf8.decode s p).2)) (by rw [step,hc]; rfl)]
     rw [RA,hc]; rfl
theorem TM (K:Nat){s:ByteArray}{L:List (Nat × Nat)}(hL:Runes s 0 L)(hk:20<=K):WW K s=some (L.all Pg && (decide (1<=L.length) && decide (L.length<=12))):=by
 obtain ⟨p', e⟩:=Ip K s hL K 0 (by omega) (by omega)
 rw [<- Oe]
 unfold WW
 rw [show ((0:Int),s,0)=(((0:Nat):Int),s,0) from rfl,e]
 cases RA 0 L with
 | false=>rfl
 | true =>
   simp only [if_true,Option.bind_some,Aq,Bool.true_and]
   congr 1
   rw [decide_eq_decide]; omega
end Go.Proofs.YtobfoiomjfdjjaaDoor.PKeyRight
