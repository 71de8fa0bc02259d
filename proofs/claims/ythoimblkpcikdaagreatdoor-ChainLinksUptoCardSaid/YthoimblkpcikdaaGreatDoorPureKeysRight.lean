/- Plain law: KeysRight. -/
import Derived.Test.YthoimblkpcikdaaGreatDoorPureKeys
namespace Go.Proofs.YthoimblkpcikdaaGreatDoor.PureKeysRight
open Go.RowKit Go.Proofs.YthoimblkpcikdaaGreatDoor.Mc Go.Proofs.YthoimblkpcikdaaGreatDoor.N Go.Proofs.YthoimblkpcikdaaGreatDoor.Plain Go.Proofs.YthoimblkpcikdaaGreatDoor.PureRune Go.Proofs.YthoimblkpcikdaaGreatDoor.PureKeys
set_option linter.unusedSimpArgs false
set_option linter.unusedVariables false
theorem Ep (s:ByteArray)(p:Nat)(h:p < s.size):Lib.decodeGo (s.extract p s.size)=Utf8.decode s p:=by
 unfold Lib.decodeGo
 rw [Lib.tail_size,if_neg (by omega),Lib.tail_decode,Nat.add_zero]
theorem Ny (K:Nat) (s:ByteArray) (hs:s.size<=1000000000):∀ {p:Nat} {L:List (Nat × Nat)},Runes s p L->∀ (k m:Nat),L.length < k->m+L.length<=1000000000 ->
   ∃ p', AB (FT K s) k ((m:Int),s,p)=some (if VX m L then .inr (((m+L.length:Nat):Int),s,p') else .inl (s,p'))
 | _,_,.nil p h,k,m,hk,hm=>by
   obtain ⟨k,rfl⟩:∃ j,k=j+1:=⟨k - 1,by simp at hk; omega⟩
   refine ⟨p,AK ?_⟩
   unfold FT
   simp only [decide_eq_false h,cond_false,VX,if_true]; rfl
 | _, _, .cons p h L t,k,m,hk,hm=>by
   simp only [List.length_cons] at hk hm
   obtain ⟨k,rfl⟩:∃ j,k=j+1:=⟨k - 1,by omega⟩
   obtain ⟨p', e⟩:=Ny K s hs t k (m+1) (by omega) (by omega)
   have hdg:=Ep s p h
   have step : FT K s ((m:Int),s,p)=cond (decide (m+1<=12) && ML (Utf8.decode s p)) (some (.inl (((m+1:Nat):Int),s,p+(Utf8.decode s p).2))) (some (.inr (.inl (s,p+(Utf8.decode s p).2)))):=by
     unfold FT eJ
     simp only [decide_eq_true h,cond_true,Int.toNat_natCast,hdg]
     rw [Aq (by omega) (by omega)]
     generalize Utf8.decode s p=x
     obtain ⟨r,n⟩:=x
     simp only [ML]
     have A:(cond (decide (12 < (m:Int)+1)) (some true) (cond (decide ((r:Int) < 33)) (some true) (cond (decide (127<=(r:Int))) (some (decide ((r:Int)<=160))) (some false))):Option Bool)=some (!(decide (m+1<=12) && (decide (33<=r) && !(decide (127<=r) && decide (r<=160))))):=by
       by_cases h1:m+1<=12
       · rw [AF (by omega)]
         by_cases h2:33<=r
         · rw [AF (by omega)]
           by_cases h3:127<=r
           · rw [AE (by omega)]
             by_cases h4:r<=160
             · simp [h1,h2,h3,h4]; omega
             · simp [h1,h2,h3,h4]; omega
           · rw [AF (by omega)]; simp [h1,h2,h3]
         · rw [AE (by omega)]; simp [h2]
       · rw [AE (by omega)]; simp [h1]
     rw [A,Option.bind_some]
     cases hc:(decide (m+1<=12) && (decide (33<=r) && !(decide (127<=r) && decide (r<=160)))) with
     | false =>
       have:(decide (m+1<=12) && (decide (33<=r) && !(decide (127<=r) && decide (r<=160)) && !(r == 65533 && n == 1)))=false:=by
         rw [<- Bool.and_assoc,hc]; rfl
       rw [this]; rfl
     | true =>
       have:(decide (m+1<=12) && (decide (33<=r) && !(decide (127<=r) && decide (r<=160)) && !(r == 65533 && n == 1))) = !(r == 65533 && n == 1):=by
         rw [<- Bool.and_assoc,hc]; rfl
       rw [this]
       simp only [Bool.not_true,cond_false]
       rw [FY (by unfold Bn; exact decide_eq_true (by omega))]
       simp only [Option.bind_some]
       by_cases h5:r=65533
       · subst h5
         by_cases h6:n=1
         · subst h6; rfl
         · have g6:((n:Int) == 1)=false:=by rw [beq_eq_false_iff_ne]; omega
           have g7:(n == 1)=false:=by simpa using h6
           rw [g6,g7]; rfl
       · have g5:((r:Int) == 65533)=false:=by rw [beq_eq_false_iff_ne]; omega
         have g7:(r == 65533)=false:=by simpa using h5
         rw [g5,g7]; rfl
   by_cases hc:(decide (m+1<=12) && ML (Utf8.decode s p))=true
   · refine ⟨p', ?_⟩
     rw [AU (b:=(((m+1:Nat):Int),s,p+(Utf8.decode s p).2)) (by rw [step,hc]; rfl),e,VX,hc,Bool.true_and]
     have:m+1+L.length=m+(Utf8.decode s p :: L).length:=by simp only [List.length_cons]; omega
     rw [this]
   · refine ⟨p+(Utf8.decode s p).2,?_⟩
     rw [Bool.not_eq_true] at hc
     rw [AK (r:=.inl (s,p+(Utf8.decode s p).2)) (by rw [step,hc]; rfl)]
     rw [VX,hc]; rfl
theorem HA (K:Nat){s:ByteArray}(hs:s.size<=1000000000){L:List (Nat × Nat)}(hL:Runes s 0 L)(hk:L.length < K)(hl:L.length<=s.size):Vu K s=some (VX 0 L && decide (0 < L.length)):=by
 obtain ⟨p', e⟩:=Ny K s hs hL K 0 hk (by omega)
 unfold Vu
 rw [show ((0:Int),s,0)=(((0:Nat):Int),s,0) from rfl,e]
 cases VX 0 L with
 | false=>rfl
 | true=>simp [BM]
theorem eC (K:Nat) (x:Nat × Nat):fv K (x.1:Int) (x.2:Int)=some (ML x):=by
 obtain ⟨r,n⟩:=x
 unfold fv ML
 simp only
 have pj:((r:Int) == 65533)=(r == 65533):=by rw [Bool.eq_iff_iff]; simp only [beq_iff_eq]; omega
 have h1:((n:Int) == 1)=(n == 1):=by rw [Bool.eq_iff_iff]; simp only [beq_iff_eq]; omega
 rw [pj,h1]
 by_cases a1:33<=r
 · rw [AE (by omega)]
   by_cases a2:127<=r
   · rw [AE (by omega)]
     by_cases a3:r<=160
     · have:decide ((r:Int)<=160)=true:=decide_eq_true (by omega)
       rw [this]; simp [a1,a2,a3]
     · have:decide ((r:Int)<=160)=false:=decide_eq_false (by omega)
       rw [this]
       cases r == 65533 <;> simp [a1,a2,a3]
   · rw [AF (by omega)]
     cases r == 65533 <;> simp [a1,a2]
 · rw [AF (by omega)]; simp [a1]
theorem Sp (K:Nat) (L:List (Nat × Nat)) (hl:L.length<=1000000000):∀ (m j k:Nat),L.length - j=m->j<=L.length->m < k->AB (NW K (rs L,ns L)) k (j:Int)=some (if (L.drop j).all ML then .inr () else .inl ())
 | 0,j,k,hm,hj,hk=>by
   obtain ⟨k,rfl⟩:∃ i,k=i+1:=⟨k - 1,by omega⟩
   have:j=L.length:=by omega
   subst this
   rw [AK (r:=.inr ()) (by unfold NW; rw [AF (by simp [rs])])]
   simp
 | m + 1,j,k,hm,hj,hk=>by
   obtain ⟨k,rfl⟩:∃ i,k=i+1:=⟨k - 1,by omega⟩
   have hlt:j < L.length:=by omega
   have hr:(rs L)[j]? = some ((L[j].1:Nat):Int):=by simp [rs,hlt]
   have hn:(ns L)[j]? = some ((L[j].2:Nat):Int):=by simp [ns,hlt]
   have hd:L.drop j=L[j] :: L.drop (j+1):=List.drop_eq_getElem_cons hlt
   have step:NW K (rs L,ns L) (j:Int)=cond (ML L[j]) (some (.inl ((j+1:Nat):Int))) (some (.inr (.inl ()))):=by
     unfold NW
     simp only [Bz,Int.toNat_natCast,hr,hn,Option.bind_some]
     rw [AE (by simp [rs]; omega),eC,Option.bind_some]
     cases ML L[j] with
     | false=>rfl
     | true =>
       simp only [Bool.not_true,cond_false,cond_true]
       rw [Aq (by omega) (by omega)]; rfl
   rw [hd,List.all_cons]
   cases hc:ML L[j] with
   | true =>
     rw [AU (b:=((j+1:Nat):Int)) (by rw [step,hc]; rfl),Sp K L hl m (j+1) k (by omega) (by omega) (by omega),Bool.true_and]
   | false =>
     rw [AK (r:=.inl ()) (by rw [step,hc]; rfl)]; rfl
theorem Qq (K:Nat) {s:ByteArray} (hs:s.size<=1000000000) {L:List (Nat × Nat)} (hL:Runes s 0 L) (hk:L.length < K) (hl:L.length<=s.size):YK K s=some (L.all ML && (decide (1<=L.length) && decide (L.length<=12))):=by
 unfold YK
 rw [De K hs hL hk hl,Option.bind_some,show (0:Int)=((0:Nat):Int) from rfl,Sp K L (by omega) L.length 0 K (by omega) (by omega) hk,Option.bind_some,List.drop_zero]
 cases L.all ML with
 | false=>rfl
 | true =>
   simp only [if_true,BM,Bool.true_and]
   have e:(rs L).length=L.length:=by simp [rs]
   rw [e]
   by_cases h:1<=L.length
   · rw [AE (by omega),decide_eq_true h,Bool.true_and]
     congr 1
     rw [decide_eq_decide]; omega
   · rw [AF (by omega),decide_eq_false h,Bool.false_and]
theorem Ty (L:List (Nat × Nat)):(VX 0 L && decide (0 < L.length))=(L.all ML && (decide (1<=L.length) && decide (L.length<=12))):=by
 rw [bq]
 cases L.all ML with
 | false=>simp
 | true =>
   cases L with
   | nil=>rfl
   | cons x L=>simp
end Go.Proofs.YthoimblkpcikdaaGreatDoor.PureKeysRight
