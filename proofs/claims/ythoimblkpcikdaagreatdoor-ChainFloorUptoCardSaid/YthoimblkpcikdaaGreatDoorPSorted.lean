/- What the functions that sort texts compute. -/
import Derived.Test.YthoimblkpcikdaaGreatDoorPSort
namespace Go.Proofs.YthoimblkpcikdaaGreatDoor.PSorted
open Go.RowKit Go.Proofs.YthoimblkpcikdaaGreatDoor.Mc Go.Proofs.YthoimblkpcikdaaGreatDoor.N Go.Proofs.YthoimblkpcikdaaGreatDoor.Plain Go.Proofs.YthoimblkpcikdaaGreatDoor.PureRune Go.Proofs.YthoimblkpcikdaaGreatDoor.PureKeys Go.Proofs.YthoimblkpcikdaaGreatDoor.PureCmp Go.Proofs.YthoimblkpcikdaaGreatDoor.PureBytes Go.Proofs.YthoimblkpcikdaaGreatDoor.PSort
set_option linter.unusedSimpArgs false
set_option linter.unusedVariables false
theorem bj (K:Nat){a b:ByteArray}(ha:a.size<=1000000)(hb:b.size<=1000000)(hK:2000000<=K):aZ K a b=some (cmp (rl a) (rl b)):=by
 obtain ⟨L,hL,h1,e1⟩:=WB a
 obtain ⟨M,hM,h2,e2⟩:=WB b
 rw [e1,e2]
 exact LC K (by omega) (by omega) hL hM (by omega) (by omega) h1 h2
theorem fq (K:Nat){a b:ByteArray}(ha:a.size<=1000000)(hb:b.size<=1000000)(hK:2000000<=K):ZV K a b=some (cmp (rl a) (rl b)):=by
 obtain ⟨L,hL,h1,e1⟩:=WB a
 obtain ⟨M,hM,h2,e2⟩:=WB b
 rw [e1,e2]
 exact TY K (by omega) (by omega) hL hM (by omega) (by omega) h1 h2
theorem ahead (K:Nat){a b:ByteArray}(ha:a.size<=1000000)(hb:b.size<=1000000)(hK:2000000<=K):Rq K a b=some (lt a b):=by
 unfold Rq lt
 rw [fq K ha hb hK,Option.bind_some]
 by_cases h:cmp (rl a) (rl b) < 0
 · rw [decide_eq_true h]; rfl
 · rw [decide_eq_false h]
   cases cmp (rl a) (rl b) == 0 <;> rfl
def Small (l:List ByteArray):Prop:=∀ a ∈ l,a.size<=1000000
noncomputable def ms (l:List ByteArray):List ByteArray:=l.mergeSort fun x y => !(lt y x)
theorem fI (l:List ByteArray)(x:ByteArray):x ∈ ms l ↔ x ∈ l:=(List.mergeSort_perm l _).mem_iff
theorem ie (l:List ByteArray):(ms l).length=l.length:=List.length_mergeSort l
theorem Xi (l:List ByteArray):(ms l).Pairwise (fun x y=>lt y x=false):=by
 have:=List.pairwise_mergeSort (le:=fun x y => !(lt y x)) (fun a b c h1 h2=>by
   simp only [Bool.not_eq_true'] at *
   exact WR h2 h1) (fun a b=>by
   cases h:lt b a with
   | false=>simp
   | true=>simp [lt_asymm h]) l
 exact this.imp (fun h=>by simpa using h)
noncomputable def fA (l:List ByteArray):List ByteArray:=dd (ms l)
theorem LN (l:List ByteArray)(x:ByteArray):x ∈ fA l ↔ x ∈ l:=by unfold fA; rw [Ut,fI]
theorem Ml (l:List ByteArray):(fA l).Pairwise (fun x y=>lt x y=true):=OQ (Xi l)
theorem eA (l:List ByteArray):(fA l).length<=l.length:=by unfold fA; have:=ZZ (ms l); rw [ie] at this; exact this
noncomputable def ins (x:ByteArray)(l:List ByteArray):List ByteArray :=
 if l[(l.takeWhile fun y=>lt y x).length]? = some x then l else l.take (l.takeWhile fun y=>lt y x).length ++ [x] ++ l.drop (l.takeWhile fun y=>lt y x).length
theorem Vf (l:List ByteArray)(p:ByteArray->Bool):(l.takeWhile p).length<=l.length:=(List.takeWhile_sublist p).length_le
theorem QF:∀ (l:List ByteArray) (p:ByteArray->Bool),l.take (l.takeWhile p).length=l.takeWhile p/\l.drop (l.takeWhile p).length=l.dropWhile p
 | [],p=>⟨rfl,rfl⟩
 | x :: l,p=>by
   obtain ⟨h1,h2⟩:=QF l p
   by_cases h:p x=true
   · rw [List.takeWhile_cons_of_pos h,List.dropWhile_cons_of_pos h]
     exact ⟨by simp [h1],by simpa using h2⟩
   · rw [List.takeWhile_cons_of_neg h,List.dropWhile_cons_of_neg h]
     exact ⟨rfl,rfl⟩
theorem dT (x:ByteArray) (l:List ByteArray) (y:ByteArray):y ∈ ins x l ↔ y=x\/y ∈ l:=by
 unfold ins
 split
 · rename_i h
   constructor
   · exact .inr
   · rintro (rfl | h')
     · exact List.mem_of_getElem? h
     · exact h'
 · rw [List.append_assoc,List.mem_append,List.mem_append,List.mem_singleton]
   have e:=List.take_append_drop (l.takeWhile fun y=>lt y x).length l
   constructor
   · rintro (h | h | h)
     · exact .inr (List.mem_of_mem_take h)
     · exact .inl h
     · exact .inr (List.mem_of_mem_drop h)
   · rintro (h | h)
     · exact .inr (.inl h)
     · rw [<- e,List.mem_append] at h
       rcases h with h | h
       · exact .inl h
       · exact .inr (.inr h)
theorem Tl {x:ByteArray} {l:List ByteArray} (hl:l.Pairwise (fun x y=>lt x y=true)):(ins x l).Pairwise (fun x y=>lt x y=true):=by
 unfold ins
 split
 · exact hl
 · rename_i hne
   obtain ⟨h1,h2⟩:=QF l (fun y=>lt y x)
   rw [h1,h2,List.append_assoc,List.pairwise_append]
   have htw:∀ y ∈ l.takeWhile (fun y=>lt y x),lt y x=true:=fun y hy=>by
     have:=List.all_takeWhile (l:=l) (p:=fun y=>lt y x)
     exact List.all_eq_true.1 this y hy
   have hsub1:=hl.sublist (List.takeWhile_sublist (fun y=>lt y x))
   have hsub2:=hl.sublist (List.dropWhile_sublist (fun y=>lt y x))
   have hdw:∀ y ∈ l.dropWhile (fun y=>lt y x),lt x y=true:=by
     cases hd:l.dropWhile (fun y=>lt y x) with
     | nil=>intro y hy; cases hy
     | cons z zs =>
       have hz:lt z x=false:=by
         have:=List.head?_dropWhile_not (fun y=>lt y x) l
         rw [hd] at this
         simpa using this
       have hzx:z ≠ x:=by
         rintro rfl
         apply hne
         have:(l.drop (l.takeWhile fun y=>lt y z).length)[0]? = some z:=by rw [h2,hd]; rfl
         rw [List.getElem?_drop,Nat.add_zero] at this
         exact this
       have hxz:lt x z=true:=by
         cases g:lt x z with
         | true=>rfl
         | false=>exact absurd (Im g hz).symm hzx
       intro y hy
       rw [hd,List.pairwise_cons] at hsub2
       rcases List.mem_cons.1 hy with rfl | hy
       · exact hxz
       · exact lt_trans hxz (hsub2.1 y hy)
   refine ⟨hsub1,?_,?_⟩
   · rw [List.singleton_append,List.pairwise_cons]
     exact ⟨hdw,hsub2⟩
   · intro a ha b hb
     rw [List.singleton_append,List.mem_cons] at hb
     rcases hb with rfl | hb
     · exact htw a ha
     · exact lt_trans (htw a ha) (hdw b hb)
theorem QI (x:ByteArray)(l:List ByteArray):(ins x l).length<=l.length+1:=by
 unfold ins
 split
 · omega
 · simp only [List.length_append,List.length_take,List.length_drop,List.length_singleton]
   have:=Vf l (fun y=>lt y x)
   omega
noncomputable def ks (l:List ByteArray):List ByteArray:=l.foldl (fun o x=>ins x o) []
theorem Ux (l:List ByteArray)(x:ByteArray):ks (l ++ [x])=ins x (ks l):=by unfold ks; rw [List.foldl_append]; rfl
theorem Ug:∀ (l:List ByteArray),(ks l).Pairwise (fun x y=>lt x y=true)/\(∀ x,x ∈ ks l ↔ x ∈ l)/\(ks l).length<=l.length:=by
 intro l
 have key:∀ (n:Nat),n<=l.length->(ks (l.take n)).Pairwise (fun x y=>lt x y=true)/\(∀ x,x ∈ ks (l.take n) ↔ x ∈ l.take n)/\(ks (l.take n)).length<=n:=by
   intro n
   induction n with
   | zero=>intro _; exact ⟨.nil,fun x=>Iff.rfl,Nat.le_refl _⟩
   | succ n ih =>
     intro hn
     obtain ⟨h1,h2,h3⟩:=ih (by omega)
     rw [take_one (by omega:n < l.length),Ux]
     refine ⟨Tl h1,fun x=>?_,by have:=QI l[n] (ks (l.take n)); omega⟩
     rw [dT,h2,List.mem_append,List.mem_singleton]
     exact Or.comm
 have:=key l.length (Nat.le_refl _)
 rwa [List.take_length] at this
theorem mX (l:List ByteArray):ks l=fA l:=KL (Ug l).1 (Ml l) fun x=>by rw [(Ug l).2.1,LN]
theorem hP (K:Nat) (hK:2000000<=K) {l:List ByteArray} (i:Nat) (hi:i < l.length) (hx:l[i].size<=1000000) {o:List ByteArray} (ho:Small o) (hn:o.length<=1000000) (hin:i<=1000000) :
   AE (LG K l ((i:Int),o)) K 0=some (((o.takeWhile fun y=>lt y l[i]).length:Nat):Int):=by
 have tw:=QF o (fun y=>lt y l[i])
 refine BE (fun j=>(j:Int)) (o.takeWhile fun y=>lt y l[i]).length rfl (by have:=Vf o (fun y=>lt y l[i]); omega) (fun j hj=>?_) ?_
 · have hjo:j < o.length:=by have:=Vf o (fun y=>lt y l[i]); omega
   have hmem:(o.takeWhile fun y=>lt y l[i])[j] ∈ o.takeWhile fun y=>lt y l[i]:=List.getElem_mem _
   have hlt:lt (o.takeWhile fun y=>lt y l[i])[j] l[i]=true:=List.all_eq_true.1 (List.all_takeWhile (l:=o) (p:=fun y=>lt y l[i])) _ hmem
   have hoj:o[j]? = some (o.takeWhile fun y=>lt y l[i])[j]:=by
     have:(o.take (o.takeWhile fun y=>lt y l[i]).length)[j]? = some (o.takeWhile fun y=>lt y l[i])[j]:=by rw [tw.1]; exact List.getElem?_eq_getElem hj
     rwa [List.getElem?_take,if_pos hj] at this
   have hs:=ho _ (List.mem_of_getElem? hoj)
   unfold LG
   simp only [DP,Int.toNat_natCast,hoj,List.getElem?_eq_getElem hi,Option.bind_some,ahead K hs hx hK,hlt]
   rw [AK (by omega),Option.bind_some,cond_true,BK (by omega) (by omega)]; rfl
 · unfold LG
   by_cases he:(o.takeWhile fun y=>lt y l[i]).length < o.length
   · have hdw:(o.drop (o.takeWhile fun y=>lt y l[i]).length)[0]? = some o[(o.takeWhile fun y=>lt y l[i]).length]:=by
       rw [List.getElem?_drop,Nat.add_zero]; exact List.getElem?_eq_getElem he
     have hz:lt o[(o.takeWhile fun y=>lt y l[i]).length] l[i]=false:=by
       have:=List.head?_dropWhile_not (fun y=>lt y l[i]) o
       rw [tw.2] at hdw
       rw [List.head?_eq_getElem?,hdw] at this
       simpa using this
     have hs:=ho _ (List.getElem_mem he)
     simp only [DP,Int.toNat_natCast,List.getElem?_eq_getElem he,List.getElem?_eq_getElem hi,Option.bind_some,ahead K hs hx hK,hz]
     rw [AK (by omega)]; rfl
   · rw [AJ (by show ¬ (((o.takeWhile fun y=>lt y l[i]).length:Nat):Int) < (o.length:Int); omega)]; rfl
theorem fc (K:Nat) (hK:2000000<=K) {l:List ByteArray} (hl:Small l) (hn:l.length<=1000000):dQ K l=some (fA l):=by
 rw [<- mX]
 unfold dQ
 have hloop:AE (Qn K l) K (0,([]:List ByteArray))=some (ks l):=?_
 · rw [hloop]; rfl
 refine BE (fun i=>((i:Int),ks (l.take i))) l.length rfl (by omega) (fun i hi=>?_) ?_
 · have hall:=Ug (l.take i)
   have ho:Small (ks (l.take i)):=fun a ha=>hl a (List.mem_of_mem_take ((hall.2.1 a).1 ha))
   have hol:(ks (l.take i)).length<=i:=by have:=hall.2.2; rw [List.length_take] at this; omega
   have hx:l[i].size<=1000000:=hl _ (List.getElem_mem hi)
   have hloop:=hP K hK i hi hx ho (by omega) (by omega)
   have htw:=Vf (ks (l.take i)) (fun y=>lt y l[i])
   rw [take_one hi,Ux]
   unfold Qn
   simp only [hloop,Option.bind_some]
   rw [AK (by omega),BK (by omega) (by omega)]
   unfold ins
   generalize hq:(ks (l.take i)).takeWhile (fun y=>lt y l[i])=tw at *
   generalize ks (l.take i)=o at *
   have hli:l[i]? = some l[i]:=List.getElem?_eq_getElem hi
   have rest:(Ai (Be (o.length:Int) 0 (tw.length:Int)) <|
       Ai (decide ((([]:List ByteArray).length+((o.drop 0).take (tw.length - 0)).length) * 16<=140737488355328)) <|
       (ix l (i:Int)).bind fun a127 =>
       Ai (decide (((([]:List ByteArray) ++ ((o.drop 0).take (tw.length - 0))).length+[a127].length) * 16<=140737488355328)) <|
       Ai (Be (o.length:Int) (tw.length:Int) (o.length:Int)) <|
       Ai (decide ((((([]:List ByteArray) ++ ((o.drop 0).take (tw.length - 0))) ++ [a127]).length+((o.drop tw.length).take (o.length - tw.length)).length) * 16<=140737488355328)) <|
       some (((([]:List ByteArray) ++ ((o.drop 0).take (tw.length - 0))) ++ [a127]) ++ ((o.drop tw.length).take (o.length - tw.length))))=some (o.take tw.length ++ [l[i]] ++ o.drop tw.length):=by
     rw [Ec (by unfold Be; exact decide_eq_true (by omega)),BB (by simp only [List.length_nil,List.length_take,List.length_drop]; omega),DP,hli,Option.bind_some,
       BB (by simp only [List.nil_append,List.length_take,List.length_drop,List.length_singleton]; omega),Ec (by unfold Be; exact decide_eq_true (by omega)),
       BB (by simp only [List.nil_append,List.length_append,List.length_take,List.length_drop,List.length_singleton]; omega)]
     rw [List.nil_append,List.drop_zero,Nat.sub_zero,List.take_of_length_le (l:=o.drop tw.length) (by rw [List.length_drop]; omega)]
   by_cases he:tw.length < o.length
   · have hoe:o[tw.length]? = some o[tw.length]:=List.getElem?_eq_getElem he
     rw [AK (by omega)]
     simp only [DP,Int.toNat_natCast,hoe,hli,Option.bind_some] at rest ⊢
     by_cases hx2:o[tw.length]=l[i]
     · have hbq:(o[tw.length].toList == l[i].toList)=true:=by rw [hx2]; simp
       rw [hbq,cond_true,Option.bind_some,if_pos (by rw [hx2])]; rfl
     · have hbq:(o[tw.length].toList == l[i].toList)=false:=by
         rw [beq_eq_false_iff_ne]; exact fun h=>hx2 (NP h)
       rw [hbq,cond_false,if_neg (by intro h; exact hx2 (Option.some.inj h)),rest]; rfl
   · rw [AJ (by omega)]
     simp only [DP,Int.toNat_natCast,hli,Option.bind_some,cond_false] at rest ⊢
     rw [if_neg (by rw [List.getElem?_eq_none (by omega)]; simp),rest]; rfl
 · rw [List.take_length]
   unfold Qn
   rw [AJ (by show ¬ (l.length:Int) < (l.length:Int); omega)]
end Go.Proofs.YthoimblkpcikdaaGreatDoor.PSorted
