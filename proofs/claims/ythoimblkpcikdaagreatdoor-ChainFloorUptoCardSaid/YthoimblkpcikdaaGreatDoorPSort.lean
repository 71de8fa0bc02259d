/- Texts in order: the order, sorting, taking doubles out. -/
import Derived.Test.YthoimblkpcikdaaGreatDoorPureBytes
namespace Go.Proofs.YthoimblkpcikdaaGreatDoor.PSort
open Go.RowKit Go.Proofs.YthoimblkpcikdaaGreatDoor.Mc Go.Proofs.YthoimblkpcikdaaGreatDoor.N Go.Proofs.YthoimblkpcikdaaGreatDoor.Plain Go.Proofs.YthoimblkpcikdaaGreatDoor.PureRune Go.Proofs.YthoimblkpcikdaaGreatDoor.PureKeys Go.Proofs.YthoimblkpcikdaaGreatDoor.PureCmp Go.Proofs.YthoimblkpcikdaaGreatDoor.PureBytes
set_option linter.unusedSimpArgs false
set_option linter.unusedVariables false
noncomputable def rl (s:ByteArray):List Int:=rs (Classical.choose (EA s s.size 0 (by omega)))
theorem WB (s:ByteArray):∃ L,Runes s 0 L/\L.length<=s.size/\rl s=rs L :=
 ⟨_,(Classical.choose_spec (EA s s.size 0 (by omega))).1,by have:=(Classical.choose_spec (EA s s.size 0 (by omega))).2; omega,rfl⟩
theorem PF:∀ (A B C:List Int),cmp A B < 0->cmp B C < 0->cmp A C < 0
 | [],[],C,h,_=>by simp [cmp] at h
 | _ :: _,[],C,h,_=>by simp [cmp] at h
 | A,_ :: _,[],_,h=>by simp [cmp] at h
 | [],_ :: _,_ :: _,_,_=>by simp [cmp]
 | x :: xs,y :: ys,z :: zs,h1,h2=>by
   simp only [cmp] at *
   have ih:=PF xs ys zs
   split at h1 <;> split at h2 <;> split <;> (first | exact ih h1 h2 | (split at h1 <;> split at h2 <;> omega) | (split at h2 <;> omega) | (split at h1 <;> omega) | skip)
   all_goals first | omega | (split <;> first | omega | (split at h1 <;> split at h2 <;> omega) | (split at h1 <;> omega) | (split at h2 <;> omega))
theorem KP:∀ (A B C:List Nat),CH A B=true->CH B C=true->CH A C=true
 | _,[],_,h,_=>by simp [CH] at h
 | _,_ :: _,[],_,h=>by simp [CH] at h
 | [],_ :: _,_ :: _,_,_=>rfl
 | x :: xs,y :: ys,z :: zs,h1,h2=>by
   have ih:=KP xs ys zs
   simp only [CH,Bool.or_eq_true,Bool.and_eq_true,decide_eq_true_eq,beq_iff_eq] at *
   rcases h1 with h1 | ⟨rfl,h1⟩ <;> rcases h2 with h2 | ⟨rfl,h2⟩
   · left; omega
   · left; omega
   · left; omega
   · right; exact ⟨rfl,ih h1 h2⟩
theorem KS:∀ (A B:List Nat),CH A B=false->CH B A=false->A=B
 | [],[],_,_=>rfl
 | [],_ :: _,h,_=>by simp [CH] at h
 | _ :: _,[],_,h=>by simp [CH] at h
 | x :: xs,y :: ys,h1,h2=>by
   have ih:=KS xs ys
   simp only [CH,Bool.or_eq_false_iff,Bool.and_eq_false_iff,decide_eq_false_iff_not,beq_eq_false_iff_ne] at *
   have e:x=y:=by omega
   subst e
   rw [ih (by rcases h1.2 with h | h; exact absurd rfl h; exact h) (by rcases h2.2 with h | h; exact absurd rfl h; exact h)]
theorem RH {a b c:List UInt8}(h1:Op.bytesLess a b=true)(h2:Op.bytesLess b c=true):Op.bytesLess a c=true:=by
 rw [Vg] at *; exact KP _ _ _ h1 h2
theorem Sc {a b:List UInt8}(h1:Op.bytesLess a b=false)(h2:Op.bytesLess b a=false):a=b:=by
 rw [Vg] at *
 exact (List.map_inj_right (fun a b h=>UInt8.toNat_inj.1 h)).1 (KS _ _ h1 h2)
theorem QT (a:List UInt8):Op.bytesLess a a=false:=by
 cases h:Op.bytesLess a a with
 | false=>rfl
 | true =>
   rw [Vg] at h
   rw [GA _ _ h] at h; cases h
noncomputable def lt (a b:ByteArray):Bool:=decide (cmp (rl a) (rl b) < 0) || (cmp (rl a) (rl b) == 0 && Op.bytesLess a.toList b.toList)
theorem NP {a b:ByteArray}(h:a.toList=b.toList):a=b:=by
 rw [ByteArray.toList_eq,ByteArray.toList_eq] at h
 exact ByteArray.ext (Array.ext' h)
theorem lt_irrefl (a:ByteArray):lt a a=false:=by
 unfold lt; rw [Rn,QT]; rfl
theorem lt_trans {a b c:ByteArray}(h1:lt a b=true)(h2:lt b c=true):lt a c=true:=by
 unfold lt at *
 simp only [Bool.or_eq_true,Bool.and_eq_true,decide_eq_true_eq,beq_iff_eq] at *
 rcases h1 with h1 | ⟨e1,h1⟩ <;> rcases h2 with h2 | ⟨e2,h2⟩
 · left; exact PF _ _ _ h1 h2
 · left; rw [<- cmp_eq _ _ e2]; exact h1
 · left; rw [cmp_eq _ _ e1]; exact h2
 · right; rw [cmp_eq _ _ e1]; exact ⟨e2,RH h1 h2⟩
theorem Im {a b:ByteArray}(h1:lt a b=false)(h2:lt b a=false):a=b:=by
 unfold lt at *
 rw [Ss (rl a) (rl b)] at h2
 simp only [Bool.or_eq_false_iff,Bool.and_eq_false_iff,decide_eq_false_iff_not,beq_eq_false_iff_ne] at *
 have e:cmp (rl a) (rl b)=0:=by omega
 exact NP (Sc (by rcases h1.2 with h | h; exact absurd e h; exact h) (by rcases h2.2 with h | h; omega; exact h))
theorem lt_asymm {a b:ByteArray}(h:lt a b=true):lt b a=false:=by
 cases g:lt b a with
 | false=>rfl
 | true=>rw [<- lt_irrefl a,lt_trans h g]
theorem WR {a b c:ByteArray}(h1:lt a b=false)(h2:lt b c=false):lt a c=false:=by
 cases g:lt a c with
 | false=>rfl
 | true =>
   cases k:lt b a with
   | true=>rw [<- h2,lt_trans k g]
   | false=>rw [Im h1 k,h2] at g; cases g
theorem KL:∀ {A B:List ByteArray},A.Pairwise (fun x y=>lt x y=true)->B.Pairwise (fun x y=>lt x y=true)->(∀ x,x ∈ A ↔ x ∈ B)->A=B
 | [],[],_,_,_=>rfl
 | [],b :: B,_,_,h=>by have:=(h b).2 (by simp); cases this
 | a :: A,[],_,_,h=>by have:=(h a).1 (by simp); cases this
 | a :: A,b :: B,h1,h2,h=>by
   rw [List.pairwise_cons] at h1 h2
   have e:a=b:=by
     rcases List.mem_cons.1 ((h a).1 (by simp)) with e | ha
     · exact e
     · rcases List.mem_cons.1 ((h b).2 (by simp)) with e | hb
       · exact e.symm
       · have:=lt_asymm (h1.1 b hb); rw [h2.1 a ha] at this; cases this
   subst e
   rw [KL h1.2 h2.2 fun x=>⟨fun hx=>?_,fun hx=>?_⟩]
   · rcases List.mem_cons.1 ((h x).1 (List.mem_cons_of_mem _ hx)) with e | hb
     · subst e; have:=h1.1 x hx; rw [lt_irrefl] at this; cases this
     · exact hb
   · rcases List.mem_cons.1 ((h x).2 (List.mem_cons_of_mem _ hx)) with e | hb
     · subst e; have:=h2.1 x hx; rw [lt_irrefl] at this; cases this
     · exact hb
def dd:List ByteArray->List ByteArray
 | []=>[]
 | [x]=>[x]
 | x :: y :: l=>if x=y then dd (y :: l) else x :: dd (y :: l)
theorem Ut:∀ (l:List ByteArray) (x:ByteArray),x ∈ dd l ↔ x ∈ l
 | [],x=>Iff.rfl
 | [y],x=>Iff.rfl
 | a :: b :: l,x=>by
   have ih:=Ut (b :: l) x
   simp only [dd]
   split
   · rename_i e
     subst e
     rw [ih]; simp
   · rw [List.mem_cons,ih]; simp
theorem OQ:∀ {l:List ByteArray},l.Pairwise (fun x y=>lt y x=false)->(dd l).Pairwise (fun x y=>lt x y=true)
 | [],_=>.nil
 | [x],_=>by simp [dd]
 | a :: b :: l,h=>by
   rw [List.pairwise_cons] at h
   have ih:=OQ h.2
   simp only [dd]
   split
   · exact ih
   · rename_i hne
     rw [List.pairwise_cons]
     refine ⟨fun x hx=>?_,ih⟩
     have hx':=(Ut _ _).1 hx
     have hba:lt b a=false:=h.1 b (by simp)
     have hab:lt a b=true:=by
       cases g:lt a b with
       | true=>rfl
       | false=>exact absurd (Im g hba) hne
     rcases List.mem_cons.1 hx' with rfl | hx'
     · exact hab
     · rw [List.pairwise_cons] at h
       have hxb:lt x b=false:=h.2.1 x hx'
       cases g:lt b x with
       | true=>exact lt_trans hab g
       | false=>rw [<- Im g hxb]; exact hab
theorem ZZ:∀ (l:List ByteArray),(dd l).length<=l.length
 | []=>Nat.le_refl _
 | [x]=>Nat.le_refl _
 | a :: b :: l=>by
   have ih:=ZZ (b :: l)
   simp only [dd]
   split <;> simp only [List.length_cons] at * <;> omega
theorem take_one {l:List ByteArray}{j:Nat}(h:j < l.length):l.take (j+1)=l.take j ++ [l[j]]:=by
 rw [List.take_add_one,List.getElem?_eq_getElem h]; rfl
end Go.Proofs.YthoimblkpcikdaaGreatDoor.PSort
