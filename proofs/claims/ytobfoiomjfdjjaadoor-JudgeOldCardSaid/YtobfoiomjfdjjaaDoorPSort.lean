/- Texts in order: the order, sorting, taking doubles out. -/
import Derived.Test.YtobfoiomjfdjjaaDoorPureBytes
namespace Go.Proofs.YtobfoiomjfdjjaaDoor.PSort
open Go.RowKit Go.Proofs.YtobfoiomjfdjjaaDoor.Mc Go.Proofs.YtobfoiomjfdjjaaDoor.N Go.Proofs.YtobfoiomjfdjjaaDoor.Plain Go.Proofs.YtobfoiomjfdjjaaDoor.PureRune Go.Proofs.YtobfoiomjfdjjaaDoor.PureKeys Go.Proofs.YtobfoiomjfdjjaaDoor.PureCmp Go.Proofs.YtobfoiomjfdjjaaDoor.PureBytes
set_option linter.unusedSimpArgs false
set_option linter.unusedVariables false
noncomputable def rl (s:ByteArray):List Int:=rs (Classical.choose (DK s s.size 0 (by omega)))
theorem XY (s:ByteArray):∃ L,Runes s 0 L/\L.length<=s.size/\rl s=rs L :=
 ⟨_,(Classical.choose_spec (DK s s.size 0 (by omega))).1,by have:=(Classical.choose_spec (DK s s.size 0 (by omega))).2; omega,rfl⟩
theorem Ls:∀ (A B C:List Int),cmp A B < 0->cmp B C < 0->cmp A C < 0
 | [],[],C,h,_=>by simp [cmp] at h
 | _ :: _,[],C,h,_=>by simp [cmp] at h
 | A,_ :: _,[],_,h=>by simp [cmp] at h
 | [],_ :: _,_ :: _,_,_=>by simp [cmp]
 | x :: xs,y :: ys,z :: zs,h1,h2=>by
   simp only [cmp] at *
   have ih:=Ls xs ys zs
   split at h1 <;> split at h2 <;> split <;> (first | exact ih h1 h2 | (split at h1 <;> split at h2 <;> omega) | (split at h2 <;> omega) | (split at h1 <;> omega) | skip)
   all_goals first | omega | (split <;> first | omega | (split at h1 <;> split at h2 <;> omega) | (split at h1 <;> omega) | (split at h2 <;> omega))
theorem Ii:∀ (A B C:List Nat),Bq A B=true->Bq B C=true->Bq A C=true
 | _,[],_,h,_=>by simp [Bq] at h
 | _,_ :: _,[],_,h=>by simp [Bq] at h
 | [],_ :: _,_ :: _,_,_=>rfl
 | x :: xs,y :: ys,z :: zs,h1,h2=>by
   have ih:=Ii xs ys zs
   simp only [Bq,Bool.or_eq_true,Bool.and_eq_true,decide_eq_true_eq,beq_iff_eq] at *
   rcases h1 with h1 | ⟨rfl,h1⟩ <;> rcases h2 with h2 | ⟨rfl,h2⟩
   · left; omega
   · left; omega
   · left; omega
   · right; exact ⟨rfl,ih h1 h2⟩
theorem Iy:∀ (A B:List Nat),Bq A B=false->Bq B A=false->A=B
 | [],[],_,_=>rfl
 | [],_ :: _,h,_=>by simp [Bq] at h
 | _ :: _,[],_,h=>by simp [Bq] at h
 | x :: xs,y :: ys,h1,h2=>by
   have ih:=Iy xs ys
   simp only [Bq,Bool.or_eq_false_iff,Bool.and_eq_false_iff,decide_eq_false_iff_not,beq_eq_false_iff_ne] at *
   have e:x=y:=by omega
   subst e
   rw [ih (by rcases h1.2 with h | h; exact absurd rfl h; exact h) (by rcases h2.2 with h | h; exact absurd rfl h; exact h)]
theorem Nw {a b c:List UInt8}(h1:Op.bytesLess a b=true)(h2:Op.bytesLess b c=true):Op.bytesLess a c=true:=by
 rw [SF] at *; exact Ii _ _ _ h1 h2
theorem PV {a b:List UInt8}(h1:Op.bytesLess a b=false)(h2:Op.bytesLess b a=false):a=b:=by
 rw [SF] at *
 exact (List.map_inj_right (fun a b h=>UInt8.toNat_inj.1 h)).1 (Iy _ _ h1 h2)
theorem NL (a:List UInt8):Op.bytesLess a a=false:=by
 cases h:Op.bytesLess a a with
 | false=>rfl
 | true =>
   rw [SF] at h
   rw [En _ _ h] at h; cases h
theorem Gr:∀ (a b:List UInt8),Lib.compareBytes a b < 0 ↔ Op.bytesLess a b=true
 | [],[]=>by simp [Lib.compareBytes,Op.bytesLess]
 | [],_ :: _=>by simp [Lib.compareBytes,Op.bytesLess]
 | _ :: _,[]=>by simp [Lib.compareBytes,Op.bytesLess]
 | x :: xs,y :: ys=>by
   have ih:=Gr xs ys
   by_cases h:x < y
   · have e1:Lib.compareBytes (x :: xs) (y :: ys) = -1:=by simp only [Lib.compareBytes,if_pos h]
     have e2:Op.bytesLess (x :: xs) (y :: ys)=true:=by simp only [Op.bytesLess,decide_eq_true h,Bool.true_or]
     rw [e1,e2]; simp
   · by_cases h2:y < x
     · have e:(x == y)=false:=by
         rw [beq_eq_false_iff_ne]; rintro rfl; exact h h2
       have e1:Lib.compareBytes (x :: xs) (y :: ys)=1:=by simp only [Lib.compareBytes,if_neg h,if_pos h2]
       have e2:Op.bytesLess (x :: xs) (y :: ys)=false:=by simp only [Op.bytesLess,decide_eq_false h,e,Bool.false_and,Bool.or_false]
       rw [e1,e2]; simp
     · have e:x=y:=by
         apply UInt8.toNat_inj.1
         have h':¬ x.toNat < y.toNat:=h
         have h2':¬ y.toNat < x.toNat:=h2
         omega
       subst e
       have e1:Lib.compareBytes (x :: xs) (x :: ys)=Lib.compareBytes xs ys:=by simp only [Lib.compareBytes,if_neg h]
       have e2:Op.bytesLess (x :: xs) (x :: ys)=Op.bytesLess xs ys:=by simp only [Op.bytesLess,decide_eq_false h,BEq.rfl,Bool.true_and,Bool.false_or]
       rw [e1,e2,ih]
noncomputable def lt (a b:ByteArray):Bool:=decide (cmp (rl a) (rl b) < 0) || (cmp (rl a) (rl b) == 0 && Op.bytesLess a.toList b.toList)
theorem Kk {a b:ByteArray}(h:a.toList=b.toList):a=b:=by
 rw [ByteArray.toList_eq,ByteArray.toList_eq] at h
 exact ByteArray.ext (Array.ext' h)
theorem lt_irrefl (a:ByteArray):lt a a=false:=by
 unfold lt; rw [Oq,NL]; rfl
theorem lt_trans {a b c:ByteArray}(h1:lt a b=true)(h2:lt b c=true):lt a c=true:=by
 unfold lt at *
 simp only [Bool.or_eq_true,Bool.and_eq_true,decide_eq_true_eq,beq_iff_eq] at *
 rcases h1 with h1 | ⟨e1,h1⟩ <;> rcases h2 with h2 | ⟨e2,h2⟩
 · left; exact Ls _ _ _ h1 h2
 · left; rw [<- cmp_eq _ _ e2]; exact h1
 · left; rw [cmp_eq _ _ e1]; exact h2
 · right; rw [cmp_eq _ _ e1]; exact ⟨e2,Nw h1 h2⟩
theorem HD {a b:ByteArray}(h1:lt a b=false)(h2:lt b a=false):a=b:=by
 unfold lt at *
 rw [OC (rl a) (rl b)] at h2
 simp only [Bool.or_eq_false_iff,Bool.and_eq_false_iff,decide_eq_false_iff_not,beq_eq_false_iff_ne] at *
 have e:cmp (rl a) (rl b)=0:=by omega
 exact Kk (PV (by rcases h1.2 with h | h; exact absurd e h; exact h) (by rcases h2.2 with h | h; omega; exact h))
theorem lt_asymm {a b:ByteArray}(h:lt a b=true):lt b a=false:=by
 cases g:lt b a with
 | false=>rfl
 | true=>rw [<- lt_irrefl a,lt_trans h g]
theorem LZ {a b c:ByteArray}(h1:lt a b=false)(h2:lt b c=false):lt a c=false:=by
 cases g:lt a c with
 | false=>rfl
 | true =>
   cases k:lt b a with
   | true=>rw [<- h2,lt_trans k g]
   | false=>rw [HD h1 k,h2] at g; cases g
theorem Ih:∀ {A B:List ByteArray},A.Pairwise (fun x y=>lt x y=true)->B.Pairwise (fun x y=>lt x y=true)->(∀ x,x ∈ A ↔ x ∈ B)->A=B
 | [],[],_,_,_=>rfl
 | [],b :: B,_,_,h=>by have:=(h b).2 (by simp); cases this
 | a :: A,[],_,_,h=>by have:=(h a).1 (by simp); cases this
 | a :: A,b :: B,h1,h2,h=>by
   rw [List.pairwise_cons] at h1 h2
   have e:a=b:=by
     rcases List.mem_cons.1 ((h a).1 (by simp)) with e | ha
     · exact e
     · rcases List.mem_cons.1 ((h b).2 (by simp)) with e | hb
       · exact e.symm
       · have:=lt_asymm (h1.1 b hb); rw [h2.1 a ha] at this; cases this
   subst e
   rw [Ih h1.2 h2.2 fun x=>⟨fun hx=>?_,fun hx=>?_⟩]
   · rcases List.mem_cons.1 ((h x).1 (List.mem_cons_of_mem _ hx)) with e | hb
     · subst e; have:=h1.1 x hx; rw [lt_irrefl] at this; cases this
     · exact hb
   · rcases List.mem_cons.1 ((h x).2 (List.mem_cons_of_mem _ hx)) with e | hb
     · subst e; have:=h2.1 x hx; rw [lt_irrefl] at this; cases this
     · exact hb
def dd:List ByteArray->List ByteArray
 | []=>[]
 | [x]=>[x]
 | x :: y :: l=>if x=y then dd (y :: l) else x :: dd (y :: l)
theorem Qx:∀ (l:List ByteArray) (x:ByteArray),x ∈ dd l ↔ x ∈ l
 | [],x=>Iff.rfl
 | [y],x=>Iff.rfl
 | a :: b :: l,x=>by
   have ih:=Qx (b :: l) x
   simp only [dd]
   split
   · rename_i e
     subst e
     rw [ih]; simp
   · rw [List.mem_cons,ih]; simp
theorem MG:∀ {l:List ByteArray},l.Pairwise (fun x y=>lt y x=false)->(dd l).Pairwise (fun x y=>lt x y=true)
 | [],_=>.nil
 | [x],_=>by simp [dd]
 | a :: b :: l,h=>by
   rw [List.pairwise_cons] at h
   have ih:=MG h.2
   simp only [dd]
   split
   · exact ih
   · rename_i hne
     rw [List.pairwise_cons]
     refine ⟨fun x hx=>?_,ih⟩
     have hx':=(Qx _ _).1 hx
     have hba:lt b a=false:=h.1 b (by simp)
     have hab:lt a b=true:=by
       cases g:lt a b with
       | true=>rfl
       | false=>exact absurd (HD g hba) hne
     rcases List.mem_cons.1 hx' with rfl | hx'
     · exact hab
     · rw [List.pairwise_cons] at h
       have hxb:lt x b=false:=h.2.1 x hx'
       cases g:lt b x with
       | true=>exact lt_trans hab g
       | false=>rw [<- HD g hxb]; exact hab
theorem Ry:∀ (A:List ByteArray) (y x:ByteArray),dd (A ++ [y] ++ [x])=if y=x then dd (A ++ [y]) else dd (A ++ [y]) ++ [x]
 | [],y,x=>by
   simp only [List.nil_append,List.cons_append,dd]
   by_cases h:y=x
   · subst h; simp
   · simp [h]
 | [a],y,x=>by
   simp only [List.cons_append,List.nil_append,dd]
   by_cases h1:a=y <;> by_cases h2:y=x <;> simp [h1,h2]
 | a :: b :: A,y,x=>by
   have ih:=Ry (b :: A) y x
   simp only [List.cons_append,List.append_assoc,dd] at *
   by_cases h1:a=b
   · rw [if_pos h1,if_pos h1,ih]
   · rw [if_neg h1,if_neg h1,ih]
     split <;> simp
theorem VO:∀ (l:List ByteArray),(dd l).length<=l.length
 | []=>Nat.le_refl _
 | [x]=>Nat.le_refl _
 | a :: b :: l=>by
   have ih:=VO (b :: l)
   simp only [dd]
   split <;> simp only [List.length_cons] at * <;> omega
theorem Sk {l:List ByteArray}{j:Nat}(h:j+1 < l.length):l.take (j+2)=l.take j ++ [l[j]'(by omega)] ++ [l[j+1]]:=by
 rw [List.take_add_one,List.take_add_one,List.getElem?_eq_getElem h,List.getElem?_eq_getElem (by omega:j < l.length)]; rfl
theorem take_one {l:List ByteArray}{j:Nat}(h:j < l.length):l.take (j+1)=l.take j ++ [l[j]]:=by
 rw [List.take_add_one,List.getElem?_eq_getElem h]; rfl
theorem XL {l:List ByteArray}{j:Nat}(h:j+1 < l.length):dd (l.take (j+2))=if l[j]'(by omega)=l[j+1] then dd (l.take (j+1)) else dd (l.take (j+1)) ++ [l[j+1]]:=by
 rw [Sk h,Ry,take_one (by omega)]
theorem Rl {l:List ByteArray}{j:Nat}(h1:1<=j)(h:j < l.length):dd (l.take (j+1))=if l[j - 1]'(by omega)=l[j] then dd (l.take j) else dd (l.take j) ++ [l[j]]:=by
 obtain ⟨i,rfl⟩:∃ i,j=i+1:=⟨j - 1,by omega⟩
 exact XL h
end Go.Proofs.YtobfoiomjfdjjaaDoor.PSort
