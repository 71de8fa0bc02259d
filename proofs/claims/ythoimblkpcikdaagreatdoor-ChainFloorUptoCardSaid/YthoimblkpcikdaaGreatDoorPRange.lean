/- A range over a map, whichever order its entries come in. -/
import Derived.Test.YthoimblkpcikdaaGreatDoorPlain
namespace Go.Proofs.YthoimblkpcikdaaGreatDoor.PRange
open Go.RowKit Go.Proofs.YthoimblkpcikdaaGreatDoor.Mc Go.Proofs.YthoimblkpcikdaaGreatDoor.Plain
set_option linter.unusedSimpArgs false
set_option linter.unusedVariables false
theorem MA {α:Type}:∀ {l:List α} {j:Nat} {a:α},l[j]? = some a->(a :: l.eraseIdx j).Perm l
 | [],_,_,h=>by simp at h
 | x :: l,0,a,h=>by
   cases h
   exact List.Perm.refl _
 | x :: l,j+1,a,h=>by
   have ih:=MA (l:=l) (j:=j) (a:=a) (by simpa using h)
   rw [List.eraseIdx_cons_succ]
   exact (List.Perm.swap x a _).trans (List.Perm.cons x ih)
theorem El {ε σ S β R:Type}{f:S->(S->Option R)->(β->Option R)->Option R}(st:List ε->σ->S)(fn:σ->β)(step:σ->ε->σ)(Inv:Nat->σ->Prop)
   (hf0:∀ a Kin Kout,f (st [] a) Kin Kout=Kout (fn a))
   (hf1:∀ rest a Kin Kout,rest ≠ []->Inv rest.length a->f (st rest a) Kin Kout=JB rest fun j e=>Kin (st (rest.eraseIdx j) (step a e)))
   (hI:∀ n a e,Inv (n+1) a->Inv n (step a e)) (KK:β->Option R) (r:R):∀ (n k:Nat) (rest:List ε) (a:σ),rest.length=n->n < k->Inv n a->(∀ q:List ε,q.Perm rest->KK (fn (q.foldl step a))=some r)->EN f k (st rest a) KK=some r
 | 0,k,rest,a,hr,hk,_,h=>by
   obtain ⟨k,rfl⟩:∃ q,k=q+1:=⟨k - 1,by omega⟩
   have:rest=[]:=List.eq_nil_of_length_eq_zero hr
   subst this
   show f (st [] a) _ KK=_
   rw [hf0]
   exact h [] (List.Perm.refl _)
 | n+1,k,rest,a,hr,hk,hi,h=>by
   obtain ⟨k,rfl⟩:∃ q,k=q+1:=⟨k - 1,by omega⟩
   have hne:rest ≠ []:=by rintro rfl; simp at hr
   show f (st rest a) (fun b=>EN f k b KK) KK=_
   rw [hf1 rest a _ _ hne (by rw [hr]; exact hi)]
   refine dt hne fun j e hj=>?_
   have hp:=MA hj
   have hlen:=hp.length_eq
   rw [List.length_cons] at hlen
   refine El st fn step Inv hf0 hf1 hI KK r n k (rest.eraseIdx j) (step a e) (by omega) (by omega) (hI n a e hi) fun q hq=>?_
   exact h (e :: q) ((List.Perm.cons e hq).trans hp)
theorem FN {α β:Type}(h:α->β):∀ (q:List α) (a:List β),q.foldl (fun l x=>l ++ [h x]) a=a ++ q.map h
 | [],a=>by simp
 | x :: q,a=>by rw [List.foldl_cons,FN h q,List.map_cons,List.append_assoc]; rfl
end Go.Proofs.YthoimblkpcikdaaGreatDoor.PRange
