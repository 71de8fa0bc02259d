/- Of whole runes the order of runes is that of bytes. -/
import Derived.Test.YtobfoiomjfdjjaaDoorPureCmp
import Derived.Test.YtobfoiomjfdjjaaDoorPureJoin
namespace Go.Proofs.YtobfoiomjfdjjaaDoor.PureBytes
open Go.RowKit Go.Proofs.YtobfoiomjfdjjaaDoor.Mc Go.Proofs.YtobfoiomjfdjjaaDoor.N Go.Proofs.YtobfoiomjfdjjaaDoor.Plain Go.Proofs.YtobfoiomjfdjjaaDoor.PureRune Go.Proofs.YtobfoiomjfdjjaaDoor.PureKeys Go.Proofs.YtobfoiomjfdjjaaDoor.PureCmp Go.Proofs.YtobfoiomjfdjjaaDoor.PureHead
set_option linter.unusedSimpArgs false
set_option linter.unusedVariables false
def Sz (x:Nat):List Nat :=
 if x < 128 then [x]
 else if x < 2048 then [192+x / 64,128+x % 64]
 else if x < 65536 then [224+x / 4096,128+x / 64 % 64,128+x % 64]
 else [240+x / 262144,128+x / 4096 % 64,128+x / 64 % 64,128+x % 64]
def Bq:List Nat->List Nat->Bool
 | _,[]=>false
 | [],_ :: _=>true
 | x :: xs,y :: ys=>decide (x < y) || (x == y && Bq xs ys)
theorem MJ (u v:List Nat):∀ (a:List Nat),Bq (a ++ u) (a ++ v)=Bq u v
 | []=>rfl
 | x :: a=>by
   simp only [List.cons_append,Bq,MJ u v a,BEq.rfl,Bool.true_and,show decide (x < x)=false from decide_eq_false (by omega),Bool.false_or]
theorem En:∀ (a b:List Nat),Bq a b=true->Bq b a=false
 | _,[],h=>by simp [Bq] at h
 | [],_ :: _,_=>rfl
 | x :: xs,y :: ys,h=>by
   have ih:=En xs ys
   simp only [Bq,Bool.or_eq_true,Bool.and_eq_true,decide_eq_true_eq,beq_iff_eq] at h
   simp only [Bq,Bool.or_eq_false_iff,Bool.and_eq_false_iff,decide_eq_false_iff_not,beq_eq_false_iff_ne]
   rcases h with h | ⟨rfl,h⟩
   · exact ⟨by omega,.inl (by omega)⟩
   · exact ⟨by omega,.inr (ih h)⟩
theorem Vi {x y:Nat}(h:x < y)(u v:List Nat):Bq (Sz x ++ u) (Sz y ++ v)=true:=by
 unfold Sz
 repeat' split
 all_goals
   simp only [List.cons_append,List.nil_append,Bq,Bool.or_eq_true,Bool.and_eq_true,decide_eq_true_eq,beq_iff_eq]
   omega
def E (A:List Nat):List Nat:=A.flatMap Sz
theorem Vu (x:Nat):∃ b l,Sz x=b :: l:=by
 unfold Sz
 repeat' split
 all_goals exact ⟨_,_,rfl⟩
theorem order:∀ (L M:List (Nat × Nat)),Bq (E (L.map (·.1))) (E (M.map (·.1)))=decide (cmp (rs L) (rs M) < 0)
 | [],[]=>rfl
 | [],y :: M=>by
   obtain ⟨b,l,e⟩:=Vu y.1
   simp only [List.map_nil,List.map_cons,E,List.flatMap_cons,List.flatMap_nil,e,List.cons_append]
   rfl
 | x :: L,[]=>by
   obtain ⟨b,l,e⟩:=Vu x.1
   simp only [List.map_nil,List.map_cons,E,List.flatMap_cons,List.flatMap_nil,e,List.cons_append]
   rfl
 | x :: L,y :: M=>by
   have ih:=order L M
   simp only [E] at ih
   simp only [List.map_cons,E,List.flatMap_cons,rs,cmp]
   by_cases h:x.1=y.1
   · rw [h,MJ,ih,if_pos rfl]; rfl
   · rw [if_neg (by omega)]
     by_cases h2:x.1 < y.1
     · rw [Vi h2,if_pos (by omega)]; rfl
     · rw [En _ _ (Vi (by omega:y.1 < x.1) _ _),if_neg (by omega)]; rfl
theorem SF:∀ (a b:List UInt8),Op.bytesLess a b=Bq (a.map UInt8.toNat) (b.map UInt8.toNat)
 | [],[]=>rfl
 | _ :: _,[]=>rfl
 | [],_ :: _=>rfl
 | x :: xs,y :: ys=>by
   simp only [Op.bytesLess,List.map_cons,Bq,SF xs ys]
   have e1:decide (x < y)=decide (x.toNat < y.toNat):=rfl
   have e2:(x == y)=(x.toNat == y.toNat):=by
     rw [Bool.eq_iff_iff,beq_iff_eq,beq_iff_eq]
     exact ⟨fun h=>by rw [h],fun h=>UInt8.toNat_inj.1 h⟩
   rw [e1,e2]
theorem cmp_eq:∀ (A B:List Int),cmp A B=0->A=B
 | [],[],_=>rfl
 | [],_ :: _,h=>by cases h
 | _ :: _,[],h=>by cases h
 | x :: xs,y :: ys,h=>by
   unfold cmp at h
   split at h
   · rename_i e; rw [e,cmp_eq xs ys h]
   · split at h <;> omega
theorem uniq {s:ByteArray}:∀ {p:Nat} {A B:List (Nat × Nat)},Runes s p A->Runes s p B->A=B:=by
 intro p A B hA
 induction hA generalizing B with
 | nil p h=>intro hB; cases hB with
   | nil=>rfl
   | cons _ h'=>exact absurd h' h
 | cons p h L t ih=>intro hB; cases hB with
   | nil _ h'=>exact absurd h h'
   | cons _ _ L' t'=>rw [ih t']
theorem Vp {s:ByteArray}:∀ {p:Nat} {L:List (Nat × Nat)},Runes s p L->p<=s.size->s.size<=p+4 * L.length
 | _,_,.nil p h,_=>by simp only [List.length_nil]; omega
 | _,_,.cons p h L t,hp=>by
   have h1:=Vp t (Ts s p h)
   have h2:=Qt s p
   simp only [List.length_cons]; omega
end Go.Proofs.YtobfoiomjfdjjaaDoor.PureBytes
