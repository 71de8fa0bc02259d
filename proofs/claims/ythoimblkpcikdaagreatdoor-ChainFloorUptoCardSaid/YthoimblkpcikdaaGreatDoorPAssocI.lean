/- Lists by a number as key: set, delete, look up. -/
import Derived.Test.YthoimblkpcikdaaGreatDoorPFd
namespace Go.Proofs.YthoimblkpcikdaaGreatDoor.PAssocI
open Go.RowKit Go.Proofs.YthoimblkpcikdaaGreatDoor.Mc Go.Proofs.YthoimblkpcikdaaGreatDoor.PFd
set_option linter.unusedSimpArgs false
set_option linter.unusedVariables false
variable {α:Type}
theorem CL (a b:Int):DQ a b=decide (a=b):=by
 unfold DQ
 by_cases h:a=b <;> simp [h]
theorem VM (k k':Int) (v:α):∀ (es:List (Int × α)),Ae DQ (CR DQ es k v) k' = if k=k' then some v else Ae DQ es k'
 | []=>by
   simp only [CR,Ae,CL]
   by_cases h:k=k' <;> simp [h]
 | x :: es=>by
   have ih:=VM k k' v es
   simp only [CR,CL]
   by_cases h:x.1=k
   · simp only [decide_eq_true h,cond_true,Ae,CL]
     by_cases h2:k=k'
     · simp [h2]
     · have h3:¬ x.1=k':=fun e=>h2 (h.symm.trans e)
       simp [h2,h3]
   · simp only [decide_eq_false h,cond_false,Ae,CL,ih]
     by_cases h2:x.1=k'
     · have h3:¬ k=k':=fun e=>h (h2.trans e.symm)
       simp [h2,h3]
     · simp [h2]
def ND (es:List (Int × α)):Prop:=(es.map (·.1)).Nodup
theorem gA:ND ([]:List (Int × α)):=List.nodup_nil
theorem get_none (k:Int):∀ (es:List (Int × α)),Ae DQ es k=none ↔ k ∉ es.map (·.1)
 | []=>by simp [Ae]
 | x :: es=>by
   have ih:=get_none k es
   simp only [Ae,CL,List.map_cons,List.mem_cons,not_or]
   by_cases h:x.1=k
   · simp [h]
   · have h':¬ k=x.1:=fun e=>h e.symm
     simp only [decide_eq_false h,cond_false,ih,h', not_false_eq_true,true_and]
theorem FX {k:Int} {v:α}:∀ {es:List (Int × α)},Ae DQ es k=some v->(k,v) ∈ es
 | x :: es,h=>by
   simp only [Ae,CL] at h
   by_cases hx:x.1=k
   · rw [decide_eq_true hx] at h
     cases h
     rw [<- hx]; simp
   · rw [decide_eq_false hx] at h
     exact List.mem_cons_of_mem _ (FX h)
theorem GX {k:Int} {v:α}:∀ {es:List (Int × α)},ND es->(k,v) ∈ es->Ae DQ es k=some v
 | x :: es,hn,h=>by
   have hn':x.1 ∉ es.map (·.1)/\(es.map (·.1)).Nodup:=List.nodup_cons.1 hn
   simp only [Ae,CL]
   rcases List.mem_cons.1 h with rfl | h
   · simp
   · have hne:¬ x.1=k:=fun e=>hn'.1 (e ▸ List.mem_map.2 ⟨_,h,rfl⟩)
     rw [decide_eq_false hne]
     exact GX hn'.2 h
theorem IJ (k:Int) (v:α):∀ (es:List (Int × α)),(CR DQ es k v).map (·.1)=if k ∈ es.map (·.1) then es.map (·.1) else es.map (·.1) ++ [k]
 | []=>by simp [CR]
 | x :: es=>by
   have ih:=IJ k v es
   simp only [CR,CL,List.map_cons,List.mem_cons]
   by_cases h:x.1=k
   · simp [h]
   · have h':¬ k=x.1:=fun e=>h e.symm
     simp only [decide_eq_false h,cond_false,List.map_cons,ih,h', false_or]
     split <;> simp
theorem iw {k:Int}{v:α}{es:List (Int × α)}(h:ND es):ND (CR DQ es k v):=by
 unfold ND at h ⊢
 rw [IJ]
 split
 · exact h
 · rename_i hk
   rw [List.nodup_append]
   refine ⟨h,by simp,fun a ha b hb=>?_⟩
   rw [List.mem_singleton] at hb
   subst hb
   rintro rfl
   exact hk ha
theorem eC (k:Int)(v:α)(es:List (Int × α)):(CR DQ es k v).length<=es.length+1:=by
 have:=congrArg List.length (IJ k v es)
 rw [List.length_map] at this
 rw [this]
 split <;> simp
end Go.Proofs.YthoimblkpcikdaaGreatDoor.PAssocI
