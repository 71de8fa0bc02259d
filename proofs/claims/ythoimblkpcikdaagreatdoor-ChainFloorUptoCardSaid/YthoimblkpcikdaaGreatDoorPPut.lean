/- Entries laid at their keys' places; sets of numbers. -/
import Derived.Test.YthoimblkpcikdaaGreatDoorPAssocI
namespace Go.Proofs.YthoimblkpcikdaaGreatDoor.PPut
open Go.RowKit Go.Proofs.YthoimblkpcikdaaGreatDoor.Mc Go.Proofs.YthoimblkpcikdaaGreatDoor.PAssocI
set_option linter.unusedSimpArgs false
set_option linter.unusedVariables false
variable {α:Type}
theorem Gg (k:Int)(v:α):∀ (es:List (Int × α)),(Ff k v es).Perm ((k,v) :: es)
 | []=>List.Perm.refl _
 | x :: l=>by
   unfold Ff
   cases decide (k < x.1) with
   | true=>exact List.Perm.refl _
   | false=>exact (List.Perm.cons x (Gg k v l)).trans (List.Perm.swap _ _ _)
theorem SP (k k':Int) (v:α):∀ {es:List (Int × α)},Ae DQ es k=none->Ae DQ (Ff k v es) k' = if k=k' then some v else Ae DQ es k'
 | [],_=>by
   simp only [Ff,Ae,CL]
   by_cases h:k=k' <;> simp [h]
 | x :: l,h=>by
   have hx:¬ x.1=k:=by
     intro e
     simp only [Ae,CL,decide_eq_true e,cond_true] at h
     cases h
   have hl:Ae DQ l k=none:=by
     simp only [Ae,CL,decide_eq_false hx,cond_false] at h
     exact h
   have ih:=SP k k' v hl
   unfold Ff
   by_cases h1:k < x.1
   · rw [decide_eq_true h1,cond_true]
     by_cases h2:k=k'
     · simp [Ae,CL,h2]
     · simp [Ae,CL,h2]
   · rw [decide_eq_false h1,cond_false]
     simp only [Ae,CL,ih]
     by_cases h2:x.1=k'
     · have h3:¬ k=k':=fun e=>hx (h2.trans e.symm)
       simp [h2,h3]
     · simp [h2]
theorem GQ (k k':Int)(v:α)(es:List (Int × α)):Ae DQ (Bb es k v) k' = if k=k' then some v else Ae DQ es k':=by
 unfold Bb
 cases h:Ae DQ es k with
 | some _=>exact VM k k' v es
 | none=>exact SP k k' v h
theorem PU {k:Int}{v:α}{es:List (Int × α)}(h:ND es):ND (Bb es k v):=by
 unfold Bb
 cases hg:Ae DQ es k with
 | some _=>exact iw h
 | none =>
   unfold ND at h ⊢
   have hp:=(Gg k v es).map (·.1)
   exact hp.nodup_iff.2 (List.nodup_cons.2 ⟨(get_none k es).1 hg,h⟩)
theorem Qi (k:Int)(v:α)(es:List (Int × α)):(Bb es k v).length<=es.length+1:=by
 unfold Bb
 cases hg:Ae DQ es k with
 | some _=>exact eC k v es
 | none =>
   have:=(Gg k v es).length_eq
   rw [List.length_cons] at this
   show (Ff k v es).length<=_
   omega
theorem Zv (k x:Int) (v:α) (es:List (Int × α)):x ∈ (Bb es k v).map (·.1) ↔ x=k\/x ∈ es.map (·.1):=by
 have h1:=get_none x (Bb es k v)
 have h2:=get_none x es
 rw [GQ] at h1
 by_cases h:k=x
 · rw [if_pos h] at h1
   constructor
   · intro _; exact .inl h.symm
   · intro _
     apply Decidable.byContradiction
     intro hn
     cases h1.2 hn
 · rw [if_neg h] at h1
   constructor
   · intro q
     refine .inr (Decidable.byContradiction fun hn=>?_)
     exact h1.1 (h2.2 hn) q
   · rintro (q | q)
     · exact absurd q.symm h
     · exact Decidable.byContradiction fun hn=>h2.1 (h1.2 hn) q
def SK (es:List (Int × α)):Prop:=es.Pairwise fun a b=>a.1 < b.1
theorem SK.nd {es:List (Int × α)}(h:SK es):ND es:=by
 unfold ND List.Nodup
 rw [List.pairwise_map]
 exact h.imp fun {a b} q=>by omega
theorem VX {k:Int} {v:α}:∀ {es:List (Int × α)},SK es->k ∉ es.map (·.1)->SK (Ff k v es)
 | [],_,_=>List.pairwise_singleton _ _
 | x :: l,h,hk=>by
   have hc:=List.pairwise_cons.1 h
   have hx:k ≠ x.1:=fun e=>hk (by rw [List.map_cons]; exact List.mem_cons.2 (.inl e))
   have hl:k ∉ l.map (·.1):=fun e=>hk (by rw [List.map_cons]; exact List.mem_cons.2 (.inr e))
   unfold Ff
   by_cases h1:k < x.1
   · rw [decide_eq_true h1,cond_true]
     refine List.pairwise_cons.2 ⟨fun b hb=>?_,h⟩
     rcases List.mem_cons.1 hb with rfl | hb
     · exact h1
     · have:=hc.1 b hb
       show k < b.1
       omega
   · rw [decide_eq_false h1,cond_false]
     refine List.pairwise_cons.2 ⟨fun b hb=>?_,VX hc.2 hl⟩
     rcases List.mem_cons.1 ((Gg k v l).mem_iff.1 hb) with rfl | hb
     · show x.1 < k
       omega
     · exact hc.1 b hb
theorem jX {k:Int}{v:α}:∀ {es:List (Int × α)},SK es->k ∈ es.map (·.1)->SK (CR DQ es k v)
 | es,h,hk=>by
   have hkeys:=IJ k v es
   rw [if_pos hk] at hkeys
   unfold SK at h ⊢
   have h1:(es.map (·.1)).Pairwise (· < ·):=List.pairwise_map.2 h
   rw [<- hkeys] at h1
   exact List.pairwise_map.1 h1
theorem jP {k:Int}{v:α}{es:List (Int × α)}(h:SK es):SK (Bb es k v):=by
 unfold Bb
 cases hg:Ae DQ es k with
 | some _ =>
   refine jX h (Decidable.byContradiction fun hn=>?_)
   rw [(get_none k es).2 hn] at hg
   cases hg
 | none=>exact VX h ((get_none k es).1 hg)
structure SM (m:List (Int × Bool))(l:List Int):Prop where
 sk:SK m
 tr:∀ e ∈ m,e.2=true
 mem:∀ x,x ∈ m.map (·.1) ↔ x ∈ l
theorem SM.nil:SM [] []:=⟨List.Pairwise.nil,fun e he=>by simp at he,fun x=>by simp⟩
theorem SM.get {m:List (Int × Bool)}{l:List Int}(h:SM m l)(x:Int):(Ae DQ m x).getD false=decide (x ∈ l):=by
 by_cases hx:x ∈ l
 · rw [decide_eq_true hx]
   obtain ⟨e,he,h1⟩:=List.mem_map.1 ((h.mem x).2 hx)
   have h2:=h.tr e he
   rw [GX h.sk.nd (show (x,true) ∈ m by rw [<- h1,<- h2]; exact he)]
   rfl
 · rw [decide_eq_false hx,(get_none x m).2 fun q=>hx ((h.mem x).1 q)]
   rfl
theorem SM.put {m:List (Int × Bool)}{l:List Int}(h:SM m l)(k:Int){l':List Int}(hl:∀ x,x ∈ l' ↔ x=k\/x ∈ l):SM (Bb m k true) l':=by
 refine ⟨jP h.sk,fun e he=>?_,fun x=>by rw [Zv,h.mem,hl]⟩
 have h1:=GX (PU h.sk.nd) (show (e.1,e.2) ∈ Bb m k true from he)
 rw [GQ] at h1
 split at h1
 · exact (Option.some.inj h1).symm
 · exact h.tr _ (FX h1)
theorem bK:∀ {m m':List (Int × Bool)},SK m->SK m' -> (∀ e,e ∈ m ↔ e ∈ m')->m=m'
 | [],[],_,_,_=>rfl
 | [],y :: m', _,_,h=>absurd ((h y).2 (List.mem_cons_self ..)) (by simp)
 | x :: m,[],_,_,h=>absurd ((h x).1 (List.mem_cons_self ..)) (by simp)
 | x :: m,y :: m', h1,h2,h=>by
   have hx:=List.pairwise_cons.1 h1
   have hy:=List.pairwise_cons.1 h2
   have e:x=y:=by
     rcases List.mem_cons.1 ((h x).1 (List.mem_cons_self ..)) with q | q
     · exact q
     · rcases List.mem_cons.1 ((h y).2 (List.mem_cons_self ..)) with q2 | q2
       · exact q2.symm
       · have a:=hy.1 x q
         have b:=hx.1 y q2
         omega
   subst e
   rw [bK hx.2 hy.2 fun e=>?_]
   constructor
   · intro he
     rcases List.mem_cons.1 ((h e).1 (List.mem_cons_of_mem _ he)) with q | q
     · have:=hx.1 e he
       rw [q] at this
       omega
     · exact q
   · intro he
     rcases List.mem_cons.1 ((h e).2 (List.mem_cons_of_mem _ he)) with q | q
     · have:=hy.1 e he
       rw [q] at this
       omega
     · exact q
theorem SM.uniq {m m':List (Int × Bool)}{l l':List Int}(h:SM m l)(h':SM m' l')(hl:∀ x,x ∈ l ↔ x ∈ l'):m=m':=by
 refine bK h.sk h'.sk fun e=>?_
 have key:∀ {a b:List (Int × Bool)} {c d:List Int},SM a c->SM b d->(∀ x,x ∈ c->x ∈ d)->e ∈ a->e ∈ b:=by
   intro a b c d ha hb hcd he
   have h1:=hcd _ ((ha.mem e.1).1 (List.mem_map.2 ⟨e,he,rfl⟩))
   obtain ⟨e', he', h2⟩:=List.mem_map.1 ((hb.mem e.1).2 h1)
   have h3:=ha.tr e he
   have h4:=hb.tr e' he'
   have:e' = e:=Prod.ext h2 (h4.trans h3.symm)
   rw [<- this]; exact he'
 exact ⟨key h h' fun x=>(hl x).1,key h' h fun x=>(hl x).2⟩
theorem SM.len {m:List (Int × Bool)}{l:List Int}(h:SM m l)(hn:l.Nodup):m.length=l.length:=by
 have hp:(m.map (·.1)).Perm l:=(List.perm_ext_iff_of_nodup h.sk.nd hn).2 h.mem
 have:=hp.length_eq
 rwa [List.length_map] at this
end Go.Proofs.YthoimblkpcikdaaGreatDoor.PPut
