/- The regions that count, by their epochs: the program's order. -/
import Derived.Test.YthoimblkpcikdaaGreatDoorPAssocI
import Derived.Test.YthoimblkpcikdaaGreatDoorPPut
import Derived.Test.YthoimblkpcikdaaGreatDoorPRange
import Derived.Test.YthoimblkpcikdaaGreatDoorPJoin
namespace Go.Proofs.YthoimblkpcikdaaGreatDoor.PWalk
open Go.RowKit Go.Proofs.YthoimblkpcikdaaGreatDoor.Mc Go.Proofs.YthoimblkpcikdaaGreatDoor.N Go.Proofs.YthoimblkpcikdaaGreatDoor.Plain Go.Proofs.YthoimblkpcikdaaGreatDoor.PAssocI Go.Proofs.YthoimblkpcikdaaGreatDoor.PRange
open Go.Proofs.YthoimblkpcikdaaGreatDoor.PJoin (Fr)
open Go.Proofs.YthoimblkpcikdaaGreatDoor.PPut (GQ PU Qi)
set_option linter.unusedSimpArgs false
set_option linter.unusedVariables false
abbrev Rg:Type:=Int × Int × List Fr × Bool
abbrev Es:Type:=List (Int × Rg)
def jT (x:List Rg)(f:Rg):Prop:=f ∈ x/\f.2.1 ≠ 0/\∀ g ∈ x,g.2.1=f.2.1->g.1<=f.1
structure WS (x W:List Rg):Prop where
 bS:W.Pairwise fun a b=>a.2.1 < b.2.1
 mem:∀ f,f ∈ W ↔ jT x f
 nW:∀ g ∈ x,g.2.1 ≠ 0->∃ f ∈ W,f.2.1=g.2.1
theorem SF:∀ {W W':List Rg},W.Pairwise (fun a b=>a.2.1 < b.2.1)->W'.Pairwise (fun a b=>a.2.1 < b.2.1)->(∀ f,f ∈ W ↔ f ∈ W')->W=W'
 | [],[],_,_,_=>rfl
 | [],b :: W', _,_,h=>absurd ((h b).2 (by simp)) (by simp)
 | a :: W,[],_,_,h=>absurd ((h a).1 (by simp)) (by simp)
 | a :: W,b :: W', p,q,h=>by
   obtain ⟨p1,p2⟩:=List.pairwise_cons.1 p
   obtain ⟨q1,q2⟩:=List.pairwise_cons.1 q
   have e:a=b:=by
     rcases List.mem_cons.1 ((h a).1 (by simp)) with e | h1
     · exact e
     · rcases List.mem_cons.1 ((h b).2 (by simp)) with e | h2
       · exact e.symm
       · have:=q1 a h1
         have:=p1 b h2
         omega
   subst e
   rw [SF p2 q2 fun f=>?_]
   constructor
   · intro hf
     rcases List.mem_cons.1 ((h f).1 (List.mem_cons_of_mem _ hf)) with rfl | h1
     · have:=p1 f hf; omega
     · exact h1
   · intro hf
     rcases List.mem_cons.1 ((h f).2 (List.mem_cons_of_mem _ hf)) with rfl | h1
     · have:=q1 f hf; omega
     · exact h1
theorem WS.uniq {x W W':List Rg}(h:WS x W)(h':WS x W'):W=W':=SF h.bS h'.bS fun f=>(h.mem f).trans (h'.mem f).symm
def RN (x:List Rg):Prop:=(x.map (·.1)).Nodup
theorem RN.same {x:List Rg}(h:RN x){f g:Rg}(hf:f ∈ x)(hg:g ∈ x)(e:f.1=g.1):f=g:=by
 obtain ⟨i,hi,rfl⟩:=List.getElem_of_mem hf
 obtain ⟨j,hj,rfl⟩:=List.getElem_of_mem hg
 have hp:=List.pairwise_iff_getElem.1 h
 rcases Nat.lt_trichotomy i j with hij | rfl | hij
 · have:=hp i j (by simpa using hi) (by simpa using hj) hij
   simp only [List.getElem_map] at this
   exact absurd e this
 · rfl
 · have:=hp j i (by simpa using hj) (by simpa using hi) hij
   simp only [List.getElem_map] at this
   exact absurd e.symm this
def Nr (es:Es)(f:Rg):Bool:=(f.2.1 != 0) && (match Ae DQ es f.2.1 with | none=>true | some o=>decide (o.1<=f.1))
def ins (es:Es)(f:Rg):Es:=if Nr es f then Bb es f.2.1 f else es
structure MI (x:List Rg)(es:Es):Prop where
 nd:ND es
 get:∀ e f,Ae DQ es e=some f ↔ (f.2.1=e/\jT x f)
 nW:∀ g ∈ x,g.2.1 ≠ 0->∃ o,Ae DQ es g.2.1=some o
theorem MI.nil:MI [] []:=⟨gA,fun e f=>⟨fun h=>by simp [Ae] at h,fun h=>absurd h.2.1 (by simp)⟩,fun g hg=>by simp at hg⟩
theorem MI.snoc {x:List Rg} {es:Es} {f:Rg} (h:MI x es) (hr:RN (x ++ [f])):MI (x ++ [f]) (ins es f):=by
 have hfx:f ∈ x ++ [f]:=by simp
 have hsub:∀ g ∈ x,g ∈ x ++ [f]:=fun g hg=>by simp [hg]
 have hne:∀ g ∈ x,g.1 ≠ f.1:=by
   intro g hg e
   have hnd:((x ++ [f]).map (·.1)).Nodup:=hr
   rw [List.map_append,List.nodup_append] at hnd
   exact hnd.2.2 g.1 (List.mem_map.2 ⟨g,hg,rfl⟩) f.1 (by simp) e
 have hcases:∀ g,g ∈ x ++ [f]->g ∈ x\/g=f:=fun g hg=>by simpa using hg
 unfold ins
 cases hb:Nr es f with
 | false =>
   rw [if_neg (by decide)]
   refine ⟨h.nd,fun e g=>?_,fun g hg hg0=>?_⟩
   · rw [h.get]
     refine and_congr_right fun he=>?_
     constructor
     · rintro ⟨h1,h2,h3⟩
       refine ⟨hsub g h1,h2,fun u hu hue=>?_⟩
       rcases hcases u hu with h4 | rfl
       · exact h3 u h4 hue
       · unfold Nr at hb
         rw [Bool.and_eq_false_iff] at hb
         rcases hb with hb | hb
         · simp only [bne_eq_false_iff_eq] at hb
           rw [hb] at hue
           exact absurd hue.symm h2
         · have hg:Ae DQ es u.2.1=some g:=(h.get _ _).2 ⟨hue.symm,h1,h2,h3⟩
           rw [hg] at hb
           simp only [decide_eq_false_iff_not] at hb
           omega
     · rintro ⟨h1,h2,h3⟩
       rcases hcases g h1 with h4 | rfl
       · exact ⟨h4,h2,fun u hu=>h3 u (hsub u hu)⟩
       · unfold Nr at hb
         rw [Bool.and_eq_false_iff] at hb
         rcases hb with hb | hb
         · simp only [bne_eq_false_iff_eq] at hb
           exact absurd hb h2
         · cases ho:Ae DQ es g.2.1 with
           | none=>rw [ho] at hb; simp at hb
           | some o =>
             rw [ho] at hb
             simp only [decide_eq_false_iff_not] at hb
             obtain ⟨k1,k2,_,_⟩:=(h.get _ _).1 ho
             have:=h3 o (hsub o k2) k1
             omega
   · rcases hcases g hg with h4 | rfl
     · exact h.nW g h4 hg0
     · unfold Nr at hb
       rw [Bool.and_eq_false_iff] at hb
       rcases hb with hb | hb
       · simp only [bne_eq_false_iff_eq] at hb
         exact absurd hb hg0
       · cases ho:Ae DQ es g.2.1 with
         | none=>rw [ho] at hb; simp at hb
         | some o=>exact ⟨o,rfl⟩
 | true =>
   rw [if_pos rfl]
   unfold Nr at hb
   rw [Bool.and_eq_true] at hb
   obtain ⟨hb1,hb2⟩:=hb
   have hf0:f.2.1 ≠ 0:=by simpa using hb1
   have hmax:∀ g ∈ x,g.2.1=f.2.1->g.1 < f.1:=by
     intro g hg hge
     obtain ⟨o,ho⟩:=h.nW g hg (by rw [hge]; exact hf0)
     rw [hge] at ho
     rw [ho] at hb2
     have hle:=of_decide_eq_true hb2
     obtain ⟨k1,k2,k3,k4⟩:=(h.get _ _).1 ho
     have:=k4 g hg (hge.trans k1.symm)
     have:=hne g hg
     omega
   refine ⟨PU h.nd,fun e g=>?_,fun g hg hg0=>?_⟩
   · rw [GQ]
     by_cases he:f.2.1=e
     · rw [if_pos he]
       constructor
       · intro hs
         cases hs
         refine ⟨he,hfx,hf0,fun u hu hue=>?_⟩
         rcases hcases u hu with h4 | rfl
         · have:=hmax u h4 hue; omega
         · exact Int.le_refl _
       · rintro ⟨k1,k2,k3,k4⟩
         rcases hcases g k2 with h4 | rfl
         · have:=hmax g h4 (k1.trans he.symm)
           have:=k4 f hfx (he.trans k1.symm)
           omega
         · rfl
     · rw [if_neg he,h.get]
       refine and_congr_right fun hge=>?_
       constructor
       · rintro ⟨h1,h2,h3⟩
         refine ⟨hsub g h1,h2,fun u hu hue=>?_⟩
         rcases hcases u hu with h4 | rfl
         · exact h3 u h4 hue
         · exact absurd (hue.trans hge) he
       · rintro ⟨h1,h2,h3⟩
         rcases hcases g h1 with h4 | rfl
         · exact ⟨h4,h2,fun u hu=>h3 u (hsub u hu)⟩
         · exact absurd hge he
   · rw [GQ]
     by_cases he:f.2.1=g.2.1
     · rw [if_pos he]; exact ⟨f,rfl⟩
     · rw [if_neg he]
       rcases hcases g hg with h4 | rfl
       · exact h.nW g h4 hg0
       · exact absurd rfl he
theorem MI.all:∀ {x:List Rg} (n:Nat),RN x->n<=x.length->MI (x.take n) ((x.take n).foldl ins [])
 | x,0,_,_=>by rw [List.take_zero]; exact MI.nil
 | x,n+1,h,hn=>by
   have ih:=MI.all (x:=x) n h (by omega)
   have e:x.take (n+1)=x.take n ++ [x[n]]:=by rw [List.take_add_one,List.getElem?_eq_getElem (by omega)]; rfl
   rw [e,List.foldl_append]
   refine ih.snoc ?_
   rw [<- e]
   exact List.Nodup.sublist ((List.take_sublist _ _).map _) h
theorem bn {x:List Rg} {es:Es} (h:MI x es) {q:Es} (hq:q.Perm es) (W:List Rg) (hp:W.Perm (q.map (·.2))) (hs:W.Pairwise fun a b=>a.2.1<=b.2.1):WS x W:=by
 have hkey:∀ p ∈ es,p.2.2.1=p.1:=fun p hp=>((h.get p.1 p.2).1 (GX h.nd hp)).1
 have hnd:(W.map fun f=>f.2.1).Nodup:=by
   have h1:((q.map (·.2)).map fun f:Rg=>f.2.1)=q.map (·.1):=by
     rw [List.map_map]
     exact List.map_congr_left fun p hp=>hkey p (hq.mem_iff.1 hp)
   refine ((hp.map fun f:Rg=>f.2.1).nodup_iff).2 ?_
   rw [h1]
   exact ((hq.map (fun p:Int × Rg=>p.1)).nodup_iff).2 h.nd
 have hmem:∀ f,f ∈ W ↔ jT x f:=by
   intro f
   rw [hp.mem_iff,List.mem_map]
   constructor
   · rintro ⟨p,hp', rfl⟩
     exact ((h.get p.1 p.2).1 (GX h.nd (hq.mem_iff.1 hp'))).2
   · intro hb
     exact ⟨(f.2.1,f),hq.mem_iff.2 (FX ((h.get _ _).2 ⟨rfl,hb⟩)),rfl⟩
 refine ⟨?_,hmem,fun g hg hg0=>?_⟩
 · have h2:W.Pairwise fun a b=>a.2.1 ≠ b.2.1:=List.pairwise_map.1 hnd
   exact (hs.and h2).imp fun h=>by omega
 · obtain ⟨o,ho⟩:=h.nW g hg hg0
   obtain ⟨k1,k2⟩:=(h.get _ _).1 ho
   exact ⟨o,(hmem o).2 k2,k1⟩
theorem LC (K:Nat)(a b:Rg):eO K a.1 a.2.1 a.2.2.1 a.2.2.2 b.1 b.2.1 b.2.2.1 b.2.2.2=some (if a.2.1 < b.2.1 then -1 else 1):=by
 unfold eO
 by_cases h:a.2.1 < b.2.1
 · rw [AK h,if_pos h]
 · rw [AJ h,if_neg h]
theorem FB (K:Nat)(a b:Rg):PK (fun a b:Rg=>eO K a.1 a.2.1 a.2.2.1 a.2.2.2 b.1 b.2.1 b.2.2.1 b.2.2.2) a b=decide (a.2.1 < b.2.1):=by
 unfold PK
 dsimp only
 rw [LC]
 by_cases h:a.2.1 < b.2.1
 · rw [if_pos h,decide_eq_true h]; rfl
 · rw [if_neg h,decide_eq_false h]; rfl
theorem Qd (K:Nat) {x:List Rg} {es:Es} (h:MI x es) {q:Es} (hq:q.Perm es) (hl:es.length<=1000000):∃ W,mD K (q.map (·.2))=some W/\WS x W/\W.length=es.length:=by
 unfold mD
 have hkey:∀ p ∈ es,p.2.2.1=p.1:=fun p hp=>((h.get p.1 p.2).1 (GX h.nd hp)).1
 have hnd:((q.map (·.2)).map fun f:Rg=>f.2.1).Nodup:=by
   have h1:((q.map (·.2)).map fun f:Rg=>f.2.1)=q.map (·.1):=by
     rw [List.map_map]
     exact List.map_congr_left fun p hp=>hkey p (hq.mem_iff.1 hp)
   rw [h1]
   exact ((hq.map (fun p:Int × Rg=>p.1)).nodup_iff).2 h.nd
 have Cd:LU (fun a b:Rg=>eO K a.1 a.2.1 a.2.2.1 a.2.2.2 b.1 b.2.1 b.2.2.1 b.2.2.2) (q.map (·.2)):=by
   refine ⟨fun a _ b _=>⟨_,LC K a b⟩,fun a _=>?_,fun a _ b _ c _=>?_,fun a _ b _ c _=>?_,?_,?_⟩
   · rw [FB]; exact decide_eq_false (by omega)
   · simp only [FB,decide_eq_true_eq]; omega
   · simp only [FB,decide_eq_false_iff_not]; omega
   · refine (List.pairwise_map.1 hnd).imp fun {a b} hab=>?_
     simp only [FB,decide_eq_true_eq]
     have hab':a.2.1 ≠ b.2.1:=hab
     omega
   · rw [List.length_map,hq.length_eq]; omega
 rw [Zw Cd]
 refine ⟨_,rfl,bn h hq _ (List.mergeSort_perm _ _) ?_,by rw [List.length_mergeSort,List.length_map,hq.length_eq]⟩
 have:=List.pairwise_mergeSort (le:=fun x y:Rg => !(PK (fun a b:Rg=>eO K a.1 a.2.1 a.2.2.1 a.2.2.2 b.1 b.2.1 b.2.2.1 b.2.2.2) y x)) (fun a b c=>by
   simp only [FB,Bool.not_eq_true', decide_eq_false_iff_not]; omega) (fun a b=>by
   simp only [FB,Bool.or_eq_true,Bool.not_eq_true', decide_eq_false_iff_not]; omega) (q.map (·.2))
 exact this.imp fun {a b} hab=>by
   simp only [FB,Bool.not_eq_true', decide_eq_false_iff_not] at hab
   omega
end Go.Proofs.YthoimblkpcikdaaGreatDoor.PWalk
