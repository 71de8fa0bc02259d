/- What Find, Keys and Make are, without code. -/
import Derived.Test.YtobfoiomjfdjjaaDoorPBatch1
import Derived.Test.YtobfoiomjfdjjaaDoorPFd
namespace Go.Proofs.YtobfoiomjfdjjaaDoor.PMk
open Go.RowKit Go.Proofs.YtobfoiomjfdjjaaDoor.Mc Go.Proofs.YtobfoiomjfdjjaaDoor.N Go.Proofs.YtobfoiomjfdjjaaDoor.Plain Go.Proofs.YtobfoiomjfdjjaaDoor.PureRune Go.Proofs.YtobfoiomjfdjjaaDoor.PureKeys Go.Proofs.YtobfoiomjfdjjaaDoor.PSort Go.Proofs.YtobfoiomjfdjjaaDoor.PSorted Go.Proofs.YtobfoiomjfdjjaaDoor.PBatch1
open Go.Proofs.YtobfoiomjfdjjaaDoor.PFd (Lo fo Du)
set_option linter.unusedSimpArgs false
set_option linter.unusedVariables false
def DI (l:List Wr):Prop:=∀ w ∈ l,w.1.size<=1000000/\w.2.2.size<=1000000
def kl (l:List Wr):List ByteArray:=l.map (·.1)
noncomputable def ks (l:List Wr):List ByteArray:=YN (kl l)
theorem Jg (l:List Wr):(kl l).length=l.length:=List.length_map _
theorem VG {l:List Wr}(h:DI l):Small (kl l):=fun a ha=>by
 obtain ⟨w,hw,rfl⟩:=List.mem_map.1 ha
 exact (h w hw).1
theorem Uy (l:List Wr):(ks l).length<=l.length:=by have:=Rx (kl l); rw [Jg] at this; exact this
def mw (l:List Wr)(key:ByteArray):Wr :=
 let f:=fo (Lo l key l.length)
 (f.1,f.2.1,cond f.2.1 (⟨#[]⟩:ByteArray) f.2.2.1)
noncomputable def mk (l:List Wr):List Wr:=(ks l).map (mw l)
theorem Ys (l:List Wr):(mk l).length<=l.length:=by unfold mk; rw [List.length_map]; exact Uy l
theorem QD (l:List Wr) (key:ByteArray):∀ (i:Nat),(∃ j w,j < i/\l[j]? = some w/\w.1=key)->i<=l.length->∃ w,Lo l key i=some w
 | 0,⟨j,w,h,_⟩,_=>by omega
 | i + 1,⟨j,w,h1,h2,h3⟩,hi=>by
   rw [Lo]
   have hli:l[i]? = some l[i]:=List.getElem?_eq_getElem (by omega)
   rw [hli]
   simp only
   cases hb:l[i].1.toList == key.toList with
   | true=>exact ⟨_,rfl⟩
   | false =>
     refine QD l key i ⟨j,w,?_,h2,h3⟩ (by omega)
     rcases Nat.lt_succ_iff_lt_or_eq.1 h1 with h | rfl
     · exact h
     · rw [hli] at h2
       cases h2
       rw [h3] at hb
       simp at hb
theorem Ya {l:List Wr}{key:ByteArray}(h:key ∈ kl l):∃ w,w ∈ l/\w.1=key/\mw l key=(key,w.2.1,cond w.2.1 (⟨#[]⟩:ByteArray) w.2.2):=by
 obtain ⟨v,hv,rfl⟩:=List.mem_map.1 h
 obtain ⟨j,hj,e⟩:=List.getElem_of_mem hv
 obtain ⟨w,hw⟩:=QD l v.1 l.length ⟨j,v,hj,by rw [List.getElem?_eq_getElem hj,e],rfl⟩ (Nat.le_refl _)
 obtain ⟨h1,h2⟩:=Du l v.1 l.length hw
 refine ⟨w,h1,h2,?_⟩
 unfold mw
 rw [hw,<- h2]
 rfl
theorem RI {l:List Wr}{w:Wr}(h:w ∈ mk l):∃ v ∈ l,w=(v.1,v.2.1,cond v.2.1 (⟨#[]⟩:ByteArray) v.2.2):=by
 obtain ⟨k,hk,rfl⟩:=List.mem_map.1 h
 obtain ⟨v,h1,h2,h3⟩:=Ya ((JZ _ _).1 hk)
 exact ⟨v,h1,by rw [h3,h2]⟩
theorem XU (l:List Wr):kl (mk l)=ks l:=by
 unfold kl mk
 rw [List.map_map]
 have:∀ k ∈ ks l,((fun w:Wr=>w.1) ∘ mw l) k=k:=by
   intro k hk
   obtain ⟨w,_,_,h⟩:=Ya ((JZ _ _).1 hk)
   simp only [Function.comp,h]
 rw [List.map_congr_left this,List.map_id']
theorem Tb {b:Bool}{s:ByteArray}{n:Nat}(h:s.size<=n):(cond b (⟨#[]⟩:ByteArray) s).size<=n:=by
 cases b
 · exact h
 · exact Nat.zero_le _
structure ba (l:List Wr):Prop where
 ofParts ::
 sorted:(kl l).Pairwise (fun x y=>lt x y=true)
 keys:∀ w ∈ l,kr w.1=true
 Bb:∀ w ∈ l,w.2.2.size<=48
 eO:∀ w ∈ l,w.2.1=true->w.2.2=⟨#[]⟩
 one:1<=l.length
 most:l.length<=8
theorem UX {l:List Wr}(hs:(kl l).Pairwise (fun x y=>lt x y=true)){w:Wr}(hw:w ∈ l):Lo l w.1 l.length=some w:=by
 obtain ⟨j,hj,e⟩:=List.getElem_of_mem hw
 obtain ⟨v,hv⟩:=QD l w.1 l.length ⟨j,w,hj,by rw [List.getElem?_eq_getElem hj,e],rfl⟩ (Nat.le_refl _)
 obtain ⟨h1,h2⟩:=Du l w.1 l.length hv
 obtain ⟨i,hi,e2⟩:=List.getElem_of_mem h1
 rw [hv]
 congr 1
 have key:∀ a b:Nat,(ha:a < l.length)->(hb:b < l.length)->a < b->l[a].1 ≠ l[b].1:=by
   intro a b ha hb hab h
   have:=List.pairwise_iff_getElem.1 hs a b (by rw [Jg]; exact ha) (by rw [Jg]; exact hb) hab
   unfold kl at this
   rw [List.getElem_map,List.getElem_map,h,lt_irrefl] at this
   cases this
 rcases Nat.lt_trichotomy i j with h | h | h
 · exact absurd (by rw [e2,e,h2]) (key i j hi hj h)
 · subst h; rw [<- e2,<- e]
 · exact absurd (by rw [e2,e,h2]) (key j i hj hi h)
theorem Wa {l:List Wr}(hs:(kl l).Pairwise (fun x y=>lt x y=true)):ks l=kl l :=
 Ih (Kc _) hs fun x=>JZ _ x
theorem ba.again {l:List Wr}(h:ba l):mk l=l:=by
 unfold mk
 rw [Wa h.sorted]
 unfold kl
 rw [List.map_map]
 have:∀ w ∈ l,(mw l ∘ fun w:Wr=>w.1) w=w:=by
   intro w hw
   simp only [Function.comp,mw,UX h.sorted hw,fo]
   cases hd:w.2.1 with
   | false=>rw [cond_false,<- hd]
   | true=>rw [cond_true,<- h.eO w hw hd,<- hd]
 rw [List.map_congr_left this,List.map_id']
theorem made {l:List Wr} (hk:∀ w ∈ l,kr w.1=true) (hv:∀ w ∈ l,w.2.2.size<=48) (h1:1<=l.length) (h8:l.length<=8):ba (mk l) where
 sorted:=by rw [XU]; exact Kc _
 keys w hw:=by
   obtain ⟨v,hv,rfl⟩:=RI hw
   exact hk v hv
 Bb w hw:=by
   obtain ⟨v,hm,rfl⟩:=RI hw
   exact Tb (hv v hm)
 eO w hw hd:=by
   obtain ⟨v,hv,rfl⟩:=RI hw
   dsimp only at hd ⊢
   rw [hd]; rfl
 one := by
   cases l with
   | nil=>simp at h1
   | cons w l =>
     have:w.1 ∈ ks (w :: l):=(JZ _ _).2 (by simp [kl])
     have:=List.length_pos_of_mem this
     unfold mk
     rw [List.length_map]; exact this
 most:=Nat.le_trans (Ys l) h8
end Go.Proofs.YtobfoiomjfdjjaaDoor.PMk
