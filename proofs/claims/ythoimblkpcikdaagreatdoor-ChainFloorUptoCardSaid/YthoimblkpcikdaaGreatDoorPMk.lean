/- What Find, Keys and Make are, without code. -/
import Derived.Test.YthoimblkpcikdaaGreatDoorPBatch1
import Derived.Test.YthoimblkpcikdaaGreatDoorPFd
namespace Go.Proofs.YthoimblkpcikdaaGreatDoor.PMk
open Go.RowKit Go.Proofs.YthoimblkpcikdaaGreatDoor.Mc Go.Proofs.YthoimblkpcikdaaGreatDoor.N Go.Proofs.YthoimblkpcikdaaGreatDoor.Plain Go.Proofs.YthoimblkpcikdaaGreatDoor.PureRune Go.Proofs.YthoimblkpcikdaaGreatDoor.PureKeys Go.Proofs.YthoimblkpcikdaaGreatDoor.PSort Go.Proofs.YthoimblkpcikdaaGreatDoor.PSorted Go.Proofs.YthoimblkpcikdaaGreatDoor.PBatch1
open Go.Proofs.YthoimblkpcikdaaGreatDoor.PFd (Qp fo Hx)
set_option linter.unusedSimpArgs false
set_option linter.unusedVariables false
def Dm (l:List Wr):Prop:=∀ w ∈ l,w.1.size<=1000000/\w.2.2.size<=1000000
def kl (l:List Wr):List ByteArray:=l.map (·.1)
noncomputable def ks (l:List Wr):List ByteArray:=fA (kl l)
theorem TU (l:List Wr):(kl l).length=l.length:=List.length_map _
theorem aB {l:List Wr}(h:Dm l):Small (kl l):=fun a ha=>by
 obtain ⟨w,hw,rfl⟩:=List.mem_map.1 ha
 exact (h w hw).1
theorem YI (l:List Wr):(ks l).length<=l.length:=by have:=eA (kl l); rw [TU] at this; exact this
def mw (l:List Wr)(key:ByteArray):Wr :=
 let f:=fo (Qp l key l.length)
 (f.1,f.2.1,cond f.2.1 (⟨#[]⟩:ByteArray) f.2.2.1)
noncomputable def mk (l:List Wr):List Wr:=(ks l).map (mw l)
theorem iU (l:List Wr):(mk l).length<=l.length:=by unfold mk; rw [List.length_map]; exact YI l
theorem Zy (l:List Wr) (key:ByteArray):∀ (i:Nat),(∃ j w,j < i/\l[j]? = some w/\w.1=key)->i<=l.length->∃ w,Qp l key i=some w
 | 0,⟨j,w,h,_⟩,_=>by omega
 | i + 1,⟨j,w,h1,h2,h3⟩,hi=>by
   rw [Qp]
   have hli:l[i]? = some l[i]:=List.getElem?_eq_getElem (by omega)
   rw [hli]
   simp only
   cases hb:l[i].1.toList == key.toList with
   | true=>exact ⟨_,rfl⟩
   | false =>
     refine Zy l key i ⟨j,w,?_,h2,h3⟩ (by omega)
     rcases Nat.lt_succ_iff_lt_or_eq.1 h1 with h | rfl
     · exact h
     · rw [hli] at h2
       cases h2
       rw [h3] at hb
       simp at hb
theorem eu {l:List Wr}{key:ByteArray}(h:key ∈ kl l):∃ w,w ∈ l/\w.1=key/\mw l key=(key,w.2.1,cond w.2.1 (⟨#[]⟩:ByteArray) w.2.2):=by
 obtain ⟨v,hv,rfl⟩:=List.mem_map.1 h
 obtain ⟨j,hj,e⟩:=List.getElem_of_mem hv
 obtain ⟨w,hw⟩:=Zy l v.1 l.length ⟨j,v,hj,by rw [List.getElem?_eq_getElem hj,e],rfl⟩ (Nat.le_refl _)
 obtain ⟨h1,h2⟩:=Hx l v.1 l.length hw
 refine ⟨w,h1,h2,?_⟩
 unfold mw
 rw [hw,<- h2]
 rfl
theorem QD {l:List Wr}{w:Wr}(h:w ∈ mk l):∃ v ∈ l,w=(v.1,v.2.1,cond v.2.1 (⟨#[]⟩:ByteArray) v.2.2):=by
 obtain ⟨k,hk,rfl⟩:=List.mem_map.1 h
 obtain ⟨v,h1,h2,h3⟩:=eu ((LN _ _).1 hk)
 exact ⟨v,h1,by rw [h3,h2]⟩
theorem ca (l:List Wr):kl (mk l)=ks l:=by
 unfold kl mk
 rw [List.map_map]
 have:∀ k ∈ ks l,((fun w:Wr=>w.1) ∘ mw l) k=k:=by
   intro k hk
   obtain ⟨w,_,_,h⟩:=eu ((LN _ _).1 hk)
   simp only [Function.comp,h]
 rw [List.map_congr_left this,List.map_id']
theorem PA {b:Bool}{s:ByteArray}{n:Nat}(h:s.size<=n):(cond b (⟨#[]⟩:ByteArray) s).size<=n:=by
 cases b
 · exact h
 · exact Nat.zero_le _
structure Bat (l:List Wr):Prop where
 ofParts ::
 sorted:(kl l).Pairwise (fun x y=>lt x y=true)
 keys:∀ w ∈ l,kr w.1=true
 Bk:∀ w ∈ l,w.2.2.size<=48
 oX:∀ w ∈ l,w.2.1=true->w.2.2=⟨#[]⟩
 one:1<=l.length
 most:l.length<=8
theorem made {l:List Wr} (hk:∀ w ∈ l,kr w.1=true) (hv:∀ w ∈ l,w.2.2.size<=48) (h1:1<=l.length) (h8:l.length<=8):Bat (mk l) where
 sorted:=by rw [ca]; exact Ml _
 keys w hw:=by
   obtain ⟨v,hv,rfl⟩:=QD hw
   exact hk v hv
 Bk w hw:=by
   obtain ⟨v,hm,rfl⟩:=QD hw
   exact PA (hv v hm)
 oX w hw hd:=by
   obtain ⟨v,hv,rfl⟩:=QD hw
   dsimp only at hd ⊢
   rw [hd]; rfl
 one := by
   cases l with
   | nil=>simp at h1
   | cons w l =>
     have:w.1 ∈ ks (w :: l):=(LN _ _).2 (by simp [kl])
     have:=List.length_pos_of_mem this
     unfold mk
     rw [List.length_map]; exact this
 most:=Nat.le_trans (iU l) h8
end Go.Proofs.YthoimblkpcikdaaGreatDoor.PMk
