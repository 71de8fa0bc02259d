/- What the reference's BatchKeys and BatchMake compute. -/
import Derived.Test.YthoimblkpcikdaaGreatDoorPMk
namespace Go.Proofs.YthoimblkpcikdaaGreatDoor.PMkR
open Go.RowKit Go.Proofs.YthoimblkpcikdaaGreatDoor.Mc Go.Proofs.YthoimblkpcikdaaGreatDoor.N Go.Proofs.YthoimblkpcikdaaGreatDoor.Plain Go.Proofs.YthoimblkpcikdaaGreatDoor.PureRune Go.Proofs.YthoimblkpcikdaaGreatDoor.PureKeys Go.Proofs.YthoimblkpcikdaaGreatDoor.PSort Go.Proofs.YthoimblkpcikdaaGreatDoor.PSorted Go.Proofs.YthoimblkpcikdaaGreatDoor.PBatch1 Go.Proofs.YthoimblkpcikdaaGreatDoor.PMk
open Go.Proofs.YthoimblkpcikdaaGreatDoor.PFd (Qp fo Hx Ki)
set_option linter.unusedSimpArgs false
set_option linter.unusedVariables false
theorem AM {α:Type}{l:List α}{j:Nat}(h:j < l.length):l.take (j+1)=l.take j ++ [l[j]]:=by
 rw [List.take_add_one,List.getElem?_eq_getElem h]; rfl
theorem Sn (K:Nat)(l:List Wr)(hs:Dm l)(hl:l.length<=1000000)(hK:2000000<=K):cC K l=some (ks l):=by
 unfold cC
 rw [BE (r:=kl l) (fun i=>((i:Int),kl (l.take i))) l.length (by rfl) (by omega) ?_ ?_,Option.bind_some,fc K hK (aB hs) (by rw [TU]; exact hl),Option.bind_some]; rfl
 · intro i hi
   unfold Tm
   rw [AK (by omega),DP,List.getElem?_eq_getElem hi,Option.bind_some,BB (by simp only [TU,List.length_take,List.length_singleton]; omega),BK (by omega) (by omega),AM hi,kl,kl,List.map_append]; rfl
 · unfold Tm
   rw [AJ (by omega),List.take_length]
theorem Sz (K:Nat) (l:List Wr) (hs:Dm l) (hl:l.length<=1000000) (hK:2000000<=K):nj K l=some (mk l):=by
 have hkl:=YI l
 unfold nj
 rw [Sn K l hs hl hK,Option.bind_some,BE (r:=mk l) (fun i=>((i:Int),((ks l).take i).map (mw l))) (ks l).length (by rfl) (by omega) ?_ ?_]; rfl
 · intro i hi
   unfold Ui
   simp only [DP,Int.toNat_natCast,List.getElem?_eq_getElem hi,Option.bind_some]
   rw [AK (by omega),Ki K l _ hl hK,Option.bind_some]
   have e:((cond (fo (Qp l (ks l)[i] l.length)).2.1 (some ((fo (Qp l (ks l)[i] l.length)).1,(fo (Qp l (ks l)[i] l.length)).2.1,(⟨#[]⟩:ByteArray))) (some ((fo (Qp l (ks l)[i] l.length)).1,(fo (Qp l (ks l)[i] l.length)).2.1,(fo (Qp l (ks l)[i] l.length)).2.2.1)):Option (ByteArray × Bool × ByteArray)))=some (mw l (ks l)[i]):=by
     unfold mw
     dsimp only
     cases (fo (Qp l (ks l)[i] l.length)).2.1 <;> rfl
   rw [e,Option.bind_some,BB (by simp only [List.length_map,List.length_take,List.length_singleton]; omega),BK (by omega) (by omega),AM hi,List.map_append]; rfl
 · unfold Ui
   rw [AJ (by omega),List.take_length]; rfl
end Go.Proofs.YthoimblkpcikdaaGreatDoor.PMkR
