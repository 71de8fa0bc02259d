/- What the reference's BatchKeys and BatchMake compute. -/
import Derived.Test.YthoimblkpcikdaaGreatDoorPMk
namespace Go.Proofs.YthoimblkpcikdaaGreatDoor.PMkR
open Go.RowKit Go.Proofs.YthoimblkpcikdaaGreatDoor.Mc Go.Proofs.YthoimblkpcikdaaGreatDoor.N Go.Proofs.YthoimblkpcikdaaGreatDoor.Plain Go.Proofs.YthoimblkpcikdaaGreatDoor.PureRune Go.Proofs.YthoimblkpcikdaaGreatDoor.PureKeys Go.Proofs.YthoimblkpcikdaaGreatDoor.PSort Go.Proofs.YthoimblkpcikdaaGreatDoor.PSorted Go.Proofs.YthoimblkpcikdaaGreatDoor.PBatch1 Go.Proofs.YthoimblkpcikdaaGreatDoor.PMk
open Go.Proofs.YthoimblkpcikdaaGreatDoor.PFd (SB fo JH Ky)
set_option linter.unusedSimpArgs false
set_option linter.unusedVariables false
theorem AL {α:Type}{l:List α}{j:Nat}(h:j < l.length):l.take (j+1)=l.take j ++ [l[j]]:=by
 rw [List.take_add_one,List.getElem?_eq_getElem h]; rfl
theorem SN (K:Nat)(l:List Wr)(hs:DK l)(hl:l.length<=1000000)(hK:2000000<=K):fM K l=some (ks l):=by
 unfold fM
 rw [Ag (r:=kl l) (fun i=>((i:Int),kl (l.take i))) l.length (by rfl) (by omega) ?_ ?_,Option.bind_some,jl K hK (aB hs) (by rw [Uw]; exact hl),Option.bind_some]; rfl
 · intro i hi
   unfold VY
   rw [AE (by omega),Bz,List.getElem?_eq_getElem hi,Option.bind_some,Ak (by simp only [Uw,List.length_take,List.length_singleton]; omega),Aq (by omega) (by omega),AL hi,kl,kl,List.map_append]; rfl
 · unfold VY
   rw [AF (by omega),List.take_length]
theorem SR (K:Nat) (l:List Wr) (hs:DK l) (hl:l.length<=1000000) (hK:2000000<=K):ph K l=some (mk l):=by
 have hkl:=bj l
 unfold ph
 rw [SN K l hs hl hK,Option.bind_some,Ag (r:=mk l) (fun i=>((i:Int),((ks l).take i).map (mw l))) (ks l).length (by rfl) (by omega) ?_ ?_]; rfl
 · intro i hi
   unfold VV
   simp only [Bz,Int.toNat_natCast,List.getElem?_eq_getElem hi,Option.bind_some]
   rw [AE (by omega),Ky K l _ hl hK,Option.bind_some]
   have e:((cond (fo (SB l (ks l)[i] l.length)).2.1 (some ((fo (SB l (ks l)[i] l.length)).1,(fo (SB l (ks l)[i] l.length)).2.1,(⟨#[]⟩:ByteArray))) (some ((fo (SB l (ks l)[i] l.length)).1,(fo (SB l (ks l)[i] l.length)).2.1,(fo (SB l (ks l)[i] l.length)).2.2.1)):Option (ByteArray × Bool × ByteArray)))=some (mw l (ks l)[i]):=by
     unfold mw
     dsimp only
     cases (fo (SB l (ks l)[i] l.length)).2.1 <;> rfl
   rw [e,Option.bind_some,Ak (by simp only [List.length_map,List.length_take,List.length_singleton]; omega),Aq (by omega) (by omega),AL hi,List.map_append]; rfl
 · unfold VV
   rw [AF (by omega),List.take_length]; rfl
end Go.Proofs.YthoimblkpcikdaaGreatDoor.PMkR
