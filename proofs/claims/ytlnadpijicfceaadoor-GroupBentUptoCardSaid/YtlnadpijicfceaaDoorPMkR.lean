/- What the reference's BatchKeys and BatchMake compute. -/
import Derived.Test.YtlnadpijicfceaaDoorPMk
namespace Go.Proofs.YtlnadpijicfceaaDoor.PMkR
open Go.RowKit Go.Proofs.YtlnadpijicfceaaDoor.Mc Go.Proofs.YtlnadpijicfceaaDoor.N Go.Proofs.YtlnadpijicfceaaDoor.Plain Go.Proofs.YtlnadpijicfceaaDoor.PureRune Go.Proofs.YtlnadpijicfceaaDoor.PureKeys Go.Proofs.YtlnadpijicfceaaDoor.PSort Go.Proofs.YtlnadpijicfceaaDoor.PSorted Go.Proofs.YtlnadpijicfceaaDoor.PBatch1 Go.Proofs.YtlnadpijicfceaaDoor.PMk
open Go.Proofs.YtlnadpijicfceaaDoor.PFd (fdn fo fdn_some reffind_run)
set_option linter.unusedSimpArgs false
set_option linter.unusedVariables false
theorem take_snoc1 {α : Type} {l : List α} {j : Nat} (h : j < l.length) : l.take (j + 1) = l.take j ++ [l[j]] := by
  rw [List.take_add_one, List.getElem?_eq_getElem h]; rfl
theorem refkeys_run (K : Nat) (l : List Wr) (hs : Small2 l) (hl : l.length ≤ 1000000) (hK : 2000000 ≤ K) : F53 K l = some (ks l) := by
  unfold F53
  rw [loop_go (r := kl l) (fun i => ((i : Int), kl (l.take i))) l.length (by rfl) (by omega) ?_ ?_, Option.bind_some, ks_run K hK (kl_small hs) (by rw [kl_len]; exact hl), Option.bind_some]; rfl
  · intro i hi
    unfold L53_8
    rw [condT (by omega), ixn, List.getElem?_eq_getElem hi, Option.bind_some, grdD (by simp only [kl_len, List.length_take, List.length_singleton]; omega), w64 (by omega) (by omega), take_snoc1 hi, kl, kl, List.map_append]; rfl
  · unfold L53_8
    rw [condF (by omega), List.take_length]
theorem refmake_run (K : Nat) (l : List Wr) (hs : Small2 l) (hl : l.length ≤ 1000000) (hK : 2000000 ≤ K) : F27 K l = some (mk l) := by
  have hkl := ks_len l
  unfold F27
  rw [refkeys_run K l hs hl hK, Option.bind_some, loop_go (r := mk l) (fun i => ((i : Int), ((ks l).take i).map (mw l))) (ks l).length (by rfl) (by omega) ?_ ?_]; rfl
  · intro i hi
    unfold L27_10
    simp only [ixn, Int.toNat_natCast, List.getElem?_eq_getElem hi, Option.bind_some]
    rw [condT (by omega), reffind_run K l _ hl hK, Option.bind_some]
    have e : ((cond (fo (fdn l (ks l)[i] l.length)).2.1 (some ((fo (fdn l (ks l)[i] l.length)).1, (fo (fdn l (ks l)[i] l.length)).2.1, (⟨#[]⟩ : ByteArray))) (some ((fo (fdn l (ks l)[i] l.length)).1, (fo (fdn l (ks l)[i] l.length)).2.1, (fo (fdn l (ks l)[i] l.length)).2.2.1)) : Option (ByteArray × Bool × ByteArray))) = some (mw l (ks l)[i]) := by
      unfold mw
      dsimp only
      cases (fo (fdn l (ks l)[i] l.length)).2.1 <;> rfl
    rw [e, Option.bind_some, grdD (by simp only [List.length_map, List.length_take, List.length_singleton]; omega), w64 (by omega) (by omega), take_snoc1 hi, List.map_append]; rfl
  · unfold L27_10
    rw [condF (by omega), List.take_length]; rfl
end Go.Proofs.YtlnadpijicfceaaDoor.PMkR
