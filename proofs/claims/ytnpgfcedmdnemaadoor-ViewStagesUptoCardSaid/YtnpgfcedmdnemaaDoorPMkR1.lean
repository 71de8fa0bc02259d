/- BatchKeys, BatchMake of the reference at a list that is owned. -/
import Derived.Test.YtnpgfcedmdnemaaDoorPMkR
namespace Go.Proofs.YtnpgfcedmdnemaaDoor.PMkR1
open Go.RowKit Go.Proofs.YtnpgfcedmdnemaaDoor.Mc Go.Proofs.YtnpgfcedmdnemaaDoor.N Go.Proofs.YtnpgfcedmdnemaaDoor.Plain Go.Proofs.YtnpgfcedmdnemaaDoor.PureRune Go.Proofs.YtnpgfcedmdnemaaDoor.PureKeys Go.Proofs.YtnpgfcedmdnemaaDoor.PSort Go.Proofs.YtnpgfcedmdnemaaDoor.PSorted Go.Proofs.YtnpgfcedmdnemaaDoor.PBatch1 Go.Proofs.YtnpgfcedmdnemaaDoor.PMk Go.Proofs.YtnpgfcedmdnemaaDoor.PMkR
open Go.Proofs.YtnpgfcedmdnemaaDoor.PFd (fdn fo fdn_some reffind1_run)
set_option linter.unusedSimpArgs false
set_option linter.unusedVariables false
theorem refkeys1_run (K : Nat) (l : List Wr) (hs : Small2 l) (hl : l.length ≤ 1000000) (hK : 2000000 ≤ K) : F16_1 K l = some (ks l) := by
  unfold F16_1
  rw [loop_go (r := kl l) (fun i => ((i : Int), kl (l.take i))) l.length (by rfl) (by omega) ?_ ?_, Option.bind_some, ks_run K hK (kl_small hs) (by rw [kl_len]; exact hl), Option.bind_some]; rfl
  · intro i hi
    unfold L16_1_8
    simp only [ixn, Int.toNat_natCast, List.getElem?_eq_getElem hi, Option.bind_some]
    rw [condT (by omega), grdD (by simp only [kl_len, List.length_take, List.length_singleton]; omega), w64 (by omega) (by omega), take_snoc1 hi, kl, kl, List.map_append]; rfl
  · unfold L16_1_8
    rw [condF (by omega), List.take_length]
theorem refmake1_run (K : Nat) (l : List Wr) (hs : Small2 l) (hl : l.length ≤ 1000000) (hK : 2000000 ≤ K) : F19_1 K l = some (mk l) := by
  have hkl := ks_len l
  unfold F19_1
  rw [refkeys1_run K l hs hl hK, Option.bind_some, loop_go (r := mk l) (fun i => ((i : Int), ((ks l).take i).map (mw l))) (ks l).length (by rfl) (by omega) ?_ ?_]; rfl
  · intro i hi
    unfold L19_1_10
    simp only [ixn, Int.toNat_natCast, List.getElem?_eq_getElem hi, Option.bind_some]
    rw [condT (by omega), reffind1_run K l _ hl hK, Option.bind_some]
    have e : ((cond (fo (fdn l (ks l)[i] l.length)).2.1 (some ((fo (fdn l (ks l)[i] l.length)).1, (fo (fdn l (ks l)[i] l.length)).2.1, (⟨#[]⟩ : ByteArray))) (some ((fo (fdn l (ks l)[i] l.length)).1, (fo (fdn l (ks l)[i] l.length)).2.1, (fo (fdn l (ks l)[i] l.length)).2.2.1)) : Option (ByteArray × Bool × ByteArray))) = some (mw l (ks l)[i]) := by
      unfold mw
      dsimp only
      cases (fo (fdn l (ks l)[i] l.length)).2.1 <;> rfl
    rw [e, Option.bind_some, grdD (by simp only [List.length_map, List.length_take, List.length_singleton]; omega), w64 (by omega) (by omega), take_snoc1 hi, List.map_append]; rfl
  · unfold L19_1_10
    rw [condF (by omega), List.take_length]; rfl
end Go.Proofs.YtnpgfcedmdnemaaDoor.PMkR1
