/- ViewStages' plain law. -/
import Derived.Test.YtnpgfcedmdnemaaDoorPViewRef
import Derived.Test.YtnpgfcedmdnemaaDoorPMkR1
namespace Go.Proofs.YtnpgfcedmdnemaaDoor.PureViewStages
open Go.RowKit Go.Proofs.YtnpgfcedmdnemaaDoor.Mc Go.Proofs.YtnpgfcedmdnemaaDoor.N Go.Proofs.YtnpgfcedmdnemaaDoor.Plain Go.Proofs.YtnpgfcedmdnemaaDoor.PureRune Go.Proofs.YtnpgfcedmdnemaaDoor.PureKeys Go.Proofs.YtnpgfcedmdnemaaDoor.PSort Go.Proofs.YtnpgfcedmdnemaaDoor.PBatch1 Go.Proofs.YtnpgfcedmdnemaaDoor.PMk Go.Proofs.YtnpgfcedmdnemaaDoor.PMkR Go.Proofs.YtnpgfcedmdnemaaDoor.PMkR1 Go.Proofs.YtnpgfcedmdnemaaDoor.PView Go.Proofs.YtnpgfcedmdnemaaDoor.PViewRef
open Go.Proofs.YtnpgfcedmdnemaaDoor.PFd (fdn fo fdn_some fdn_snoc reffind1_run)
open Go.Proofs.YtnpgfcedmdnemaaDoor.PHand (Sm hk hk_mem hk_size hv hv_size key_run val_run)
set_option linter.unusedSimpArgs false
set_option linter.unusedVariables false
theorem names_right : ∀ s ∈ namesT, F44 100 s = some true := by decide +kernel
theorem hk_right (n : Int) : kr (hk n) = true := by
  have h := kr_run 100 (hk n) (by omega)
  rw [names_right _ (hk_mem n)] at h
  exact (Option.some.inj h).symm
def sw (x : Sm) : Wr := (hk x.1, x.2.1, if x.2.1 then ByteArray.empty else hv x.2.2 x.1)
def Inv (i : Nat) (s : Int × List Rd × List Wr × List Wr) : Prop := s.1 = (i : Int) ∧ (kl s.2.2.2).Nodup ∧ Says s.2.2.2 s.2.2.1 ∧ s.2.2.2.length ≤ 8 ∧ Small2 s.2.2.1 ∧ Small2 s.2.2.2 ∧ s.2.2.1.length ≤ i
theorem law (x1 : List Sm) (g : gdT [.sl (.int .i64 (.bool (.str .nil)))] x1) (b : blkT [.sl (.int .i64 (.bool (.str .nil)))] x1 ≤ 1048576) : ∃ k, F3 k x1 = some true := by
  refine ⟨2000000, ?_⟩
  have hK : 2000000 ≤ 2000000 := Nat.le_refl _
  have b' : (x1.map fun z : Sm => (z.2.2.size + 0) + 1).sum ≤ 1048576 := b
  have sum_mem : ∀ (ns : List Nat) (n : Nat), n ∈ ns → n ≤ ns.sum := fun ns => by
    induction ns with
    | nil => intro n h; simp at h
    | cons m ns ih =>
      intro n h
      rw [List.sum_cons]
      rcases List.mem_cons.1 h with rfl | h
      · omega
      · have := ih n h; omega
  have hx : ∀ x ∈ x1, x.2.2.size ≤ 1000000000 := fun x hx => by
    have := sum_mem _ _ (List.mem_map.2 ⟨x, hx, rfl⟩ : _ ∈ x1.map fun z : Sm => (z.2.2.size + 0) + 1)
    omega
  have hloop : ∃ R all W, loopN (L3_18 2000000 x1) 2000000 (0, ([] : List Rd), ([] : List Wr), ([] : List Wr)) = some (.inr (R, all, W)) ∧ Says W all ∧ W.length ≤ 8 ∧ Small2 all ∧ Small2 W ∧ all.length ≤ 40 := by
    have := loop_inv (f := L3_18 2000000 x1) (a := (0, ([] : List Rd), ([] : List Wr), ([] : List Wr))) (k := 2000000) Inv (fun r => ∃ R all W, r = .inr (R, all, W) ∧ Says W all ∧ W.length ≤ 8 ∧ Small2 all ∧ Small2 W ∧ all.length ≤ 40) (min 40 x1.length) ⟨rfl, List.nodup_nil, fun _ => rfl, Nat.zero_le _, fun w hw => by simp at hw, fun w hw => by simp at hw, Nat.zero_le _⟩ (by omega) (fun i s hi hs => ?_) (fun s hs => ?_)
    · obtain ⟨r, h1, R, all, W, rfl, h2⟩ := this
      exact ⟨R, all, W, h1, h2⟩
    · obtain ⟨n, R, all, W⟩ := s
      obtain ⟨rfl, hnd, hsay, h8, hsa, hsw, hal⟩ := hs
      dsimp only at hnd hsay h8 hsa hsw hal
      have hil : i < x1.length := by omega
      have hright := hk_right x1[i].1
      have hksz := hk_size x1[i].1
      have hvsz : (sw x1[i]).2.2.size ≤ 48 := by
        unfold sw
        dsimp only
        split
        · exact Nat.zero_le _
        · exact hv_size _ _
      -- the call
      have hcall : ((cond (sw x1[i]).2.1 ((F13 2000000 (sw x1[i]).1 R W).bind fun y => some (y.1, y.2.1, y.2.2)) ((F14 2000000 (sw x1[i]).1 (sw x1[i]).2.2 R W).bind fun y => some (y.1, y.2.1, y.2.2))) : Option (Int × List Rd × List Wr)) = some (match stg W (sw x1[i]) with | some V => (0, R, V) | none => (12, R, W)) := by
        have hst : stage W (sw x1[i]) = match stg W (sw x1[i]) with | some V => (0, V) | none => (12, W) := by
          unfold stage
          rw [if_neg (by rw [show kr (sw x1[i]).1 = true from hright]; decide), if_neg (by omega)]
          cases stg W (sw x1[i]) <;> rfl
        cases hd : (sw x1[i]).2.1 with
        | true =>
          have e : ((sw x1[i]).1, true, ByteArray.empty) = sw x1[i] := by
            have hd' : x1[i].2.1 = true := hd
            unfold sw
            rw [hd']; rfl
          rw [cond_true, del_run _ hK _ _ _ (by omega), e, hst, Option.bind_some]
          cases stg W (sw x1[i]) <;> rfl
        | false =>
          have e : ((sw x1[i]).1, false, (sw x1[i]).2.2) = sw x1[i] := by rw [← hd]
          rw [cond_false, put_run _ hK _ _ _ _ (by omega), e, hst, Option.bind_some]
          cases stg W (sw x1[i]) <;> rfl
      have hw : ((cond (!x1[i].2.1) ((F12 2000000 x1[i].2.2 x1[i].1).bind fun y178 => some (hk x1[i].1, x1[i].2.1, y178)) (some (hk x1[i].1, x1[i].2.1, ByteArray.empty))) : Option Wr) = some (sw x1[i]) := by
        unfold sw
        cases hd : x1[i].2.1 with
        | true => rfl
        | false =>
          rw [Bool.not_false, cond_true, val_run _ (by omega) _ _ (hx _ (List.getElem_mem hil))]; rfl
      have hnone := stg_none (w := sw x1[i]) hnd hsay
      unfold L3_18
      dsimp only
      rw [condT (by omega), decide_eq_true (by omega : (i : Int) < 40), Option.bind_some, cond_true]
      simp only [ixn, List.getElem?_eq_getElem hil, Option.bind_some, key_run]
      rw [hw, Option.bind_some, hcall, Option.bind_some, reffind1_run _ _ _ (by omega) hK, Option.bind_some, refkeys1_run _ _ hsa (by omega) hK, Option.bind_some]
      have hdone : ∀ (R2 : List Rd) (all2 W2 : List Wr), (kl W2).Nodup → Says W2 all2 → W2.length ≤ 8 → Small2 all2 → Small2 W2 → all2.length ≤ i + 1 →
          ∃ b : Int × List Rd × List Wr × List Wr, (some (.inl ((IntKind.wrap .i64 ((i : Int) + 1)), R2, all2, W2)) : Option ((Int × List Rd × List Wr × List Wr) ⊕ ((List Rd × List Wr) ⊕ (List Rd × List Wr × List Wr)))) = some (.inl b) ∧ Inv (i + 1) b := fun R2 all2 W2 a1 a2 a3 a4 a5 a6 => ⟨(((i + 1 : Nat) : Int), R2, all2, W2), by rw [w64 (by omega) (by omega)]; rfl, rfl, a1, a2, a3, a4, a5, a6⟩
      have hws : (sw x1[i]).1.size ≤ 1000000 ∧ (sw x1[i]).2.2.size ≤ 1000000 := ⟨by show (hk x1[i].1).size ≤ _; omega, by omega⟩
      cases hst : stg W (sw x1[i]) with
      | some V =>
        have hok : ((cond (fo (fdn all (sw x1[i]).1 all.length)).2.2.2 (cond (!(((0 : Int) == 0) == true)) (some true) (cond ((0 : Int) != 0) (some ((0 : Int) != 12)) (some false))) (cond (!(((0 : Int) == 0) == decide (((ks all).length : Int) < 8))) (some true) (cond ((0 : Int) != 0) (some ((0 : Int) != 12)) (some false)))) : Option Bool) = some false := by
          cases hf : fdn all (sw x1[i]).1 all.length with
          | some v => rfl
          | none =>
            have h8' : (ks all).length < 8 := by
              false_or_by_contra
              rename_i hge
              have := hnone.2 ⟨hf, by omega⟩
              rw [hst] at this
              cases this
            have hd : decide (((ks all).length : Int) < 8) = true := decide_eq_true (by omega)
            rw [hd]; rfl
        dsimp only
        rw [hok, Option.bind_some, cond_false]
        rw [show ((0 : Int) == 0) = true from rfl, cond_true, grdD (by simp only [List.length_singleton]; omega), Option.bind_some]
        obtain ⟨h1, h2⟩ := stg_says hnd hsay hst
        refine hdone R (all ++ [sw x1[i]]) V h1 h2 (stg_len hst h8) (fun v hv => ?_) (fun v hv => ?_) (by simp; omega)
        · rcases List.mem_append.1 hv with hv | hv
          · exact hsa v hv
          · rw [List.mem_singleton] at hv
            subst hv; exact hws
        · rcases stg_mem hst hv with rfl | hv
          · exact hws
          · exact hsw v hv
      | none =>
        obtain ⟨hf, hge⟩ := hnone.1 hst
        have hd : decide (((ks all).length : Int) < 8) = false := decide_eq_false (by omega)
        dsimp only
        rw [hf, hd]
        exact hdone R all W hnd hsay h8 hsa hsw (by omega)
    · obtain ⟨n, R, all, W⟩ := s
      obtain ⟨rfl, hnd, hsay, h8, hsa, hsw, hal⟩ := hs
      dsimp only at hnd hsay h8 hsa hsw hal
      refine ⟨.inr (R, all, W), ?_, R, all, W, rfl, hsay, h8, hsa, hsw, by omega⟩
      unfold L3_18
      dsimp only
      by_cases h : min 40 x1.length < x1.length
      · rw [condT (by omega), decide_eq_false (by omega)]; rfl
      · rw [condF (by omega)]; rfl
  obtain ⟨R, all, W, h1, h2, h3, h4, h5, h6⟩ := hloop
  unfold F3 F9
  rw [Option.bind_some, PView.alive _ hK, Option.bind_some]
  simp only [Bool.not_true, cond_false, Option.bind_some]
  rw [h1, Option.bind_some]
  show (F18 2000000 R W).bind _ = _
  rw [staged_run _ hK _ _ h5 (by omega), Option.bind_some, refmake_run _ _ h4 (by omega) hK, Option.bind_some, h2.mk]
  have := mk_len all
  rw [PBook.sameW1_run _ _ (by omega) (by omega)]; rfl
end Go.Proofs.YtnpgfcedmdnemaaDoor.PureViewStages
