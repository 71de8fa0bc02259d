/- AtomPlays' plain law. -/
import Derived.Test.YtfdglmgblmoakaaDoorPAtomStep
namespace Go.Proofs.YtfdglmgblmoakaaDoor.PureAtomPlays
open Go.RowKit Go.Proofs.YtfdglmgblmoakaaDoor.Mc Go.Proofs.YtfdglmgblmoakaaDoor.N Go.Proofs.YtfdglmgblmoakaaDoor.Plain Go.Proofs.YtfdglmgblmoakaaDoor.PureKeys Go.Proofs.YtfdglmgblmoakaaDoor.PFd Go.Proofs.YtfdglmgblmoakaaDoor.PAssoc Go.Proofs.YtfdglmgblmoakaaDoor.PAtom Go.Proofs.YtfdglmgblmoakaaDoor.PAtomKeys Go.Proofs.YtfdglmgblmoakaaDoor.PAtomRef Go.Proofs.YtfdglmgblmoakaaDoor.PAtomStep
open Go.Proofs.YtfdglmgblmoakaaDoor.PHand (Sm pick_run)
set_option linter.unusedSimpArgs false
set_option linter.unusedVariables false
theorem turn_loop (K : Nat) (R : List Wr) (hR : R.length ≤ 100000) (hK : 2000000 ≤ K) : ∃ S, loopN (L4_61 K) K (0, R) = some S := by
  have := loop_inv (f := L4_61 K) (a := (0, R)) (k := K) (fun i s => s.1 = (i : Int) ∧ s.2.length = R.length) (fun _ => True) R.length ⟨rfl, rfl⟩ (by omega) (fun i a hi ha => ?_) (fun a ha => ?_)
  · obtain ⟨r, h1, _⟩ := this
    exact ⟨r, h1⟩
  · obtain ⟨n, S⟩ := a
    obtain ⟨rfl, hS⟩ := ha
    dsimp only at hS
    have hi' : i < S.length := by omega
    refine ⟨(((i + 1 : Nat) : Int), S.set i (S[i].1, S[i].2.1, (⟨#[116, 117, 114, 110, 101, 100]⟩ : ByteArray))), ?_, rfl, by rw [List.length_set]; exact hS⟩
    unfold L4_61
    dsimp only
    rw [condT (by omega)]
    simp only [ixn, Int.toNat_natCast, List.getElem?_eq_getElem hi', Option.bind_some]
    rw [w64 (by omega) (by omega)]; rfl
  · obtain ⟨n, S⟩ := a
    obtain ⟨rfl, hS⟩ := ha
    dsimp only at hS
    refine ⟨S, ?_, trivial⟩
    unfold L4_61
    dsimp only
    rw [condF (by omega)]
/-- what holds before a round -/
def Inv (i : Nat) (s : Int × As × Es) : Prop := s.1 = (i : Int) ∧ Rel s.2.2 s.2.1 ∧ SmallA s.2.1 ∧ s.2.1.length ≤ i * 12
theorem law (x1 : List Stp) (g : gdT [.sl (.int .i64 (.int .u32 (.sl (.int .i64 (.bool (.str .nil))) (.sl (.str (.bool (.str .nil))) (.sl (.str .nil) (.bool .nil))))))] x1) (b : blkT [.sl (.int .i64 (.int .u32 (.sl (.int .i64 (.bool (.str .nil))) (.sl (.str (.bool (.str .nil))) (.sl (.str .nil) (.bool .nil))))))] x1 ≤ 1048576) : ∃ k, F4 k x1 = some true := by
  refine ⟨2000000, ?_⟩
  have hK : 2000000 ≤ 2000000 := Nat.le_refl _
  have b' : (x1.map fun z : Stp => ((z.2.2.1.map fun y : Sm => (y.2.2.size + 0) + 1).sum + ((z.2.2.2.1.map fun y : Wr => (y.1.size + (y.2.2.size + 0)) + 1).sum + ((z.2.2.2.2.1.map fun y : ByteArray => (y.size + 0) + 1).sum + 0))) + 1).sum ≤ 1048576 := b
  have hx : ∀ z ∈ x1, ∀ s ∈ z.2.2.1, s.2.2.size ≤ 1000000000 := fun z hz s hs => by
    have h1 := sum_mem _ _ (List.mem_map.2 ⟨z, hz, rfl⟩ : _ ∈ x1.map fun z : Stp => ((z.2.2.1.map fun y : Sm => (y.2.2.size + 0) + 1).sum + ((z.2.2.2.1.map fun y : Wr => (y.1.size + (y.2.2.size + 0)) + 1).sum + ((z.2.2.2.2.1.map fun y : ByteArray => (y.size + 0) + 1).sum + 0))) + 1)
    have h2 := sum_mem _ _ (List.mem_map.2 ⟨s, hs, rfl⟩ : _ ∈ z.2.2.1.map fun y : Sm => (y.2.2.size + 0) + 1)
    omega
  have hloop : ∃ L es, loopN (L4_18 2000000 x1) 2000000 (0, ([] : As), ([] : Es)) = some (.inr (L, es)) ∧ Rel es L ∧ L.length ≤ 1000 := by
    have := loop_inv (f := L4_18 2000000 x1) (a := (0, ([] : As), ([] : Es))) (k := 2000000) Inv (fun r => ∃ L es, r = .inr (L, es) ∧ Rel es L ∧ L.length ≤ 1000) (min 40 x1.length) ⟨rfl, Rel.nil, fun a ha => by simp at ha, Nat.zero_le _⟩ (by omega) (fun i s hi hs => ?_) (fun s hs => ?_)
    · obtain ⟨r, h1, L, es, rfl, h2, h3⟩ := this
      exact ⟨L, es, h1, h2, h3⟩
    · obtain ⟨n, L, es⟩ := s
      obtain ⟨rfl, hr, hsm, hlen⟩ := hs
      dsimp only at hr hsm hlen
      have hil : i < x1.length := by omega
      -- the round's two maps, whatever the step
      have fin : ∀ (L2 : As) (es2 : Es), Rel es2 L2 → SmallA L2 → L2.length ≤ (i + 1) * 12 →
          (F23 2000000 es2).bind (fun y445 => (F24 2000000 L2).bind fun y446 => (F22 2000000 y445.1 y446).bind fun y447 =>
            cond (!y447) (some (.inr (.inl (L2, y445.2)))) (some (.inl ((IntKind.wrap .i64 ((i : Int) + 1)), L2, y445.2)))) = (some (.inl (((i + 1 : Nat) : Int), L2, es2)) : Option ((Int × As × Es) ⊕ ((As × Es) ⊕ (As × Es)))) := by
        intro L2 es2 h1 h2 h3
        have hl := h1.len
        rw [PAtomKeys.keys_run _ hK es2 (h1.small h2) (by omega), Option.bind_some, refkeysof_run _ hK _ (by omega), Option.bind_some, h1.keys]
        have hkl : (kys es2).length ≤ 1000 := by rw [← h1.keys, List.length_map]; omega
        dsimp only
        rw [PBook.same_run _ _ (by omega) (by omega), Option.bind_some, Bool.not_true, cond_false, w64 (by omega) (by omega)]; rfl
      have hsk := PAtomStep.keys_run 2000000 hK x1[i]
      have hwr := PAtomStep.writes_run 2000000 hK x1[i] (hx _ (List.getElem_mem hil))
      have hskl := sk_len x1[i]
      have hswl := swr_len x1[i]
      unfold L4_18
      dsimp only
      rw [condT (by omega), decide_eq_true (by omega : (i : Int) < 40), Option.bind_some, cond_true, ixn, List.getElem?_eq_getElem hil, Option.bind_some, pick_run _ _ 8 (by omega) (by omega), Option.bind_some]
      by_cases h5 : x1[i].1 % 8 = 5
      · refine ⟨(((i + 1 : Nat) : Int), rf L (sk x1[i]), fg es (sk x1[i])), ?_, rfl, hr.fg, rf_small hsm, by have := rf_len (sk x1[i]) L; show (rf L (sk x1[i])).length ≤ _; omega⟩
        rw [beq_iff_eq.2 h5, cond_true, hsk, Option.bind_some, forget_run _ _ _ (by omega) (by omega), Option.bind_some, Option.bind_some, refforget_run _ hK _ _ (by omega) (by omega), Option.bind_some, Option.bind_some]
        exact fin (rf L (sk x1[i])) (fg es (sk x1[i])) hr.fg (rf_small hsm) (by have := rf_len (sk x1[i]) L; omega)
      · rw [beq_eq_false_iff_ne.2 h5, cond_false]
        by_cases h67 : x1[i].1 % 8 = 6 ∨ x1[i].1 % 8 = 7
        · have e67 : ((cond (x1[i].1 % 8 == 6) (some (x1[i].1 % 8 == 6)) (some (x1[i].1 % 8 == 7))) : Option Bool) = some true := by
            rcases h67 with h | h <;> rw [h] <;> rfl
          refine ⟨(((i + 1 : Nat) : Int), L, es), ?_, rfl, hr, hsm, by show L.length ≤ _; omega⟩
          rw [e67, Option.bind_some, cond_true, hsk, Option.bind_some, get1_run _ _ _ (by omega) (by omega), Option.bind_some, Option.bind_some, refget_run _ hK _ _ (by omega) (by omega), Option.bind_some]
          rw [show (sk x1[i]).map (rg L) = (sk x1[i]).map (gt es) from List.map_congr_left fun k _ => hr.get k, same0 _ _ (by rw [List.length_map]; omega) hK, Option.bind_some, Bool.not_true, cond_false, Option.bind_some]
          exact fin L es hr hsm (by omega)
        · have e67 : ((cond (x1[i].1 % 8 == 6) (some (x1[i].1 % 8 == 6)) (some (x1[i].1 % 8 == 7))) : Option Bool) = some false := by
            rw [beq_eq_false_iff_ne.2 (fun e => h67 (.inl e)), cond_false, beq_eq_false_iff_ne.2 (fun e => h67 (.inr e))]
          obtain ⟨S, hS⟩ := turn_loop 2000000 (swr x1[i]) (by omega) hK
          have hl2 := rc_len x1[i].2.1 (swr x1[i]) L
          refine ⟨(((i + 1 : Nat) : Int), rc x1[i].2.1 L (swr x1[i]), cm x1[i].2.1 es (swr x1[i])), ?_, rfl, hr.cm, rc_small hsm (swr_small _), by show (rc x1[i].2.1 L (swr x1[i])).length ≤ _; omega⟩
          rw [e67, Option.bind_some, cond_false, hwr, Option.bind_some, commit1_run _ _ _ _ (by omega) (by omega), Option.bind_some, hS, Option.bind_some, Option.bind_some, refcommit_run _ hK _ _ _ (by omega) (by omega) hsm (swr_small _), Option.bind_some, Option.bind_some]
          exact fin (rc x1[i].2.1 L (swr x1[i])) (cm x1[i].2.1 es (swr x1[i])) hr.cm (rc_small hsm (swr_small _)) (by omega)
    · obtain ⟨n, L, es⟩ := s
      obtain ⟨rfl, hr, hsm, hlen⟩ := hs
      dsimp only at hr hsm hlen
      refine ⟨.inr (L, es), ?_, L, es, rfl, hr, by omega⟩
      unfold L4_18
      dsimp only
      by_cases h : min 40 x1.length < x1.length
      · rw [condT (by omega), decide_eq_false (by omega)]; rfl
      · rw [condF (by omega)]; rfl
  obtain ⟨L, es, h1, h2, h3⟩ := hloop
  unfold F4 F6
  rw [Option.bind_some, alive _ hK, Option.bind_some, Bool.not_true, cond_false, Option.bind_some, cond_false, h1, Option.bind_some]
  show (F24 2000000 L).bind _ = _
  rw [refkeysof_run _ hK L (by omega), Option.bind_some]
  dsimp only
  rw [get1_run _ _ _ (by rw [List.length_map]; omega) (by rw [List.length_map]; omega), Option.bind_some, h2.all, same1 _ _ (by omega) hK]; rfl
end Go.Proofs.YtfdglmgblmoakaaDoor.PureAtomPlays
