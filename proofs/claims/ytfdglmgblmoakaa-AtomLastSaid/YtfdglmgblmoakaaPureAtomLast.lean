/- AtomLast's plain law. -/
import Derived.Test.YtfdglmgblmoakaaPAtom
import Derived.Test.YtfdglmgblmoakaaPBook
namespace Go.Proofs.Ytfdglmgblmoakaa.PureAtomLast
open Go.RowKit Go.Proofs.Ytfdglmgblmoakaa.Mc Go.Proofs.Ytfdglmgblmoakaa.N Go.Proofs.Ytfdglmgblmoakaa.Plain Go.Proofs.Ytfdglmgblmoakaa.PFd Go.Proofs.Ytfdglmgblmoakaa.PAssoc Go.Proofs.Ytfdglmgblmoakaa.PAtom
set_option linter.unusedSimpArgs false
set_option linter.unusedVariables false
abbrev Z := ByteArray × Int × ByteArray × Bool × ByteArray × Int × Es
structure AI (i : Nat) (z : Z) : Prop where
  e1 : z.2.1 = (i : Int)
  e2 : z.2.2.1 = ByteArray.empty
  nd : ND z.2.2.2.2.2.2
  e3 : i = 0 → z.2.2.2.2.2.2 = [] ∧ z.2.2.2.1 = false ∧ z.2.2.2.2.1 = ByteArray.empty ∧ z.2.2.2.2.2.1 = 0
  e4 : gt z.2.2.2.2.2.2 z.1 = (z.1, z.2.2.2.1, z.2.2.2.2.1, z.2.2.2.2.2.1)
theorem gt_nil (k : ByteArray) : gt [] k = (k, false, ByteArray.empty, 0) := rfl
theorem step (K : Nat) (hK : 2000000 ≤ K) (x1 : List (List Wr)) (x3 : Int) (i : Nat) (hi : i < min x1.length 20) (z : Z) (h : AI i z) : ∃ b, L3_18 K x1 x3 z = some (.inl b) ∧ AI (i + 1) b := by
  obtain ⟨key, i', wk, is, val, fr, es⟩ := z
  obtain ⟨h1, h2, h3, h4, h5⟩ := h
  dsimp only at h1 h2 h3 h4 h5
  subst h1 h2
  have hil : i < x1.length := by omega
  have hw := PBook.writes_run K x1[i] 8 (by omega) (by omega)
  unfold L3_18
  dsimp only
  rw [condT (by omega), Option.bind_some, decide_eq_true (by omega), cond_true, ixn, List.getElem?_eq_getElem hil, Option.bind_some, show F7 K x1[i] 8 = _ from hw, Option.bind_some]
  have hwl : ((x1[i].take 8).map PBook.sw).length ≤ 8 := by rw [List.length_map, List.length_take]; omega
  generalize (x1[i].take 8).map PBook.sw = w at hwl
  -- the key
  have hkey : ∃ key', (((cond ((i : Int) == 0) (cond (decide (0 < (w.length : Int))) (some (decide (0 ≤ x3))) (some false)) (some false) : Option Bool)).bind fun y154 => cond y154 (grd ((w.length : Int) != 0) <| (ix w (x3.tmod (w.length : Int))).bind fun a155 => (w[(x3.tmod (w.length : Int)).toNat]?).bind fun a156 => some a156.1) (some key)) = some key' ∧ gt es key' = (key', is, val, fr) := by
    by_cases h0 : i = 0
    · obtain ⟨rfl, rfl, rfl, rfl⟩ := h4 h0
      have hany : ∀ q : ByteArray, gt [] q = (q, false, ByteArray.empty, 0) := gt_nil
      subst h0
      rw [show ((((0 : Nat) : Int)) == 0) = true from rfl, cond_true]
      by_cases hl : 0 < w.length
      · rw [condT (by omega), Option.bind_some]
        by_cases hx : 0 ≤ x3
        · rw [decide_eq_true hx, cond_true]
          have hm1 := Int.emod_nonneg x3 (show (w.length : Int) ≠ 0 by omega)
          have hm2 := Int.emod_lt_of_pos x3 (show (0 : Int) < w.length by omega)
          have ht : x3.tmod (w.length : Int) = x3 % (w.length : Int) := Int.tmod_eq_emod_of_nonneg hx
          rw [ht]
          obtain ⟨m, hm⟩ : ∃ m : Nat, x3 % (w.length : Int) = (m : Int) := ⟨(x3 % (w.length : Int)).toNat, by omega⟩
          rw [hm, ixn, Int.toNat_natCast, List.getElem?_eq_getElem (by omega), grdT (by rw [bne_iff_ne]; omega)]
          exact ⟨_, rfl, hany _⟩
        · rw [decide_eq_false hx]; exact ⟨key, rfl, hany _⟩
      · rw [condF (by omega)]; exact ⟨key, rfl, hany _⟩
    · rw [show ((i : Int) == 0) = false by rw [beq_eq_false_iff_ne]; omega]
      exact ⟨key, rfl, h5⟩
  obtain ⟨key', hk1, hk2⟩ := hkey
  rw [hk1, Option.bind_some, commit_run _ _ _ _ (by omega) (by omega), Option.bind_some, reffind_run _ _ _ (by omega) hK, Option.bind_some]
  have hwr : IntKind.wrap .u32 (i : Int) = (i : Int) := w32 (by omega) (by omega)
  rw [hwr, w64 (by omega) (by omega)]
  have hg := gt_cm (seq := (i : Int)) h3 key' w
  have hnd : ND (cm (i : Int) es w) := nd_cm h3
  cases hf : fdn w key' w.length with
  | none =>
    rw [hf] at hg
    exact ⟨_, rfl, by dsimp only; omega, rfl, hnd, fun h => by omega, by dsimp only; rw [hg]; exact hk2⟩
  | some v =>
    rw [hf] at hg
    obtain ⟨_, hvk⟩ := fdn_some _ _ _ hf
    dsimp only at hg
    unfold fo
    dsimp only
    rw [cond_true]
    cases hd : v.2.1 with
    | true =>
      rw [hd, if_pos rfl] at hg
      exact ⟨_, rfl, by dsimp only; omega, rfl, hnd, fun h => by omega, hg⟩
    | false =>
      rw [hd, if_neg (by decide)] at hg
      exact ⟨_, rfl, by dsimp only; omega, rfl, hnd, fun h => by omega, hg⟩
theorem law (x1 : List (List Wr)) (x2 : ByteArray) (x3 : Int) (g : gdT [.sl (.sl (.str (.bool (.str .nil))) .nil), .str, .int .i64] (x1, x2, x3)) : ∃ k, F3 k x1 x2 x3 = some true := by
  refine ⟨2000000, ?_⟩
  unfold F3 F5
  rw [Option.bind_some, alive _ (Nat.le_refl _), Option.bind_some, Bool.not_true, cond_false, Option.bind_some, cond_false]
  obtain ⟨r, h1, h2⟩ := loop_inv (f := L3_18 2000000 x1 x3) (a := (x2, 0, ByteArray.empty, false, ByteArray.empty, 0, [])) (k := 2000000) AI (fun r : ByteArray × ByteArray × Bool × ByteArray × Int × Es => gt r.2.2.2.2.2 r.1 = (r.1, r.2.2.1, r.2.2.2.1, r.2.2.2.2.1)) (min x1.length 20)
    ⟨rfl, rfl, nd_nil, fun _ => ⟨rfl, rfl, rfl, rfl⟩, rfl⟩ (by omega) (fun i a hi h => step _ (Nat.le_refl _) x1 x3 i hi a h) (fun a h => by
      obtain ⟨key, i', wk, is, val, fr, es⟩ := a
      obtain ⟨h1, h2, h3, h4, h5⟩ := h
      dsimp only at h1 h2 h3 h4 h5
      refine ⟨(key, wk, is, val, fr, es), ?_, h5⟩
      unfold L3_18
      dsimp only
      rw [h1]
      by_cases hc : min x1.length 20 < x1.length
      · rw [condT (by omega), Option.bind_some, decide_eq_false (by omega)]; rfl
      · rw [condF (by omega)]; rfl)
  rw [h1, Option.bind_some, get_run _ _ _ (by simp) (by simp), Option.bind_some]
  simp only [List.map_cons, List.map_nil, h2]
  simp [ix]
end Go.Proofs.Ytfdglmgblmoakaa.PureAtomLast
