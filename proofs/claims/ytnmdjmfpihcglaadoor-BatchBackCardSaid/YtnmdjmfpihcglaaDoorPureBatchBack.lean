/- BatchBack's plain law. -/
import Derived.Test.YtnmdjmfpihcglaaDoorPBatch4
import Derived.Test.YtnmdjmfpihcglaaDoorPureBatchRights
namespace Go.Proofs.YtnmdjmfpihcglaaDoor.PureBatchBack
open Go.RowKit Go.Proofs.YtnmdjmfpihcglaaDoor.Mc Go.Proofs.YtnmdjmfpihcglaaDoor.N Go.Proofs.YtnmdjmfpihcglaaDoor.Plain Go.Proofs.YtnmdjmfpihcglaaDoor.PureKeys Go.Proofs.YtnmdjmfpihcglaaDoor.PBatch1 Go.Proofs.YtnmdjmfpihcglaaDoor.PBatch2 Go.Proofs.YtnmdjmfpihcglaaDoor.PBatch3 Go.Proofs.YtnmdjmfpihcglaaDoor.PBatch4
open Go.Proofs.YtnmdjmfpihcglaaDoor.PureBatchRights (alive)
set_option linter.unusedSimpArgs false
set_option linter.unusedVariables false
theorem guard (K : Nat) (hK : 2000000 ≤ K) (l : List Wr) (hl : l.length ≤ 1000) : ∀ (m i k : Nat), i + m = l.length → m < k → (∀ j, j < i → ∀ w, l[j]? = some w → kr w.1 = true ∧ w.2.2.size ≤ 48) →
    loopN (L9_16 K l) k (i : Int) = some (.inl ()) ∨ (loopN (L9_16 K l) k (i : Int) = some (.inr ()) ∧ ∀ w ∈ l, kr w.1 = true ∧ w.2.2.size ≤ 48)
  | 0, i, k, hi, hk, hz => by
    obtain ⟨k, rfl⟩ : ∃ q, k = q + 1 := ⟨k - 1, by omega⟩
    refine .inr ⟨loop_end (by unfold L9_16; rw [condF (by omega)]), fun w hw => ?_⟩
    obtain ⟨j, hj, e⟩ := List.getElem_of_mem hw
    exact hz j (by omega) w (by rw [List.getElem?_eq_getElem hj, e])
  | m + 1, i, k, hi, hk, hz => by
    obtain ⟨k, rfl⟩ : ∃ q, k = q + 1 := ⟨k - 1, by omega⟩
    have hli : l[i]? = some l[i] := List.getElem?_eq_getElem (by omega)
    have body : L9_16 K l (i : Int) = cond (!(kr l[i].1) || decide (48 < l[i].2.2.size)) (some (.inr (.inl ()))) (some (.inl ((i + 1 : Nat) : Int))) := by
      unfold L9_16
      simp only [ixn, Int.toNat_natCast, hli, Option.bind_some]
      rw [condT (by omega), kr_run K _ (by omega), Option.bind_some, w64 (by omega) (by omega)]
      have e : decide (48 < (l[i].2.2.size : Int)) = decide (48 < l[i].2.2.size) := decide_eq_decide.2 (by omega)
      rw [e]
      cases kr l[i].1 <;> cases decide (48 < l[i].2.2.size) <;> rfl
    cases hb : (!(kr l[i].1) || decide (48 < l[i].2.2.size)) with
    | true =>
      rw [hb] at body
      exact .inl (loop_end body)
    | false =>
      rw [hb] at body
      rw [Bool.or_eq_false_iff, Bool.not_eq_false', decide_eq_false_iff_not] at hb
      rw [loop_step body]
      refine guard K hK l hl m (i + 1) k (by omega) (by omega) fun j hj w hw => ?_
      rcases Nat.lt_succ_iff_lt_or_eq.1 hj with h | rfl
      · exact hz j h w hw
      · rw [hli] at hw
        cases hw
        exact ⟨hb.1, by omega⟩
theorem law (x1 : List Wr) (g : gdT [.sl (.str (.bool (.str .nil)))] (x1)) : ∃ k, F9 k x1 = some true := by
  refine ⟨2000000, ?_⟩
  unfold F9
  have hw := PBook.writes_run 2000000 x1 8 (by omega) (by omega)
  have hs := sw_small x1 8
  have hn : ((x1.take 8).map PBook.sw).length ≤ 8 := by rw [List.length_map, List.length_take]; omega
  generalize (x1.take 8).map PBook.sw = l at *
  rw [alive, Option.bind_some, Bool.not_true, cond_false, show F13 2000000 x1 8 = some l from hw, Option.bind_some]
  rcases guard 2000000 (by omega) l (by omega) l.length 0 2000000 (by omega) (by omega) (fun j hj => by omega) with h | ⟨h, hk⟩
  · rw [show (0 : Int) = ((0 : Nat) : Int) from rfl, h]; rfl
  have hm := mk_len l
  rw [show (loopN (L9_16 2000000 l) 2000000 0) = some (.inr ()) from h, Option.bind_some]
  simp only [sel]
  rw [make_run _ _ hs (by omega) (by omega), Option.bind_some]
  rcases Nat.eq_zero_or_pos l.length with h0 | h0
  · rw [show ((l.length : Int) == 0) = true by rw [beq_iff_eq]; omega, cond_true, show (mk l).length = 0 by omega]; rfl
  rw [show ((l.length : Int) == 0) = false by rw [beq_eq_false_iff_ne]; omega, cond_false]
  have hb := made (fun w hw => (hk w hw).1) (fun w hw => (hk w hw).2) h0 hn
  have hms := mk_small hs
  rw [bytes_run _ _ hms (by omega), Option.bind_some]
  unfold bout
  rw [if_pos hb.bright]
  simp only []
  have hsz : (bb (mk l)).size ≤ 9223372036854775807 := by
    have := cat_size hms
    have := numsize (mk l).length (by omega)
    unfold bb
    rw [ByteArray.size_append]; omega
  rw [read_run _ (by omega) _ hsz, Option.bind_some, hb.back, right_run _ _ (by omega), Option.bind_some, hb.bright]
  simp only []
  rw [show ((0 : Int) == 0) = true from rfl, cond_true, cond_true, cond_true, PBook.sameW_run _ _ (by omega) (by omega), Option.bind_some, cond_true, make_run _ _ hms (by omega) (by omega), Option.bind_some, hb.again, PBook.sameW_run _ _ (by omega) (by omega), Option.bind_some, cond_true, keys_run _ _ hs (by omega) (by omega), Option.bind_some]
  have : (mk l).length = (ks l).length := by unfold mk; rw [List.length_map]
  rw [this]; simp
end Go.Proofs.YtnmdjmfpihcglaaDoor.PureBatchBack
