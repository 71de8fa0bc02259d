/- What the functions that read batches out of bytes compute. -/
import Derived.Test.YtlnadpijicfceaaDoorPBatch2
namespace Go.Proofs.YtlnadpijicfceaaDoor.PBatch3
open Go.RowKit Go.Proofs.YtlnadpijicfceaaDoor.Mc Go.Proofs.YtlnadpijicfceaaDoor.N Go.Proofs.YtlnadpijicfceaaDoor.Plain Go.Proofs.YtlnadpijicfceaaDoor.PureRune Go.Proofs.YtlnadpijicfceaaDoor.PureKeys Go.Proofs.YtlnadpijicfceaaDoor.MLay Go.Proofs.YtlnadpijicfceaaDoor.PLay Go.Proofs.YtlnadpijicfceaaDoor.PBatch1 Go.Proofs.YtlnadpijicfceaaDoor.PBatch2
set_option linter.unusedSimpArgs false
set_option linter.unusedVariables false
/-- one write out of its bytes -/
def ro (b : ByteArray) (at_ : Int) : ByteArray × Bool × ByteArray × Int × Int :=
  if (b.size : Int) ≤ at_ then (ByteArray.empty, false, ByteArray.empty, 0, 3)
  else if 1 < bt b at_ then (ByteArray.empty, false, ByteArray.empty, 0, 2)
  else
    let x := getText b (at_ + 1) 48
    if x.2.2 ≠ 0 ∨ bt b at_ = 1 then (x.1, bt b at_ == 1, ByteArray.empty, x.2.1, x.2.2)
    else
      let y := getText b x.2.1 48
      (x.1, bt b at_ == 1, y.1, y.2.1, y.2.2)
theorem text_pos {b : ByteArray} {at_ most : Int} (h : (getText b at_ most).2.2 = 0) (hm : most ≤ 1000) : 0 ≤ at_ ∧ at_ ≤ (getText b at_ most).2.1 ∧ (getText b at_ most).2.1 ≤ at_ + 1010 ∧ (getText b at_ most).2.1 ≤ b.size ∧ (getText b at_ most).1.size ≤ 1000 := by
  obtain ⟨p, s, rfl, e, h1, h2, h3⟩ := text_ok h
  have hs : s.size ≤ 1000 := by omega
  have := (nI_length _ (ln_lt s)).2
  have ht := tx_size s
  rw [e]
  refine ⟨by omega, by dsimp only; omega, by dsimp only; omega, by dsimp only; omega, hs⟩
theorem one_run {K : Nat} (hk : 6 ≤ K) (b : ByteArray) (at_ : Int) (hsz : b.size ≤ 9223372036854775807) (h0 : 0 ≤ at_) (hat : at_ ≤ 9223372036854770000) : F65 K b at_ = some (ro b at_) := by
  unfold F65 ro
  by_cases h1 : (b.size : Int) ≤ at_
  · rw [condT h1, if_pos h1]
  rw [condF h1, if_neg h1, grdD (by omega)]
  by_cases h2 : 1 < bt b at_
  · rw [condT h2, if_pos h2]
  rw [condF h2, if_neg h2, grdD (by omega), w64 (by omega) (by omega), gettext_run hk b (at_ + 1) 48 hsz (by omega), Option.bind_some]
  dsimp only
  by_cases h3 : (getText b (at_ + 1) 48).2.2 = 0
  · have hp := text_pos h3 (by omega)
    rw [h3, show ((0 : Int) != 0) = false from rfl, cond_false, Option.bind_some]
    by_cases h4 : bt b at_ = 1
    · rw [h4, show ((1 : Int) == 1) = true from rfl, cond_true, if_pos (Or.inr rfl)]
    · rw [beq_eq_false_iff_ne.2 h4, cond_false, if_neg (by omega), gettext_run hk b _ 48 hsz (by omega), Option.bind_some]
  · rw [bne_iff_ne.2 h3, cond_true, Option.bind_some, cond_true, if_pos (Or.inl h3)]
theorem ro_pos {b : ByteArray} {at_ : Int} (h : (ro b at_).2.2.2.2 = 0) : at_ < b.size ∧ -1 ≤ at_ ∧ at_ ≤ (ro b at_).2.2.2.1 ∧ (ro b at_).2.2.2.1 ≤ at_ + 3000 ∧ (ro b at_).2.2.2.1 ≤ b.size ∧ (ro b at_).1.size ≤ 1000 ∧ (ro b at_).2.2.1.size ≤ 1000 := by
  unfold ro at h ⊢
  by_cases h1 : (b.size : Int) ≤ at_
  · rw [if_pos h1] at h; simp at h
  rw [if_neg h1] at h ⊢
  by_cases h2 : 1 < bt b at_
  · rw [if_pos h2] at h; simp at h
  rw [if_neg h2] at h ⊢
  dsimp only at h ⊢
  by_cases h3 : (getText b (at_ + 1) 48).2.2 ≠ 0 ∨ bt b at_ = 1
  · rw [if_pos h3] at h ⊢
    have hp := text_pos h (by omega)
    exact ⟨by omega, by omega, by show _ ≤ (getText b (at_ + 1) 48).2.1; omega, by show (getText b (at_ + 1) 48).2.1 ≤ _; omega, by show (getText b (at_ + 1) 48).2.1 ≤ _; omega, hp.2.2.2.2, by show ByteArray.empty.size ≤ _; decide⟩
  · rw [if_neg h3] at h ⊢
    have h3' : (getText b (at_ + 1) 48).2.2 = 0 := by
      rcases Classical.em ((getText b (at_ + 1) 48).2.2 = 0) with e | e
      · exact e
      · exact absurd (Or.inl e) h3
    have hp := text_pos h3' (by omega)
    have hq := text_pos h (by omega)
    exact ⟨by omega, by omega, by show _ ≤ (getText b (getText b (at_ + 1) 48).2.1 48).2.1; omega, by show (getText b (getText b (at_ + 1) 48).2.1 48).2.1 ≤ _; omega, by show (getText b (getText b (at_ + 1) 48).2.1 48).2.1 ≤ _; omega, hp.2.2.2.2, hq.2.2.2.2⟩
/-- so many writes -/
def rd (b : ByteArray) : Nat → Int → List Wr → Int ⊕ (Int × List Wr)
  | 0, at_, out => .inr (at_, out)
  | n + 1, at_, out => if (ro b at_).2.2.2.2 ≠ 0 then .inl (ro b at_).2.2.2.2 else rd b n (ro b at_).2.2.2.1 (out ++ [((ro b at_).1, (ro b at_).2.1, (ro b at_).2.2.1)])
theorem read_loop (K : Nat) (hK : 6 ≤ K) (b : ByteArray) (hsz : b.size ≤ 9223372036854775807) (y : Int × Int × Int) (n0 : Nat) (hn0 : n0 ≤ 8) (hy : y.1 = n0) : ∀ (n i k : Nat) (at_ : Int) (out : List Wr), i + n = n0 → n < k → 0 ≤ at_ → at_ ≤ 10 + 3000 * i → out.length = i →
    loopN (L44_26 K b y) k (at_, (i : Int), out) = some (rd b n at_ out)
  | 0, i, k, at_, out, hi, hk, ha, hb, ho => by
    obtain ⟨k, rfl⟩ : ∃ q, k = q + 1 := ⟨k - 1, by omega⟩
    refine loop_end ?_
    unfold L44_26
    rw [condF (by rw [hy]; show ¬ (i : Int) < n0; omega)]; rfl
  | n + 1, i, k, at_, out, hi, hk, ha, hb, ho => by
    obtain ⟨k, rfl⟩ : ∃ q, k = q + 1 := ⟨k - 1, by omega⟩
    have h1 := one_run hK b at_ hsz ha (by omega)
    rw [rd]
    by_cases he : (ro b at_).2.2.2.2 = 0
    · have hp := ro_pos he
      rw [if_neg (fun h => h he)]
      rw [loop_step (b := ((ro b at_).2.2.2.1, ((i + 1 : Nat) : Int), out ++ [((ro b at_).1, (ro b at_).2.1, (ro b at_).2.2.1)]))]
      · exact read_loop K hK b hsz y n0 hn0 hy n (i + 1) k _ _ (by omega) (by omega) (by omega) (by omega) (by rw [List.length_append, ho]; rfl)
      · unfold L44_26
        simp only [h1, Option.bind_some]
        rw [condT (by rw [hy]; omega), he, show ((0 : Int) != 0) = false from rfl, cond_false, grdD (by rw [ho]; simp only [List.length_singleton]; omega), w32 (by omega) (by omega)]; rfl
    · rw [if_pos he]
      refine loop_end ?_
      unfold L44_26
      simp only [h1, Option.bind_some]
      rw [condT (by rw [hy]; omega), bne_iff_ne.2 he, cond_true]
theorem refread_loop (K : Nat) (hK : 6 ≤ K) (b : ByteArray) (hsz : b.size ≤ 9223372036854775807) (y : Int × Int × Int) (n0 : Nat) (hn0 : n0 ≤ 8) (hy : y.1 = n0) : ∀ (n i k : Nat) (at_ : Int) (out : List Wr), i + n = n0 → n < k → 0 ≤ at_ → at_ ≤ 10 + 3000 * i → out.length = i →
    loopN (L47_26 K b y) k (at_, (i : Int), out) = some (rd b n at_ out)
  | 0, i, k, at_, out, hi, hk, ha, hb, ho => by
    obtain ⟨k, rfl⟩ : ∃ q, k = q + 1 := ⟨k - 1, by omega⟩
    refine loop_end ?_
    unfold L47_26
    rw [hy, w64 (by omega) (by omega), condF (by show ¬ (i : Int) < n0; omega)]; rfl
  | n + 1, i, k, at_, out, hi, hk, ha, hb, ho => by
    obtain ⟨k, rfl⟩ : ∃ q, k = q + 1 := ⟨k - 1, by omega⟩
    have step : L47_26 K b y (at_, (i : Int), out) = if (ro b at_).2.2.2.2 ≠ 0 then some (.inr (.inl (ro b at_).2.2.2.2)) else some (.inl ((ro b at_).2.2.2.1, ((i + 1 : Nat) : Int), out ++ [((ro b at_).1, (ro b at_).2.1, (ro b at_).2.2.1)])) := by
      unfold L47_26
      rw [hy, w64 (x := (n0 : Int)) (by omega) (by omega), condT (by show (i : Int) < n0; omega)]
      simp only []
      by_cases h1 : (b.size : Int) ≤ at_
      · have e : ro b at_ = (ByteArray.empty, false, ByteArray.empty, 0, 3) := by unfold ro; rw [if_pos h1]
        rw [condT h1, e]; rfl
      rw [condF h1, grdD (by omega)]
      by_cases h2 : 1 < bt b at_
      · have e : ro b at_ = (ByteArray.empty, false, ByteArray.empty, 0, 2) := by unfold ro; rw [if_neg h1, if_pos h2]
        rw [condT h2, e]; rfl
      rw [condF h2, grdD (by omega), w64 (x := at_ + 1) (by omega) (by omega), refgettext_run hK b (at_ + 1) 48 hsz, Option.bind_some]
      have wi : IntKind.wrap .i64 ((i : Int) + 1) = ((i + 1 : Nat) : Int) := by rw [w64 (by omega) (by omega)]; omega
      rw [wi]
      have gr : ∀ w : Wr, (out.length + [w].length) * 40 ≤ 140737488355328 := fun w => by rw [ho]; simp only [List.length_singleton]; omega
      by_cases h3 : (getText b (at_ + 1) 48).2.2 = 0
      · by_cases h4 : bt b at_ = 1
        · have e : ro b at_ = ((getText b (at_ + 1) 48).1, bt b at_ == 1, ByteArray.empty, (getText b (at_ + 1) 48).2.1, (getText b (at_ + 1) 48).2.2) := by unfold ro; rw [if_neg h1, if_neg h2]; exact if_pos (Or.inr h4)
          rw [e, h3, h4]
          simp only [grdD (gr _)]
          rfl
        · have e : ro b at_ = ((getText b (at_ + 1) 48).1, bt b at_ == 1, (getText b (getText b (at_ + 1) 48).2.1 48).1, (getText b (getText b (at_ + 1) 48).2.1 48).2.1, (getText b (getText b (at_ + 1) 48).2.1 48).2.2) := by unfold ro; rw [if_neg h1, if_neg h2]; exact if_neg (by rintro (h | h); exact h h3; exact h4 h)
          rw [e, h3, show ((0 : Int) == 0) = true from rfl, beq_eq_false_iff_ne.2 h4, Bool.not_false, cond_true, Option.bind_some, cond_true, refgettext_run hK b _ 48 hsz, Option.bind_some, Option.bind_some]
          simp only []
          by_cases h5 : (getText b (getText b (at_ + 1) 48).2.1 48).2.2 = 0
          · rw [h5, show ((0 : Int) != 0) = false from rfl, cond_false, if_neg (fun h => h rfl), grdD (gr _)]
          · rw [bne_iff_ne.2 h5, cond_true, if_pos h5]
      · have e : ro b at_ = ((getText b (at_ + 1) 48).1, bt b at_ == 1, ByteArray.empty, (getText b (at_ + 1) 48).2.1, (getText b (at_ + 1) 48).2.2) := by unfold ro; rw [if_neg h1, if_neg h2]; exact if_pos (Or.inl h3)
        rw [e, beq_eq_false_iff_ne.2 h3, cond_false, Option.bind_some, cond_false, Option.bind_some]
        simp only []
        rw [bne_iff_ne.2 h3, cond_true, if_pos h3]
    rw [rd]
    by_cases he : (ro b at_).2.2.2.2 = 0
    · have hp := ro_pos he
      rw [if_neg (fun h => h he)] at step ⊢
      rw [loop_step step]
      exact refread_loop K hK b hsz y n0 hn0 hy n (i + 1) k _ _ (by omega) (by omega) (by omega) (by omega) (by rw [List.length_append, ho]; rfl)
    · rw [if_pos he] at step ⊢
      exact loop_end step
/-! what is read -/
def Small3 (l : List Wr) : Prop := ∀ w ∈ l, w.1.size ≤ 1000 ∧ w.2.2.size ≤ 1000
theorem rd_ok (b : ByteArray) : ∀ (n : Nat) (at_ : Int) (out : List Wr) {q : Int} {l : List Wr}, rd b n at_ out = .inr (q, l) → 0 ≤ at_ → at_ ≤ b.size → Small3 out → q ≤ b.size ∧ at_ ≤ q ∧ Small3 l ∧ l.length = out.length + n
  | 0, at_, out, q, l, h, h0, ha, ho => by
    rw [rd] at h
    cases h
    exact ⟨ha, Int.le_refl _, ho, rfl⟩
  | n + 1, at_, out, q, l, h, h0, ha, ho => by
    rw [rd] at h
    by_cases he : (ro b at_).2.2.2.2 = 0
    · have hp := ro_pos he
      rw [if_neg (fun h => h he)] at h
      obtain ⟨h1, h2, h3, h4⟩ := rd_ok b n _ _ h (by omega) (by omega) (by
        intro w hw
        rcases List.mem_append.1 hw with hw | hw
        · exact ho w hw
        · rw [List.mem_singleton.1 hw]; exact ⟨hp.2.2.2.2.2.1, hp.2.2.2.2.2.2⟩)
      refine ⟨h1, by omega, h3, by rw [h4, List.length_append, List.length_singleton]; omega⟩
    · rw [if_pos he] at h; cases h
noncomputable def bread (b : ByteArray) : List Wr × Int :=
  let r := getNum (bt b) b.size 0
  if r.2.2 ≠ 0 then ([], r.2.2) else if r.1 < 1 ∨ 8 < r.1 then ([], 12) else
    match rd b r.1.toNat r.2.1 [] with
    | .inl e => ([], e)
    | .inr z => if z.1 < b.size then ([], 2) else if bright z.2 ≠ 0 then ([], bright z.2) else (z.2, 0)
theorem num_pos {b : ByteArray} (h : (getNum (bt b) b.size 0).2.2 = 0) : 0 ≤ (getNum (bt b) b.size 0).2.1 ∧ (getNum (bt b) b.size 0).2.1 ≤ 10 ∧ (getNum (bt b) b.size 0).2.1 ≤ b.size := by
  obtain ⟨p, c, h0, h1, hc, h2, h3, h4⟩ := read_num b 0 h
  have := (nI_length c hc).2
  omega
theorem read_run (K : Nat) (hK : 2000000 ≤ K) (b : ByteArray) (hsz : b.size ≤ 9223372036854775807) : F44 K b = some (bread b) := by
  unfold F44 bread
  rw [get_run (by omega) b 0 hsz (by omega), Option.bind_some]
  dsimp only
  by_cases h0 : (getNum (bt b) b.size 0).2.2 = 0
  · have hp := num_pos h0
    have hb := getNum_bound b 0
    rw [h0, show ((0 : Int) != 0) = false from rfl, cond_false, if_neg (by simp)]
    by_cases h1 : (getNum (bt b) b.size 0).1 < 1
    · rw [condT h1, if_pos (Or.inl h1)]; rfl
    rw [condF h1, Option.bind_some]
    by_cases h2 : 8 < (getNum (bt b) b.size 0).1
    · rw [condT h2, if_pos (Or.inr h2)]
    rw [condF h2, if_neg (by omega)]
    have hl := read_loop K (by omega) b hsz (getNum (bt b) b.size 0) (getNum (bt b) b.size 0).1.toNat (by omega) (by omega) (getNum (bt b) b.size 0).1.toNat 0 K (getNum (bt b) b.size 0).2.1 [] (by omega) (by omega) hp.1 (by have := hp.2.1; omega) rfl
    rw [Int.natCast_zero] at hl
    rw [hl, Option.bind_some]
    show sel _ _ (rd b (getNum (bt b) b.size 0).1.toNat (getNum (bt b) b.size 0).2.1 []) = _
    cases hr : rd b (getNum (bt b) b.size 0).1.toNat (getNum (bt b) b.size 0).2.1 [] with
    | inl e => rfl
    | inr z =>
      simp only [sel]
      by_cases h3 : z.1 < b.size
      · rw [condT h3, if_pos h3]
      rw [condF h3, if_neg h3, right_run K _ hK, Option.bind_some]
      by_cases h4 : bright z.2 = 0
      · rw [h4]; rfl
      · rw [bne_iff_ne.2 h4, cond_true, if_pos h4]
  · rw [bne_iff_ne.2 h0, cond_true, if_pos h0]
theorem refread_run (K : Nat) (hK : 2000000 ≤ K) (b : ByteArray) (hsz : b.size ≤ 9223372036854775807) : F47 K b = some (bread b) := by
  unfold F47 bread
  rw [refget_run (by omega) b 0 hsz, Option.bind_some]
  dsimp only
  by_cases h0 : (getNum (bt b) b.size 0).2.2 = 0
  · have hp := num_pos h0
    have hb := getNum_bound b 0
    rw [h0, show ((0 : Int) != 0) = false from rfl, cond_false, if_neg (by simp)]
    by_cases h1 : (getNum (bt b) b.size 0).1 < 1
    · rw [condT h1, if_pos (Or.inl h1)]; rfl
    rw [condF h1, Option.bind_some]
    by_cases h2 : 8 < (getNum (bt b) b.size 0).1
    · rw [condT h2, if_pos (Or.inr h2)]
    rw [condF h2, if_neg (by omega)]
    have hl := refread_loop K (by omega) b hsz (getNum (bt b) b.size 0) (getNum (bt b) b.size 0).1.toNat (by omega) (by omega) (getNum (bt b) b.size 0).1.toNat 0 K (getNum (bt b) b.size 0).2.1 [] (by omega) (by omega) hp.1 (by have := hp.2.1; omega) rfl
    rw [Int.natCast_zero] at hl
    rw [hl, Option.bind_some]
    show sel _ _ (rd b (getNum (bt b) b.size 0).1.toNat (getNum (bt b) b.size 0).2.1 []) = _
    cases hr : rd b (getNum (bt b) b.size 0).1.toNat (getNum (bt b) b.size 0).2.1 [] with
    | inl e => rfl
    | inr z =>
      obtain ⟨k1, k2, k3, k4⟩ := rd_ok b _ _ [] (q := z.1) (l := z.2) hr hp.1 hp.2.2 (fun w hw => by cases hw)
      simp only [sel]
      by_cases h3 : z.1 < b.size
      · rw [bne_iff_ne.2 (by omega : z.1 ≠ (b.size : Int)), cond_true, if_pos h3]
      rw [show (z.1 != (b.size : Int)) = false by rw [bne_eq_false_iff_eq]; omega, cond_false, if_neg h3, ref_run K _ (fun w hw => by have := k3 w hw; omega) hK, Option.bind_some]
      by_cases h4 : bright z.2 = 0
      · rw [h4]; rfl
      · rw [bne_iff_ne.2 h4, cond_true, if_pos h4]
  · rw [bne_iff_ne.2 h0, cond_true, if_pos h0]
/-! what was read has just those bytes -/
theorem bt_one {b : ByteArray} {p : Nat} (h : p < b.size) : b.extract p (p + 1) = strOfNums [bt b p] := by
  apply ByteArray.ext
  apply Array.ext
  · show (b.extract p (p + 1)).size = (strOfNums [bt b p]).size
    rw [ByteArray.size_extract, strOfNums_size, List.length_singleton]; omega
  · intro j h1 h2
    have hj : j < 1 := by simpa [strOfNums] using h2
    obtain rfl : j = 0 := by omega
    simp only [strOfNums, ByteArray.data_extract, Array.getElem_extract, List.getElem_toArray, List.getElem_map, List.getElem_singleton]
    rw [bt_data b p h]
    simp
theorem ro_bytes {b : ByteArray} {p : Nat} (h : (ro b p).2.2.2.2 = 0) : ∃ q : Nat, (ro b p).2.2.2.1 = q ∧ p ≤ q ∧ q ≤ b.size ∧ b.extract p q = wb ((ro b p).1, (ro b p).2.1, (ro b p).2.2.1) := by
  have hpos := ro_pos h
  unfold ro at h ⊢
  by_cases h1 : (b.size : Int) ≤ p
  · rw [if_pos h1] at h; simp at h
  rw [if_neg h1] at h ⊢
  by_cases h2 : 1 < bt b p
  · rw [if_pos h2] at h; simp at h
  rw [if_neg h2] at h ⊢
  dsimp only at h ⊢
  have hr := bt_range b p
  by_cases h3 : (getText b ((p : Int) + 1) 48).2.2 ≠ 0 ∨ bt b p = 1
  · rw [if_pos h3] at h ⊢
    obtain ⟨p1, s, e1, e2, e3, e4, e5⟩ := text_ok h
    have h4 : bt b p = 1 := by
      rcases h3 with h3 | h3
      · exact absurd h h3
      · exact h3
    obtain rfl : p1 = p + 1 := by omega
    rw [e2]
    refine ⟨p + 1 + (tx s).size, rfl, by omega, by omega, ?_⟩
    rw [h4]
    show _ = (⟨#[1]⟩ : ByteArray) ++ tx s
    have e6 : (⟨#[1]⟩ : ByteArray) ++ tx s = b.extract p (p + 1) ++ b.extract (p + 1) (p + 1 + (tx s).size) := by rw [e5, bt_one (by omega), h4]; rfl
    rw [e6, ByteArray.extract_append_extract]
    congr 1 <;> omega
  · rw [if_neg h3] at h ⊢
    have h3' : (getText b ((p : Int) + 1) 48).2.2 = 0 := by
      rcases Classical.em ((getText b ((p : Int) + 1) 48).2.2 = 0) with e | e
      · exact e
      · exact absurd (Or.inl e) h3
    have h4 : bt b p = 0 := by
      have : bt b p ≠ 1 := fun e => h3 (Or.inr e)
      omega
    obtain ⟨p1, s, e1, e2, e3, e4, e5⟩ := text_ok h3'
    obtain ⟨p2, t, d1, d2, d3, d4, d5⟩ := text_ok h
    obtain rfl : p1 = p + 1 := by omega
    rw [e2] at d1 d2 ⊢
    simp only at d1 d2 ⊢
    obtain rfl : p2 = p + 1 + (tx s).size := by omega
    rw [d2]
    refine ⟨p + 1 + (tx s).size + (tx t).size, rfl, by omega, by omega, ?_⟩
    rw [h4]
    show _ = (⟨#[0]⟩ : ByteArray) ++ tx s ++ tx t
    have e6 : (⟨#[0]⟩ : ByteArray) ++ tx s ++ tx t = b.extract p (p + 1) ++ b.extract (p + 1) (p + 1 + (tx s).size) ++ b.extract (p + 1 + (tx s).size) (p + 1 + (tx s).size + (tx t).size) := by rw [e5, d5, bt_one (by omega), h4]; rfl
    rw [e6, ByteArray.extract_append_extract, show min p (p + 1) = p by omega, show max (p + 1) (p + 1 + (tx s).size) = p + 1 + (tx s).size by omega, ByteArray.extract_append_extract]
    congr 1 <;> omega
theorem rd_bytes (b : ByteArray) : ∀ (n p : Nat) (out : List Wr) {q : Int} {l : List Wr}, rd b n p out = .inr (q, l) → p ≤ b.size → ∃ (m : Nat) (l' : List Wr), q = (m : Int) ∧ p ≤ m ∧ m ≤ b.size ∧ l = out ++ l' ∧ b.extract p m = cat l'
  | 0, p, out, q, l, h, hp => by
    rw [rd] at h
    cases h
    refine ⟨p, [], rfl, Nat.le_refl _, hp, (List.append_nil _).symm, ?_⟩
    apply ByteArray.ext
    simp [cat]
  | n + 1, p, out, q, l, h, hp => by
    rw [rd] at h
    by_cases he : (ro b p).2.2.2.2 = 0
    · rw [if_neg (fun h => h he)] at h
      obtain ⟨r, r1, r2, r3, r4⟩ := ro_bytes he
      rw [r1] at h
      obtain ⟨m, l', h1, h2, h3, h4, h5⟩ := rd_bytes b n r _ h r3
      refine ⟨m, ((ro b p).1, (ro b p).2.1, (ro b p).2.2.1) :: l', h1, by omega, h3, by rw [h4, List.append_assoc]; rfl, ?_⟩
      rw [cat, ← h5, ← r4, ByteArray.extract_append_extract]
      congr 1 <;> omega
    · rw [if_pos he] at h; cases h
theorem bread_bytes {b : ByteArray} (h : (bread b).2 = 0) : bright (bread b).1 = 0 ∧ bb (bread b).1 = b := by
  unfold bread at h ⊢
  dsimp only at h ⊢
  by_cases h0 : (getNum (bt b) b.size 0).2.2 = 0
  · rw [if_neg (fun k => k h0)] at h ⊢
    by_cases h1 : (getNum (bt b) b.size 0).1 < 1 ∨ 8 < (getNum (bt b) b.size 0).1
    · rw [if_pos h1] at h; simp at h
    rw [if_neg h1] at h ⊢
    obtain ⟨p, c, e0, e1, hc, e2, e3, e4⟩ := read_num b 0 h0
    obtain rfl : p = 0 := by omega
    cases hr : rd b (getNum (bt b) b.size 0).1.toNat (getNum (bt b) b.size 0).2.1 [] with
    | inl e =>
      rw [hr] at h
      exfalso
      simp only at h
      subst h
      -- no error is nought
      have : ∀ (n : Nat) (at_ : Int) (out : List Wr), rd b n at_ out ≠ .inl 0 := by
        intro n
        induction n with
        | zero => intro at_ out h; rw [rd] at h; cases h
        | succ n ih =>
          intro at_ out h
          rw [rd] at h
          by_cases he : (ro b at_).2.2.2.2 = 0
          · rw [if_neg (fun k => k he)] at h; exact ih _ _ h
          · rw [if_pos he] at h; exact he (Sum.inl.inj h)
      exact this _ _ _ hr
    | inr z =>
      rw [hr] at h
      simp only at h ⊢
      rw [e2] at hr
      obtain ⟨m, l', h1', h2', h3', h4', h5'⟩ := rd_bytes b _ _ [] (q := z.1) (l := z.2) hr e3
      have hok := rd_ok b _ _ [] (q := z.1) (l := z.2) hr (by omega) (by omega) (fun w hw => by cases hw)
      by_cases h3 : z.1 < b.size
      · rw [if_pos h3] at h; simp at h
      rw [if_neg h3] at h ⊢
      by_cases h4 : bright z.2 = 0
      · rw [if_neg (fun k => k h4)]
        refine ⟨h4, ?_⟩
        show bb z.2 = b
        have hlen : z.2.length = c := by rw [hok.2.2.2, e1]; simp
        unfold bb
        rw [hlen, h4', List.nil_append, ← h5', ← e4, ByteArray.extract_append_extract, show m = b.size by omega]
        apply ByteArray.ext
        have : (0 : Nat) + (nI c).length ≤ b.size := by omega
        rw [show min 0 (0 + (nI c).length) = 0 by omega, show max (0 + (nI c).length) b.size = b.size by omega, ByteArray.extract_zero_size]
      · rw [if_pos h4] at h; exact absurd h h4
  · rw [if_pos h0] at h; exact absurd h h0
theorem bread_small (b : ByteArray) : Small2 (bread b).1 ∧ (bread b).1.length ≤ 8 := by
  have nil : Small2 ([] : List Wr) ∧ ([] : List Wr).length ≤ 8 := ⟨fun w hw => (by cases hw), by simp⟩
  unfold bread
  dsimp only
  by_cases h0 : (getNum (bt b) b.size 0).2.2 = 0
  · rw [if_neg (fun k => k h0)]
    by_cases h1 : (getNum (bt b) b.size 0).1 < 1 ∨ 8 < (getNum (bt b) b.size 0).1
    · rw [if_pos h1]; exact nil
    rw [if_neg h1]
    have hp := num_pos h0
    cases hr : rd b (getNum (bt b) b.size 0).1.toNat (getNum (bt b) b.size 0).2.1 [] with
    | inl e => exact nil
    | inr z =>
      have hok := rd_ok b _ _ [] (q := z.1) (l := z.2) hr hp.1 hp.2.2 (fun w hw => by cases hw)
      simp only
      by_cases h3 : z.1 < b.size
      · rw [if_pos h3]; exact nil
      rw [if_neg h3]
      by_cases h4 : bright z.2 = 0
      · rw [if_neg (fun k => k h4)]
        refine ⟨fun w hw => by have := hok.2.2.1 w hw; omega, ?_⟩
        show z.2.length ≤ 8
        rw [hok.2.2.2]; simp; omega
      · rw [if_pos h4]; exact nil
  · rw [if_pos h0]; exact nil
end Go.Proofs.YtlnadpijicfceaaDoor.PBatch3
