/- Quoting, on lists of bytes; what Quote and the document's GlobQuote compute. -/
import Derived.Test.YtodhjfdlbbpbpaaDoorPGlob2
import Derived.Test.YtodhjfdlbbpbpaaDoorPureBytes
namespace Go.Proofs.YtodhjfdlbbpbpaaDoor.PGlob3
open Go.RowKit Go.Proofs.YtodhjfdlbbpbpaaDoor.Mc Go.Proofs.YtodhjfdlbbpbpaaDoor.N Go.Proofs.YtodhjfdlbbpbpaaDoor.Plain Go.Proofs.YtodhjfdlbbpbpaaDoor.PureRune Go.Proofs.YtodhjfdlbbpbpaaDoor.PureKeys Go.Proofs.YtodhjfdlbbpbpaaDoor.PureHead Go.Proofs.YtodhjfdlbbpbpaaDoor.PureJoin Go.Proofs.YtodhjfdlbbpbpaaDoor.PureBytes Go.Proofs.YtodhjfdlbbpbpaaDoor.PGlob1 Go.Proofs.YtodhjfdlbbpbpaaDoor.PGlob2
set_option linter.unusedSimpArgs false
set_option linter.unusedVariables false
/-! the first rune of bytes -/
def decL (u : List Nat) : Nat × Nat := Lib.decodeN u.length (u.getD 0 0) (u.getD 1 0) (u.getD 2 0) (u.getD 3 0)
theorem bs_len (s : ByteArray) (p : Nat) : (bs s p).length = s.size - p := by
  unfold bs; rw [List.length_map, List.length_drop, ← Lib.size_eq]
theorem bs_getD (s : ByteArray) (p i : Nat) : (bs s p).getD i 0 = (s.get! (p + i)).toNat := by
  unfold bs
  rw [← Lib.getD_get!']
  simp only [List.getD, List.getElem?_map, List.getElem?_drop]
  cases s.data.toList[p + i]? <;> rfl
theorem decL_bs (s : ByteArray) (p : Nat) : decL (bs s p) = Utf8.decode s p := by
  unfold decL
  rw [Lib.decode_at, bs_len, bs_getD, bs_getD, bs_getD, bs_getD, Nat.add_zero]
theorem bs_drop (s : ByteArray) (p w : Nat) : (bs s p).drop w = bs s (p + w) := by
  unfold bs; rw [← List.map_drop, List.drop_drop]
theorem bs_lt (s : ByteArray) (p : Nat) : ∀ b ∈ bs s p, b < 256 := by
  intro b hb
  obtain ⟨x, _, rfl⟩ := List.mem_map.1 hb
  exact x.toNat_lt
inductive RunesL : List Nat → List (Nat × Nat) → Prop where
  | nil : RunesL [] []
  | cons (u : List Nat) (h : 0 < u.length) (L : List (Nat × Nat)) (t : RunesL (u.drop (decL u).2) L) : RunesL u (decL u :: L)
theorem runesL_of {s : ByteArray} : ∀ {p : Nat} {L : List (Nat × Nat)}, Runes s p L → RunesL (bs s p) L
  | _, _, .nil p h => by rw [bs_end s p (by omega)]; exact .nil
  | _, _, .cons p h L t => by
    have := RunesL.cons (bs s p) (by rw [bs_len]; omega) L (by rw [decL_bs, bs_drop]; exact runesL_of t)
    rwa [decL_bs] at this
theorem of_runesL {s : ByteArray} : ∀ {p : Nat} {L : List (Nat × Nat)}, RunesL (bs s p) L → Runes s p L := by
  intro p L h
  generalize hu : bs s p = u at h
  induction h generalizing p with
  | nil => exact .nil p (fun hp => by rw [bs_cons s p hp] at hu; cases hu)
  | cons u h L t ih =>
    subst hu
    rw [decL_bs]
    rw [bs_len] at h
    refine .cons p (by omega) L (ih ?_)
    rw [decL_bs, bs_drop]
/-! what the first rune hangs on -/
inductive Sim : List Nat → List Nat → Prop where
  | nil : Sim [] []
  | eq (b : Nat) (u v : List Nat) (h : Sim u v) : Sim (b :: u) (b :: v)
  | asc (b c : Nat) (u v : List Nat) (h1 : b < 128) (h2 : c < 128) : Sim (b :: u) (c :: v)
theorem sim_next {u v : List Nat} (h : Sim u v) : ((0 < u.length ∧ (u.getD 0 0) / 64 = 2) ↔ (0 < v.length ∧ (v.getD 0 0) / 64 = 2)) ∧ ((0 < u.length ∧ (u.getD 0 0) / 64 = 2) → u.getD 0 0 = v.getD 0 0 ∧ Sim (u.drop 1) (v.drop 1)) := by
  cases h with
  | nil => simp
  | eq b u v h => simp [h]
  | asc b c u v h1 h2 =>
    simp only [List.length_cons, List.getD_cons_zero]
    refine ⟨⟨fun h => by omega, fun h => by omega⟩, fun h => by omega⟩
theorem getD_drop (u : List Nat) (i j : Nat) : (u.drop i).getD j 0 = u.getD (i + j) 0 := by
  simp [List.getD, List.getElem?_drop]
theorem dec_sim {b : Nat} {u v : List Nat} (h : Sim u v) : decL (b :: u) = decL (b :: v) := by
  obtain ⟨a1, a2⟩ := sim_next h
  unfold decL
  simp only [List.getD_cons_zero, List.getD_cons_succ, List.length_cons]
  have e1 : (1 < u.length + 1) = (0 < u.length) := by rw [eq_iff_iff]; omega
  have e2 : (2 < u.length + 1) = (1 < u.length) := by rw [eq_iff_iff]; omega
  have e3 : (3 < u.length + 1) = (2 < u.length) := by rw [eq_iff_iff]; omega
  have f1 : (1 < v.length + 1) = (0 < v.length) := by rw [eq_iff_iff]; omega
  have f2 : (2 < v.length + 1) = (1 < v.length) := by rw [eq_iff_iff]; omega
  have f3 : (3 < v.length + 1) = (2 < v.length) := by rw [eq_iff_iff]; omega
  unfold Lib.decodeN
  simp only [e1, e2, e3, f1, f2, f3]
  by_cases c1 : 0 < u.length ∧ u.getD 0 0 / 64 = 2
  rotate_left
  · have d1 := mt a1.2 c1
    simp only [c1, d1, false_and, and_false, if_false]
  have d1 := a1.1 c1
  obtain ⟨g1, s2⟩ := a2 c1
  obtain ⟨b1, b2⟩ := sim_next s2
  simp only [List.length_drop, getD_drop, Nat.add_zero] at b1 b2
  have k2 : (0 < u.length - 1) = (1 < u.length) := by rw [eq_iff_iff]; omega
  have l2 : (0 < v.length - 1) = (1 < v.length) := by rw [eq_iff_iff]; omega
  rw [k2, l2] at b1
  rw [k2] at b2
  rw [g1]
  by_cases c2 : 1 < u.length ∧ u.getD 1 0 / 64 = 2
  rotate_left
  · have d2 := mt b1.2 c2
    rw [g1] at c1
    simp only [c1, d1, c2, d2, true_and, and_true, false_and, and_false, if_false]
  have d2 := b1.1 c2
  obtain ⟨g2, s3⟩ := b2 c2
  obtain ⟨c1', c2'⟩ := sim_next s3
  simp only [List.drop_drop, List.length_drop, getD_drop, Nat.add_zero] at c1' c2'
  have k3 : (0 < u.length - (1 + 1)) = (2 < u.length) := by rw [eq_iff_iff]; omega
  have l3 : (0 < v.length - (1 + 1)) = (2 < v.length) := by rw [eq_iff_iff]; omega
  rw [k3, l3] at c1'
  rw [k3] at c2'
  rw [g2]
  rw [g1] at c1
  rw [g2] at c2
  by_cases c3 : 2 < u.length ∧ u.getD 2 0 / 64 = 2
  rotate_left
  · have d3 := mt c1'.2 c3
    simp only [c1, d1, c2, d2, c3, d3, true_and, and_true, false_and, and_false, if_false]
  have d3 := c1'.1 c3
  obtain ⟨g3, _⟩ := c2' c3
  rw [g3] at c3 ⊢
  simp only [c1, d1, c2, d2, c3, d3, true_and, and_true]
/-! facts of one rune -/
theorem decN_le (n b0 b1 b2 b3 : Nat) (hn : 1 ≤ n) : 1 ≤ (Lib.decodeN n b0 b1 b2 b3).2 := by
  unfold Lib.decodeN
  repeat' split
  all_goals (simp only; omega)
theorem decL_w (u : List Nat) (h : 0 < u.length) : 1 ≤ (decL u).2 ∧ (decL u).2 ≤ u.length := ⟨decN_le _ _ _ _ _ h, decodeN_le _ _ _ _ _ h⟩
theorem decN_asc {n b0 b1 b2 b3 : Nat} (h : (Lib.decodeN n b0 b1 b2 b3).1 < 128) : b0 < 128 ∧ Lib.decodeN n b0 b1 b2 b3 = (b0, 1) := by
  unfold Lib.decodeN at h ⊢
  by_cases h0 : b0 < 128
  · rw [if_pos h0]; exact ⟨h0, rfl⟩
  · exfalso
    rw [if_neg h0] at h
    split at h
    · split at h
      · simp only at h; omega
      · simp at h
    · split at h
      · split at h
        · simp only at h; omega
        · simp at h
      · split at h
        · split at h
          · simp only at h; omega
          · simp at h
        · simp at h
theorem decL_asc {u : List Nat} (h : (decL u).1 < 128) (hu : 0 < u.length) : ∃ b v, u = b :: v ∧ b < 128 ∧ decL u = (b, 1) := by
  cases u with
  | nil => simp at hu
  | cons b v =>
    obtain ⟨h1, h2⟩ := decN_asc h
    exact ⟨b, v, rfl, h1, h2⟩
theorem decL_small {b : Nat} (v : List Nat) (h : b < 128) : decL (b :: v) = (b, 1) := by
  unfold decL Lib.decodeN
  rw [List.getD_cons_zero, if_pos h]
theorem decN_big (n b0 b1 b2 b3 : Nat) (h : ¬ b0 < 128) : (∀ i, i < (Lib.decodeN n b0 b1 b2 b3).2 → 128 ≤ [b0, b1, b2, b3].getD i 0) := by
  intro i hi
  unfold Lib.decodeN at hi
  rw [if_neg h] at hi
  have z : i = 0 → 128 ≤ [b0, b1, b2, b3].getD i 0 := fun e => by subst e; simp; omega
  split at hi
  · split at hi
    · rcases (by simp only at hi; omega : i = 0 ∨ i = 1) with e | e
      · exact z e
      · subst e; simp; omega
    · exact z (by simp only at hi; omega)
  · split at hi
    · split at hi
      · rcases (by simp only at hi; omega : i = 0 ∨ i = 1 ∨ i = 2) with e | e | e
        · exact z e
        · subst e; simp; omega
        · subst e; simp; omega
      · exact z (by simp only at hi; omega)
    · split at hi
      · split at hi
        · rcases (by simp only at hi; omega : i = 0 ∨ i = 1 ∨ i = 2 ∨ i = 3) with e | e | e | e
          · exact z e
          · subst e; simp; omega
          · subst e; simp; omega
          · subst e; simp; omega
        · exact z (by simp only at hi; omega)
      · exact z (by simp only at hi; omega)
theorem decN_w4 (n b0 b1 b2 b3 : Nat) : (Lib.decodeN n b0 b1 b2 b3).2 ≤ 4 := by
  unfold Lib.decodeN
  repeat' split
  all_goals (simp only; omega)
theorem take_big {u : List Nat} (hu : 0 < u.length) (h : ¬ (decL u).1 < 128) : ∀ b ∈ u.take (decL u).2, 128 ≤ b := by
  intro b hb
  obtain ⟨i, hi, rfl⟩ := List.getElem_of_mem hb
  rw [List.length_take] at hi
  rw [List.getElem_take]
  have h0 : ¬ u.getD 0 0 < 128 := by
    intro hh
    apply h
    unfold decL Lib.decodeN
    rw [if_pos hh]; exact hh
  have hi2 : i < (decL u).2 := by omega
  have := decN_big u.length (u.getD 0 0) (u.getD 1 0) (u.getD 2 0) (u.getD 3 0) h0 i hi2
  have hw4 : (decL u).2 ≤ 4 := decN_w4 _ _ _ _ _
  have hlt : i < u.length := by omega
  have e : u[i] = u.getD i 0 := by rw [List.getD, List.getElem?_eq_getElem hlt]; rfl
  rw [e]
  rcases (by omega : i = 0 ∨ i = 1 ∨ i = 2 ∨ i = 3) with rfl | rfl | rfl | rfl <;> simpa using this
/-! quoting -/
def spc (r : Nat) : Bool := r == 42 || (r == 63 || (r == 91 || (r == 93 || (r == 92 || (r == 94 || r == 45)))))
theorem spc_lt {r : Nat} (h : spc r = true) : r < 128 := by
  unfold spc at h
  simp only [Bool.or_eq_true, beq_iff_eq] at h
  omega
def qn : List Nat → List (Nat × Nat) → List Nat
  | _, [] => []
  | u, x :: L => (if spc x.1 then [92] else []) ++ (u.take x.2 ++ qn (u.drop x.2) L)
def ql : List (Nat × Nat) → List (Nat × Nat)
  | [] => []
  | x :: L => (if spc x.1 then [(92, 1)] else []) ++ (x :: ql L)
theorem sim_app : ∀ (a : List Nat) {u v : List Nat}, Sim u v → Sim (a ++ u) (a ++ v)
  | [], _, _, h => h
  | b :: a, _, _, h => .eq b _ _ (sim_app a h)
theorem qn_sim : ∀ {u : List Nat} {L : List (Nat × Nat)}, RunesL u L → Sim (qn u L) u
  | _, _, .nil => .nil
  | u, _, .cons _ h L t => by
    unfold qn
    cases hs : spc (decL u).1 with
    | true =>
      obtain ⟨b, v, e, hb, _⟩ := decL_asc (spc_lt hs) h
      rw [e]
      exact .asc 92 b _ _ (by decide) hb
    | false =>
      have := sim_app (u.take (decL u).2) (qn_sim t)
      rwa [List.take_append_drop] at this
theorem qn_runes : ∀ {u : List Nat} {L : List (Nat × Nat)}, RunesL u L → RunesL (qn u L) (ql L)
  | _, _, .nil => .nil
  | u, _, .cons _ h L t => by
    unfold qn ql
    cases hs : spc (decL u).1 with
    | true =>
      obtain ⟨b, v, e, hb, hd⟩ := decL_asc (spc_lt hs) h
      simp only [if_true]
      have ih := qn_runes t
      rw [hd] at ih ⊢
      subst e
      simp only [List.take_succ_cons, List.take_zero, List.drop_succ_cons, List.drop_zero] at ih ⊢
      have h1 := RunesL.cons ([b] ++ qn v L) (by simp) (ql L) (by rw [List.singleton_append, decL_small _ hb]; exact ih)
      rw [List.singleton_append, decL_small _ hb] at h1
      have h2 := RunesL.cons ([92] ++ ([b] ++ qn v L)) (by simp) ((b, 1) :: ql L) (by rw [List.singleton_append, List.singleton_append, decL_small _ (by decide)]; exact h1)
      rw [List.singleton_append, List.singleton_append, decL_small _ (by decide)] at h2
      exact h2
    | false =>
      have hw := decL_w u h
      have hd : decL (u.take (decL u).2 ++ qn (u.drop (decL u).2) L) = decL u := by
        have hsim := sim_app (u.take (decL u).2) (qn_sim t)
        rw [List.take_append_drop] at hsim
        cases u with
        | nil => simp at h
        | cons b v =>
          generalize hq : qn ((b :: v).drop (decL (b :: v)).2) L = q at *
          obtain ⟨w, hw'⟩ : ∃ w, (decL (b :: v)).2 = w + 1 := ⟨(decL (b :: v)).2 - 1, by omega⟩
          rw [hw'] at hsim ⊢
          rw [List.take_succ_cons, List.cons_append] at hsim ⊢
          cases hsim with
          | eq _ _ _ h => exact dec_sim h
          | asc _ _ _ _ h1 h2 => rw [decL_small _ h1, decL_small _ h1]
      simp only [Bool.false_eq_true, if_false, List.nil_append]
      have := RunesL.cons (u.take (decL u).2 ++ qn (u.drop (decL u).2) L) (by rw [List.length_append, List.length_take]; omega) (ql L) (by
        rw [hd, List.drop_append_of_le_length (by rw [List.length_take]; omega), List.drop_of_length_le (by rw [List.length_take]; omega), List.nil_append]
        exact qn_runes t)
      rwa [hd] at this
/-- byte by byte -/
def rq (u : List Nat) : List Nat := u.flatMap fun b => if spc b then [92, b] else [b]
theorem rq_big : ∀ {u : List Nat}, (∀ b ∈ u, spc b = false) → rq u = u
  | [], _ => rfl
  | b :: u, h => by
    have h1 := h b (by simp)
    have h2 := rq_big (u := u) fun c hc => h c (by simp [hc])
    unfold rq at h2 ⊢
    rw [List.flatMap_cons, h1, h2]; rfl
theorem rq_app (u v : List Nat) : rq (u ++ v) = rq u ++ rq v := List.flatMap_append
theorem qn_rq : ∀ {u : List Nat} {L : List (Nat × Nat)}, RunesL u L → qn u L = rq u
  | _, _, .nil => rfl
  | u, _, .cons _ h L t => by
    unfold qn
    have e : rq u = rq (u.take (decL u).2) ++ rq (u.drop (decL u).2) := by rw [← rq_app, List.take_append_drop]
    rw [e, qn_rq t, ← List.append_assoc]
    congr 1
    by_cases ha : (decL u).1 < 128
    · obtain ⟨b, v, e, hb, hd⟩ := decL_asc ha h
      rw [hd]
      subst e
      simp only [List.take_succ_cons, List.take_zero]
      unfold rq
      rw [List.flatMap_cons]
      cases spc b <;> rfl
    · have hs : spc (decL u).1 = false := by
        cases hh : spc (decL u).1 with
        | false => rfl
        | true => exact absurd (spc_lt hh) ha
      rw [hs, rq_big]
      · rfl
      · intro b hb
        have := take_big h ha b hb
        cases hh : spc b with
        | false => rfl
        | true => have := spc_lt hh; omega
theorem qn_length : ∀ (L : List (Nat × Nat)) (u : List Nat), (qn u L).length ≤ u.length + L.length
  | [], u => by simp [qn]
  | x :: L, u => by
    have := qn_length L (u.drop x.2)
    simp only [qn, List.length_append, List.length_take, List.length_cons, List.length_drop] at this ⊢
    split <;> simp <;> omega
end Go.Proofs.YtodhjfdlbbpbpaaDoor.PGlob3
