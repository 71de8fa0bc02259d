/- Patterns without sets: their items. -/
import Derived.Test.YtodhjfdlbbpbpaaDoorPGlob1
import Derived.Test.YtodhjfdlbbpbpaaDoorPureJoin
namespace Go.Proofs.YtodhjfdlbbpbpaaDoor.PGlob2
open Go.RowKit Go.Proofs.YtodhjfdlbbpbpaaDoor.Mc Go.Proofs.YtodhjfdlbbpbpaaDoor.N Go.Proofs.YtodhjfdlbbpbpaaDoor.Plain Go.Proofs.YtodhjfdlbbpbpaaDoor.PureRune Go.Proofs.YtodhjfdlbbpbpaaDoor.PureKeys Go.Proofs.YtodhjfdlbbpbpaaDoor.PureHead Go.Proofs.YtodhjfdlbbpbpaaDoor.PureJoin Go.Proofs.YtodhjfdlbbpbpaaDoor.PGlob1
set_option linter.unusedSimpArgs false
set_option linter.unusedVariables false
abbrev iStar : It := (2, 0, ByteArray.empty, false, [])
abbrev iAny : It := (1, 0, ByteArray.empty, false, [])
abbrev iOne (r : Int) (b : ByteArray) : It := (0, r, b, false, [])
inductive Pr : List Sg → List It → Prop where
  | nil : Pr [] []
  | star (b : ByteArray) (l : List Sg) (o : List It) (h : Pr l o) : Pr ((42, b) :: l) (iStar :: o)
  | any (b : ByteArray) (l : List Sg) (o : List It) (h : Pr l o) : Pr ((63, b) :: l) (iAny :: o)
  | one (r : Int) (b : ByteArray) (l : List Sg) (o : List It) (h1 : r ≠ 42) (h2 : r ≠ 63) (h3 : r ≠ 91) (h4 : r ≠ 92) (h : Pr l o) : Pr ((r, b) :: l) (iOne r b :: o)
  | esc (b0 : ByteArray) (r : Int) (b : ByteArray) (l : List Sg) (o : List It) (h : Pr l o) : Pr ((92, b0) :: (r, b) :: l) (iOne r b :: o)
theorem Pr.append : ∀ {l : List Sg} {o : List It} {l' : List Sg} {o' : List It}, Pr l o → Pr l' o' → Pr (l ++ l') (o ++ o')
  | _, _, _, _, .nil, k => k
  | _, _, _, _, .star b l o h, k => .star b _ _ (h.append k)
  | _, _, _, _, .any b l o h, k => .any b _ _ (h.append k)
  | _, _, _, _, .one r b l o h1 h2 h3 h4 h, k => .one r b _ _ h1 h2 h3 h4 (h.append k)
  | _, _, _, _, .esc b0 r b l o h, k => .esc b0 r b _ _ (h.append k)
theorem Pr.len : ∀ {l : List Sg} {o : List It}, Pr l o → o.length ≤ l.length
  | _, _, .nil => Nat.le_refl _
  | _, _, .star b l o h => by have := h.len; simp only [List.length_cons]; omega
  | _, _, .any b l o h => by have := h.len; simp only [List.length_cons]; omega
  | _, _, .one r b l o h1 h2 h3 h4 h => by have := h.len; simp only [List.length_cons]; omega
  | _, _, .esc b0 r b l o h => by have := h.len; simp only [List.length_cons]; omega
theorem Pr.ends : ∀ {l : List Sg} {o : List It}, Pr l o → ∀ x ∈ o, x.2.2.2.2 = []
  | _, _, .nil, x, hx => by cases hx
  | _, _, .star b l o h, x, hx => by rcases List.mem_cons.1 hx with rfl | hx; · rfl
                                     · exact h.ends x hx
  | _, _, .any b l o h, x, hx => by rcases List.mem_cons.1 hx with rfl | hx; · rfl
                                    · exact h.ends x hx
  | _, _, .one r b l o h1 h2 h3 h4 h, x, hx => by rcases List.mem_cons.1 hx with rfl | hx; · rfl
                                                  · exact h.ends x hx
  | _, _, .esc b0 r b l o h, x, hx => by rcases List.mem_cons.1 hx with rfl | hx; · rfl
                                         · exact h.ends x hx
theorem drop_at {α : Type} {y : List α} {i : Nat} {x : α} {l : List α} (h : y.drop i = x :: l) : i < y.length ∧ y[i]? = some x ∧ y.drop (i + 1) = l := by
  have h1 : i < y.length := by
    rcases Nat.lt_or_ge i y.length with h1 | h1
    · exact h1
    · rw [List.drop_of_length_le h1] at h
      cases h
  rw [List.drop_eq_getElem_cons h1] at h
  obtain ⟨e1, e2⟩ := List.cons.inj h
  exact ⟨h1, by rw [List.getElem?_eq_getElem h1, e1], e2⟩
theorem parse_loop (K : Nat) (y : List Sg) (hy : y.length ≤ 1000) : ∀ {z : List Sg} {o : List It}, Pr z o → ∀ (i k : Nat) (out : List It), y.drop i = z → i ≤ y.length → out.length ≤ i → z.length < k →
    loopN (L16_18 K y) k ((i : Int), out) = some (.inr (out ++ o))
  | _, _, .nil, i, k, out, hz, hi, ho, hk => by
    obtain ⟨k, rfl⟩ : ∃ q, k = q + 1 := ⟨k - 1, by omega⟩
    have : y.length ≤ i := by
      have := congrArg List.length hz
      rw [List.length_drop] at this
      simp at this; omega
    rw [List.append_nil]
    refine loop_end ?_
    unfold L16_18
    rw [condF (by omega)]
  | _, _, .star b l o h, i, k, out, hz, hi, ho, hk => by
    simp only [List.length_cons] at hk
    obtain ⟨k, rfl⟩ : ∃ q, k = q + 1 := ⟨k - 1, by omega⟩
    obtain ⟨h1, h2, h3⟩ := drop_at hz
    have := parse_loop K y hy h (i + 1) k (out ++ [iStar]) h3 (by omega) (by simp only [List.length_append, List.length_singleton]; omega) (by omega)
    rw [List.append_assoc] at this
    rw [loop_step (b := (((i + 1 : Nat) : Int), out ++ [iStar]))]
    · exact this
    · unfold L16_18
      simp only [ixn, Int.toNat_natCast, h2, Option.bind_some]
      rw [condT (by omega), show ((42 : Int) == 42) = true from rfl, cond_true, grdD (by simp only [List.length_singleton]; omega), Option.bind_some]
      simp only [sel]
      rw [w64 (by omega) (by omega)]; rfl
  | _, _, .any b l o h, i, k, out, hz, hi, ho, hk => by
    simp only [List.length_cons] at hk
    obtain ⟨k, rfl⟩ : ∃ q, k = q + 1 := ⟨k - 1, by omega⟩
    obtain ⟨h1, h2, h3⟩ := drop_at hz
    have := parse_loop K y hy h (i + 1) k (out ++ [iAny]) h3 (by omega) (by simp only [List.length_append, List.length_singleton]; omega) (by omega)
    rw [List.append_assoc] at this
    rw [loop_step (b := (((i + 1 : Nat) : Int), out ++ [iAny]))]
    · exact this
    · unfold L16_18
      simp only [ixn, Int.toNat_natCast, h2, Option.bind_some]
      rw [condT (by omega), show ((63 : Int) == 42) = false from rfl, cond_false, show ((63 : Int) == 63) = true from rfl, cond_true, grdD (by simp only [List.length_singleton]; omega), Option.bind_some]
      simp only [sel]
      rw [w64 (by omega) (by omega)]; rfl
  | _, _, .one r b l o e1 e2 e3 e4 h, i, k, out, hz, hi, ho, hk => by
    simp only [List.length_cons] at hk
    obtain ⟨k, rfl⟩ : ∃ q, k = q + 1 := ⟨k - 1, by omega⟩
    obtain ⟨h1, h2, h3⟩ := drop_at hz
    have := parse_loop K y hy h (i + 1) k (out ++ [iOne r b]) h3 (by omega) (by simp only [List.length_append, List.length_singleton]; omega) (by omega)
    rw [List.append_assoc] at this
    rw [loop_step (b := (((i + 1 : Nat) : Int), out ++ [iOne r b]))]
    · exact this
    · unfold L16_18
      simp only [ixn, Int.toNat_natCast, h2, Option.bind_some]
      rw [condT (by omega), beq_eq_false_iff_ne.2 e1, cond_false, beq_eq_false_iff_ne.2 e2, cond_false, beq_eq_false_iff_ne.2 e3, cond_false, beq_eq_false_iff_ne.2 e4, cond_false, grdD (by simp only [List.length_singleton]; omega), Option.bind_some]
      simp only [sel]
      rw [w64 (by omega) (by omega)]; rfl
  | _, _, .esc b0 r b l o h, i, k, out, hz, hi, ho, hk => by
    simp only [List.length_cons] at hk
    obtain ⟨k, rfl⟩ : ∃ q, k = q + 1 := ⟨k - 1, by omega⟩
    obtain ⟨h1, h2, h3⟩ := drop_at hz
    obtain ⟨h4, h5, h6⟩ := drop_at h3
    have := parse_loop K y hy h (i + 1 + 1) k (out ++ [iOne r b]) h6 (by omega) (by simp only [List.length_append, List.length_singleton]; omega) (by omega)
    rw [List.append_assoc] at this
    rw [loop_step (b := (((i + 1 + 1 : Nat) : Int), out ++ [iOne r b]))]
    · exact this
    · have w1 : IntKind.wrap .i64 ((i : Int) + 1) = ((i + 1 : Nat) : Int) := by rw [w64 (by omega) (by omega)]; omega
      unfold L16_18
      simp only [w1, ixn, Int.toNat_natCast, h2, h5, Option.bind_some]
      rw [condT (by omega), show ((92 : Int) == 42) = false from rfl, cond_false, show ((92 : Int) == 63) = false from rfl, cond_false, show ((92 : Int) == 91) = false from rfl, cond_false, show ((92 : Int) == 92) = true from rfl, cond_true,
        beq_eq_false_iff_ne.2 (by omega : ((i + 1 : Nat) : Int) ≠ (y.length : Int)), cond_false, grdD (by simp only [List.length_singleton]; omega), Option.bind_some]
      simp only [sel]
      rw [w64 (by omega) (by omega)]; rfl
theorem parse_run (K : Nat) {s : ByteArray} (hs : s.size ≤ 1000000) {L : List (Nat × Nat)} (hL : Runes s 0 L) (hl : L.length ≤ 24) (hl2 : L.length ≤ s.size) (hK : 2000000 ≤ K) {o : List It} (h : Pr (sg s 0 L) o) : F16 K s = some (.inr (true, o)) := by
  unfold F16
  have hlen := sg_len s L 0
  rw [signs_run K (by omega) hL (by omega) hl2, Option.bind_some, condF (by omega), show (0 : Int) = ((0 : Nat) : Int) from rfl, parse_loop K _ (by omega) h 0 K [] rfl (by omega) (by simp) (by omega)]
  rfl
theorem parse_long (K : Nat) {s : ByteArray} (hs : s.size ≤ 1000000) {L : List (Nat × Nat)} (hL : Runes s 0 L) (hl : 24 < L.length) (hl2 : L.length ≤ s.size) (hK : 2000000 ≤ K) : F16 K s = some (.inl false) := by
  unfold F16
  have hlen := sg_len s L 0
  rw [signs_run K (by omega) hL (by omega) hl2, Option.bind_some, condT (by omega)]
theorem right_parse (K : Nat) {s : ByteArray} {o : List It} (h : F16 K s = some (.inr (true, o))) : F8 K s = some true := by
  unfold F8; rw [h]; rfl
theorem right_bad (K : Nat) {s : ByteArray} (h : F16 K s = some (.inl false)) : F8 K s = some false := by
  unfold F8; rw [h]; rfl
theorem match_bad (K : Nat) {s k : ByteArray} (h : F16 K s = some (.inl false)) : F9 K s k = some false := by
  unfold F9; rw [h]; rfl
theorem match_parse (K : Nat) {s k : ByteArray} {o : List It} (h : F16 K s = some (.inr (true, o))) (ho : o.length ≤ 24) (he : ∀ x ∈ o, x.2.2.2.2.length ≤ 1000) (hs : k.size ≤ 1000) {T : List (Nat × Nat)} (hT : Runes k 0 T) (hl2 : T.length ≤ k.size) (hK : 2000000 ≤ K) :
    F9 K s k = some (M o (T.map fun x => (x.1 : Int))) := by
  unfold F9
  have hlen := sg_len k T 0
  rw [h]
  simp only [Option.bind_some, sel, Bool.not_true, cond_false]
  rw [signs_run K (by omega) hT (by omega) hl2, Option.bind_some]
  have hm1 : ((sg k 0 T).length + 1) * (o.length + 1) ≤ 1001 * 25 := Nat.mul_le_mul (by omega) (by omega)
  have hm2 : (o.length + 1 - 0) * (((sg k 0 T).length + 1) * (o.length + 1)) ≤ 25 * (1001 * 25) := Nat.mul_le_mul (by omega) hm1
  have hm3 : ((sg k 0 T).length - 0) * (o.length + 1) ≤ 1000 * 25 := Nat.mul_le_mul (by omega) (by omega)
  obtain ⟨r, r1, r2⟩ := match_loop K o (sg k 0 T) (by omega) (by omega) hK he ((sg k 0 T).map (·.1)) rfl _ K 0 0 0 0 (by omega) (by omega) (by omega) (by omega) rfl (by omega) (fun h => by omega)
  rw [show ((0 : Int), (-1 : Int), (0 : Int), (0 : Int)) = (((0 : Nat) : Int), ((0 : Nat) : Int) - 1, ((0 : Nat) : Int), ((0 : Nat) : Int)) from rfl, r1, Option.bind_some]
  refine Eq.trans r2 ?_
  rw [List.drop_zero, List.drop_zero, sg_map]
  unfold B
  rw [decide_eq_false (by omega), Bool.false_and, Bool.or_false]
theorem sg_append (s : ByteArray) : ∀ (A B : List (Nat × Nat)) (p : Nat), sg s p (A ++ B) = sg s p A ++ sg s (p + (A.map (·.2)).sum) B
  | [], B, p => by simp [sg]
  | x :: A, B, p => by
    simp only [List.cons_append, sg, sg_append s A B, List.map_cons, List.sum_cons, Nat.add_assoc]
theorem pr_anys (s : ByteArray) : ∀ (n p : Nat), Pr (sg s p (List.replicate n (63, 1))) (List.replicate n iAny)
  | 0, _ => .nil
  | n + 1, p => by
    rw [List.replicate_succ, List.replicate_succ]
    exact .any _ _ _ (pr_anys s n _)
theorem M_anys : ∀ (n : Nat) (o : List It) (t : List Int), M (List.replicate n iAny ++ o) t = (decide (n ≤ t.length) && M o (t.drop n))
  | 0, o, t => by rw [decide_eq_true (by omega), Bool.true_and]; rfl
  | n + 1, o, [] => by rw [decide_eq_false (by simp), Bool.false_and]; rfl
  | n + 1, o, c :: t => by
    rw [List.replicate_succ, List.cons_append, M_cons]
    show (ft iAny c && M (List.replicate n iAny ++ o) t) = _
    rw [M_anys n o t, List.drop_succ_cons]
    show (true && _) = _
    rw [Bool.true_and]
    congr 1
    rw [decide_eq_decide, List.length_cons]; omega
theorem suf_empty : ∀ (t : List Int), suf (M []) t = true
  | [] => rfl
  | c :: t => by rw [suf, suf_empty t, Bool.or_true]
end Go.Proofs.YtodhjfdlbbpbpaaDoor.PGlob2
