/- What the functions on patterns compute: signs, items, matching. -/
import Derived.Test.YtodhjfdlbbpbpaaDoorPureBytes
import Derived.Test.YtodhjfdlbbpbpaaDoorPureKeysRight
import Derived.Test.YtodhjfdlbbpbpaaDoorPureHead
namespace Go.Proofs.YtodhjfdlbbpbpaaDoor.PGlob1
open Go.RowKit Go.Proofs.YtodhjfdlbbpbpaaDoor.Mc Go.Proofs.YtodhjfdlbbpbpaaDoor.N Go.Proofs.YtodhjfdlbbpbpaaDoor.Plain Go.Proofs.YtodhjfdlbbpbpaaDoor.PureRune Go.Proofs.YtodhjfdlbbpbpaaDoor.PureKeys Go.Proofs.YtodhjfdlbbpbpaaDoor.PureHead
open Go.Proofs.YtodhjfdlbbpbpaaDoor.PureKeysRight (decodeGo_tail)
set_option linter.unusedSimpArgs false
set_option linter.unusedVariables false
abbrev Sg : Type := Int × ByteArray
abbrev It : Type := Int × Int × ByteArray × Bool × List (Int × Int)
/-! signs -/
def sg (s : ByteArray) : Nat → List (Nat × Nat) → List Sg
  | _, [] => []
  | p, x :: L => ((x.1 : Int), s.extract p (p + x.2)) :: sg s (p + x.2) L
theorem sg_len (s : ByteArray) : ∀ (L : List (Nat × Nat)) (p : Nat), (sg s p L).length = L.length
  | [], _ => rfl
  | x :: L, p => by simp only [sg, List.length_cons, sg_len s L]
theorem sg_map (s : ByteArray) : ∀ (L : List (Nat × Nat)) (p : Nat), (sg s p L).map (·.1) = L.map (fun x => (x.1 : Int))
  | [], _ => rfl
  | x :: L, p => by simp only [sg, List.map_cons, sg_map s L]
theorem signs_loop (K : Nat) (s : ByteArray) (hs : s.size ≤ 1000000000) : ∀ {p : Nat} {L : List (Nat × Nat)}, Runes s p L → ∀ (k : Nat) (out : List Sg), L.length < k → out.length + L.length ≤ 1000000000 →
    ∃ p', loopN (L17_8 K s) k (s, p, out) = some (s, p', out ++ sg s p L)
  | _, _, .nil p h, k, out, hk, ho => by
    obtain ⟨k, rfl⟩ : ∃ j, k = j + 1 := ⟨k - 1, by omega⟩
    refine ⟨p, loop_end ?_⟩
    unfold L17_8
    simp only [decide_eq_false h, cond_false, sg, List.append_nil]
  | _, _, .cons p h L t, k, out, hk, ho => by
    obtain ⟨k, rfl⟩ : ∃ j, k = j + 1 := ⟨k - 1, by omega⟩
    have hdg := decodeGo_tail s p h
    have hw := width_le s p h
    simp only [List.length_cons] at hk ho
    obtain ⟨p', e⟩ := signs_loop K s hs t k (out ++ [(((Utf8.decode s p).1 : Int), s.extract p (p + (Utf8.decode s p).2))]) (by omega) (by simp only [List.length_append, List.length_singleton]; omega)
    refine ⟨p', ?_⟩
    rw [loop_step (b := (s, p + (Utf8.decode s p).2, out ++ [(((Utf8.decode s p).1 : Int), s.extract p (p + (Utf8.decode s p).2))])), e, sg, List.append_assoc, List.singleton_append]
    unfold L17_8 F19
    simp only [decide_eq_true h, cond_true, Int.toNat_natCast, hdg, Option.bind_some]
    have hwr : IntKind.wrap .i64 ((p : Int) + ((Utf8.decode s p).2 : Int)) = ((p + (Utf8.decode s p).2 : Nat) : Int) := by rw [w64 (by omega) (by omega)]; omega
    rw [grdT (by unfold bnds; exact decide_eq_true (by omega)), hwr, grdT (by unfold bnds; exact decide_eq_true (by omega)), grdD (by simp only [List.length_singleton]; omega), Int.toNat_natCast]
theorem signs_run (K : Nat) {s : ByteArray} (hs : s.size ≤ 1000000000) {L : List (Nat × Nat)} (hL : Runes s 0 L) (hk : L.length < K) (hl : L.length ≤ s.size) : F17 K s = some (sg s 0 L) := by
  obtain ⟨p', e⟩ := signs_loop K s hs hL K [] hk (by simp only [List.length_nil]; omega)
  unfold F17
  rw [e]; rfl
/-! an item and a rune -/
def inEnds (c : Int) (l : List (Int × Int)) : Bool := l.any fun e => decide (e.1 ≤ c) && decide (c ≤ e.2)
def ft (x : It) (c : Int) : Bool := if x.1 == 1 then true else if x.1 == 3 then (if inEnds c x.2.2.2.2 then !x.2.2.2.1 else x.2.2.2.1) else x.2.1 == c
theorem fits_loop (K : Nat) (n : Bool) (l : List (Int × Int)) (c : Int) (hl : l.length ≤ 1000000) : ∀ (m i k : Nat), i + m = l.length → m < k → ∃ r, loopN (L18_19 K n l c) k (i : Int) = some r ∧ sel (fun y => some y) (fun _ => some n) r = some (if inEnds c (l.drop i) then !n else n)
  | 0, i, k, hi, hk => by
    obtain ⟨k, rfl⟩ : ∃ j, k = j + 1 := ⟨k - 1, by omega⟩
    refine ⟨.inr (), loop_end ?_, ?_⟩
    · unfold L18_19; rw [condF (by omega)]
    · rw [List.drop_of_length_le (by omega)]; rfl
  | m + 1, i, k, hi, hk => by
    obtain ⟨k, rfl⟩ : ∃ j, k = j + 1 := ⟨k - 1, by omega⟩
    have hlt : i < l.length := by omega
    have hd : l.drop i = l[i] :: l.drop (i + 1) := List.drop_eq_getElem_cons hlt
    have body : L18_19 K n l c (i : Int) = cond (decide (l[i].1 ≤ c) && decide (c ≤ l[i].2)) (some (.inr (.inl (!n)))) (some (.inl ((i + 1 : Nat) : Int))) := by
      unfold L18_19
      rw [condT (by omega), ixn, List.getElem?_eq_getElem hlt, Option.bind_some, w64 (by omega) (by omega)]
      cases decide (l[i].1 ≤ c) <;> cases decide (c ≤ l[i].2) <;> rfl
    have hin : inEnds c (l.drop i) = ((decide (l[i].1 ≤ c) && decide (c ≤ l[i].2)) || inEnds c (l.drop (i + 1))) := by
      unfold inEnds; rw [hd, List.any_cons]
    cases hc : (decide (l[i].1 ≤ c) && decide (c ≤ l[i].2)) with
    | true =>
      rw [hc] at body hin
      exact ⟨_, loop_end body, by rw [hin]; rfl⟩
    | false =>
      rw [hc] at body hin
      obtain ⟨r, h1, h2⟩ := fits_loop K n l c hl m (i + 1) k (by omega) (by omega)
      exact ⟨r, by rw [loop_step body]; exact h1, by rw [h2, hin, Bool.false_or]⟩
theorem fits_run (K : Nat) (x : It) (c : Int) (hK : x.2.2.2.2.length < K) (hl : x.2.2.2.2.length ≤ 1000000) : F18 K x.1 x.2.1 x.2.2.1 x.2.2.2.1 x.2.2.2.2 c = some (ft x c) := by
  unfold F18 ft
  cases x.1 == 1 with
  | true => rfl
  | false =>
    cases x.1 == 3 with
    | false => rfl
    | true =>
      obtain ⟨r, h1, h2⟩ := fits_loop K x.2.2.2.1 x.2.2.2.2 c hl x.2.2.2.2.length 0 K (by omega) hK
      rw [cond_false, cond_true, show (0 : Int) = ((0 : Nat) : Int) from rfl, h1, Option.bind_some]
      exact h2
/-! matching -/
def suf (f : List Int → Bool) : List Int → Bool
  | [] => f []
  | c :: t => f (c :: t) || suf f t
def hd (g : Int → List Int → Bool) : List Int → Bool
  | [] => false
  | c :: t => g c t
def M : List It → List Int → Bool
  | [], t => t.isEmpty
  | x :: l, t => if x.1 == 2 then suf (M l) t else hd (fun c t => ft x c && M l t) t
theorem M_cons (x : It) (l : List It) (t : List Int) : M (x :: l) t = if x.1 == 2 then suf (M l) t else hd (fun c t => ft x c && M l t) t := rfl
theorem suf_drop (f : List Int → Bool) : ∀ (t : List Int) (j : Nat), suf f (t.drop j) = true → suf f t = true
  | [], j, h => by simpa using h
  | c :: t, 0, h => h
  | c :: t, j + 1, h => by
    rw [List.drop_succ_cons] at h
    rw [suf, suf_drop f t j h, Bool.or_true]
theorem suf_ex (f : List Int → Bool) : ∀ (t : List Int), suf f t = true → ∃ j, j ≤ t.length ∧ f (t.drop j) = true
  | [], h => ⟨0, by simp, h⟩
  | c :: t, h => by
    rw [suf, Bool.or_eq_true] at h
    rcases h with h | h
    · exact ⟨0, by simp, h⟩
    · obtain ⟨j, h1, h2⟩ := suf_ex f t h
      exact ⟨j + 1, by simp only [List.length_cons]; omega, by simpa using h2⟩
theorem suf_of (f : List Int → Bool) : ∀ (t : List Int) (j : Nat), f (t.drop j) = true → suf f t = true
  | [], j, h => by simpa [suf] using h
  | c :: t, 0, h => by rw [suf]; rw [List.drop_zero] at h; rw [h, Bool.true_or]
  | c :: t, j + 1, h => by
    rw [List.drop_succ_cons] at h
    rw [suf, suf_of f t j h, Bool.or_true]
theorem suf_at (f : List Int → Bool) {t : List Int} {j : Nat} (h : j < t.length) : suf f (t.drop j) = (f (t.drop j) || suf f (t.drop (j + 1))) := by
  rw [List.drop_eq_getElem_cons h, suf]
/-- what is left to try -/
def B (l : List It) (t : List Int) (a back : Nat) : Bool := decide (0 < a) && (decide (back < t.length) && suf (M (l.drop (a - 1))) (t.drop (back + 1)))
theorem seg_M (l : List It) (t : List Int) (rest : Nat) : ∀ (d i b : Nat), i + d = rest → rest ≤ l.length → (∀ q, i ≤ q → q < rest → ∀ x, l[q]? = some x → x.1 ≠ 2) → M (l.drop i) (t.drop b) = true → b + d ≤ t.length ∨ d = 0 → M (l.drop rest) (t.drop (b + d)) = true
  | 0, i, b, h1, h2, hq, hM, _ => by rw [Nat.add_zero] at *; rw [← h1]; exact hM
  | d + 1, i, b, h1, h2, hq, hM, hb => by
    have hi : i < l.length := by omega
    rw [List.drop_eq_getElem_cons hi, M_cons] at hM
    have hne : (l[i].1 == 2) = false := by rw [beq_eq_false_iff_ne]; exact hq i (by omega) (by omega) _ (List.getElem?_eq_getElem hi)
    rw [hne] at hM
    have hbl : b < t.length := by omega
    rw [List.drop_eq_getElem_cons hbl] at hM
    simp only [Bool.false_eq_true, if_false, hd, Bool.and_eq_true] at hM
    have := seg_M l t rest d (i + 1) (b + 1) (by omega) h2 (fun q a c => hq q (by omega) c) hM.2 (by omega)
    rwa [show b + 1 + d = b + (d + 1) by omega] at this
theorem seg_len (l : List It) (t : List Int) (rest : Nat) : ∀ (d i b : Nat), i + d = rest → rest ≤ l.length → (∀ q, i ≤ q → q < rest → ∀ x, l[q]? = some x → x.1 ≠ 2) → b ≤ t.length → M (l.drop i) (t.drop b) = true → b + d ≤ t.length
  | 0, i, b, h1, h2, hq, hb, hM => hb
  | d + 1, i, b, h1, h2, hq, hb, hM => by
    have hi : i < l.length := by omega
    rw [List.drop_eq_getElem_cons hi, M_cons] at hM
    have hne : (l[i].1 == 2) = false := by rw [beq_eq_false_iff_ne]; exact hq i (by omega) (by omega) _ (List.getElem?_eq_getElem hi)
    rw [hne] at hM
    by_cases hbl : b < t.length
    · rw [List.drop_eq_getElem_cons hbl] at hM
      simp only [Bool.false_eq_true, if_false, hd, Bool.and_eq_true] at hM
      have := seg_len l t rest d (i + 1) (b + 1) (by omega) h2 (fun q a c => hq q (by omega) c) (by omega) hM.2
      omega
    · rw [List.drop_of_length_le (show t.length ≤ b by omega)] at hM
      cases hM
theorem body_eq (K : Nat) (l : List It) (y : List Sg) (hl : l.length ≤ 1000) (hy : y.length ≤ 1000) (hK : 2000000 ≤ K) (he : ∀ x ∈ l, x.2.2.2.2.length ≤ 1000) (i a b j : Nat) (hi : i ≤ l.length) (hj : j ≤ y.length) (hb : b ≤ y.length) :
    L9_20 K (true, l) y ((i : Int), (a : Int) - 1, (b : Int), (j : Int)) =
      if j < y.length ∨ i < l.length then
        if (l[i]?.map fun x => x.1 == 2) = some true then some (.inl (((i + 1 : Nat) : Int), ((i + 2 : Nat) : Int) - 1, (j : Int), (j : Int)))
        else if (l[i]?.bind fun x => y[j]?.map fun c => ft x c.1) = some true then some (.inl (((i + 1 : Nat) : Int), (a : Int) - 1, (b : Int), ((j + 1 : Nat) : Int)))
        else if 0 < a ∧ b < y.length then some (.inl (((a - 1 : Nat) : Int), (a : Int) - 1, ((b + 1 : Nat) : Int), ((b + 1 : Nat) : Int)))
        else some (.inr (.inl ()))
      else some (.inr (.inr ())) := by
  have w1 : IntKind.wrap .i64 ((i : Int) + 1) = ((i + 1 : Nat) : Int) := by rw [w64 (by omega) (by omega)]; omega
  have w2 : IntKind.wrap .i64 ((j : Int) + 1) = ((j + 1 : Nat) : Int) := by rw [w64 (by omega) (by omega)]; omega
  have w3 : IntKind.wrap .i64 ((b : Int) + 1) = ((b + 1 : Nat) : Int) := by rw [w64 (by omega) (by omega)]; omega
  have w4 : ((i + 2 : Nat) : Int) - 1 = ((i + 1 : Nat) : Int) := by omega
  unfold L9_20
  simp only [w1, w2, w3, w4, ixn, Int.toNat_natCast]
  have e1 : ((cond (decide ((j : Int) < (y.length : Int))) (some true) (some (decide ((i : Int) < (l.length : Int)))) : Option Bool)) = some (decide (j < y.length ∨ i < l.length)) := by
    by_cases h : j < y.length
    · rw [condT (by omega), decide_eq_true (Or.inl h)]
    · rw [condF (by omega)]
      congr 1
      rw [decide_eq_decide]; omega
  rw [e1, Option.bind_some]
  by_cases h0 : j < y.length ∨ i < l.length
  rotate_left
  · rw [decide_eq_false h0, if_neg h0]; rfl
  rw [decide_eq_true h0, if_pos h0, cond_true]
  have e4 : ((cond (decide ((0 : Int) ≤ (a : Int) - 1)) (some (decide ((b : Int) < (y.length : Int)))) (some false) : Option Bool)) = some (decide (0 < a ∧ b < y.length)) := by
    by_cases h : 0 < a
    · rw [condT (by omega)]
      congr 1
      rw [decide_eq_decide]; omega
    · rw [condF (by omega), decide_eq_false (fun hh => h hh.1)]
  have tail : (((cond (decide ((0 : Int) ≤ (a : Int) - 1)) (some (decide ((b : Int) < (y.length : Int)))) (some false) : Option Bool)).bind fun y92 => 
      cond y92 (some (.inl ((a : Int) - 1, (a : Int) - 1, ((b + 1 : Nat) : Int), ((b + 1 : Nat) : Int)))) (some (.inr (.inl ())))) = if 0 < a ∧ b < y.length then (some (.inl (((a - 1 : Nat) : Int), (a : Int) - 1, ((b + 1 : Nat) : Int), ((b + 1 : Nat) : Int))) : Option ((Int × Int × Int × Int) ⊕ (Unit ⊕ Unit))) else some (.inr (.inl ())) := by
    rw [e4, Option.bind_some]
    by_cases h : 0 < a ∧ b < y.length
    · rw [decide_eq_true h, if_pos h, cond_true, show (a : Int) - 1 = ((a - 1 : Nat) : Int) by omega]
    · rw [decide_eq_false h, if_neg h]; rfl
  by_cases hil : i < l.length
  · have hli : l[i]? = some l[i] := List.getElem?_eq_getElem hil
    have hlen := he _ (List.getElem_mem hil)
    simp only [hli, Option.map_some, Option.bind_some]
    rw [condT (by omega), Option.bind_some]
    cases hst : l[i].1 == 2 with
    | true => rfl
    | false =>
      rw [cond_false, if_neg (by simp)]
      by_cases hjl : j < y.length
      · have hyj : y[j]? = some y[j] := List.getElem?_eq_getElem hjl
        simp only [hyj, Option.map_some, Option.bind_some]
        rw [condT (by omega), condT (by omega), fits_run K l[i] y[j].1 (by omega) (by omega), Option.bind_some, Option.bind_some]
        cases ft l[i] y[j].1 with
        | true => rfl
        | false => rw [cond_false, if_neg (by simp)]; exact tail
      · rw [condT (by omega), condF (by omega), Option.bind_some, cond_false, List.getElem?_eq_none (by omega), Option.map_none, if_neg (by simp)]; exact tail
  · rw [condF (by omega), Option.bind_some, cond_false, List.getElem?_eq_none (by omega), Option.map_none, if_neg (by simp), Option.bind_none, if_neg (by simp), condF (by omega), Option.bind_some, cond_false]; exact tail
theorem match_loop (K : Nat) (l : List It) (y : List Sg) (hl : l.length ≤ 1000) (hy : y.length ≤ 1000) (hK : 2000000 ≤ K) (he : ∀ x ∈ l, x.2.2.2.2.length ≤ 1000) (t : List Int) (ht : t = y.map (·.1)) :
    ∀ (u k i a b j : Nat), i ≤ l.length → a ≤ l.length + 1 → b ≤ y.length → j ≤ y.length → (l.length + 1 - a) * ((y.length + 1) * (l.length + 1)) + (y.length - b) * (l.length + 1) + (l.length - i) = u → u < k →
      (0 < a → ∃ d, i = a - 1 + d ∧ j = b + d ∧ (∀ q, a - 1 ≤ q → q < i → ∀ x, l[q]? = some x → x.1 ≠ 2)) →
      ∃ r, loopN (L9_20 K (true, l) y) k ((i : Int), (a : Int) - 1, (b : Int), (j : Int)) = some r ∧ sel (fun _ => some false) (fun _ => some true) r = some (M (l.drop i) (t.drop j) || B l t a b) := by
  have htl : t.length = y.length := by rw [ht, List.length_map]
  intro u
  induction u using Nat.strongRecOn with
  | ind u ih =>
    intro k i a b j hi ha hb hj hu hk hseg
    obtain ⟨k, rfl⟩ : ∃ q, k = q + 1 := ⟨k - 1, by omega⟩
    have body := body_eq K l y hl hy hK he i a b j hi hj hb
    by_cases h0 : j < y.length ∨ i < l.length
    rotate_left
    · rw [if_neg h0] at body
      refine ⟨_, loop_end body, ?_⟩
      rw [List.drop_of_length_le (by omega), List.drop_of_length_le (by omega)]; rfl
    rw [if_pos h0] at body
    have fail : M (l.drop i) (t.drop j) = false → ¬ (l[i]?.map fun x => x.1 == 2) = some true → ¬ (l[i]?.bind fun x => y[j]?.map fun c => ft x c.1) = some true → ∃ r, loopN (L9_20 K (true, l) y) (k + 1) ((i : Int), (a : Int) - 1, (b : Int), (j : Int)) = some r ∧ sel (fun _ => some false) (fun _ => some true) r = some (M (l.drop i) (t.drop j) || B l t a b) := fun hM h1 h2 => by
      rw [if_neg h1, if_neg h2] at body
      by_cases h3 : 0 < a ∧ b < y.length
      · rw [if_pos h3] at body
        have hm : (l.length + 1 - a) * ((y.length + 1) * (l.length + 1)) + (y.length - (b + 1)) * (l.length + 1) + (l.length - (a - 1)) < u := by
          have e : (y.length - b) = (y.length - (b + 1)) + 1 := by omega
          have e2 : (y.length - b) * (l.length + 1) = (y.length - (b + 1)) * (l.length + 1) + (l.length + 1) := by rw [e, Nat.add_mul, Nat.one_mul]
          rw [← hu, e2]
          omega
        obtain ⟨r, r1, r2⟩ := ih _ hm k (a - 1) a (b + 1) (b + 1) (by omega) ha (by omega) (by omega) rfl (by omega) (fun _ => ⟨0, by omega, by omega, fun q h5 h6 => by omega⟩)
        refine ⟨r, by rw [loop_step body]; exact r1, ?_⟩
        rw [r2, hM, Bool.false_or]
        congr 1
        unfold B
        rw [decide_eq_true h3.1, decide_eq_true (by omega : b < t.length), Bool.true_and, Bool.true_and, Bool.true_and]
        by_cases h4 : b + 1 < t.length
        · rw [suf_at _ h4, decide_eq_true h4, Bool.true_and]
        · rw [decide_eq_false h4, Bool.false_and, Bool.or_false, List.drop_of_length_le (show t.length ≤ b + 1 by omega)]; rfl
      · rw [if_neg h3] at body
        refine ⟨_, loop_end body, ?_⟩
        rw [hM]
        unfold B
        by_cases h4 : 0 < a
        · rw [decide_eq_false (by omega : ¬ b < t.length), Bool.false_and, Bool.and_false]; rfl
        · rw [decide_eq_false h4, Bool.false_and]; rfl
    by_cases hil : i < l.length
    rotate_left
    · refine fail ?_ ?_ ?_
      · rw [List.drop_of_length_le (by omega), List.drop_eq_getElem_cons (by omega : j < t.length)]; rfl
      · rw [List.getElem?_eq_none (by omega)]; simp
      · rw [List.getElem?_eq_none (by omega)]; simp
    have hli : l[i]? = some l[i] := List.getElem?_eq_getElem hil
    have hdi : l.drop i = l[i] :: l.drop (i + 1) := List.drop_eq_getElem_cons hil
    cases hst : l[i].1 == 2 with
    | true =>
      rw [if_pos (by rw [hli, Option.map_some, hst])] at body
      have hm : (l.length + 1 - (i + 2)) * ((y.length + 1) * (l.length + 1)) + (y.length - j) * (l.length + 1) + (l.length - (i + 1)) < u := by
        have hai : a ≤ i + 1 := by
          rcases Nat.eq_zero_or_pos a with h | h
          · omega
          · obtain ⟨d, e1, _⟩ := hseg h; omega
        have h5 : (l.length + 1 - (i + 2)) + 1 ≤ l.length + 1 - a := by omega
        have h6 := Nat.mul_le_mul_right ((y.length + 1) * (l.length + 1)) h5
        have h7 : (y.length - j) * (l.length + 1) ≤ y.length * (l.length + 1) := Nat.mul_le_mul_right _ (by omega)
        rw [Nat.add_mul, Nat.one_mul, Nat.add_mul (y.length) 1, Nat.one_mul] at h6
        rw [← hu]
        rw [Nat.add_mul (y.length) 1, Nat.one_mul]
        omega
      obtain ⟨r, r1, r2⟩ := ih _ hm k (i + 1) (i + 2) j j (by omega) (by omega) hj hj rfl (by omega) (fun _ => ⟨0, by omega, by omega, fun q h5 h6 => by omega⟩)
      refine ⟨r, by rw [loop_step body]; exact r1, ?_⟩
      rw [r2]
      congr 1
      have hMi : M (l.drop i) (t.drop j) = suf (M (l.drop (i + 1))) (t.drop j) := by rw [hdi, M_cons, hst]; rfl
      have hnew : (M (l.drop (i + 1)) (t.drop j) || B l t (i + 2) j) = M (l.drop i) (t.drop j) := by
        rw [hMi]
        unfold B
        rw [decide_eq_true (by omega : 0 < i + 2), Bool.true_and, show i + 2 - 1 = i + 1 by omega]
        by_cases h4 : j < t.length
        · rw [suf_at _ h4, decide_eq_true h4, Bool.true_and]
        · rw [decide_eq_false h4, Bool.false_and, Bool.or_false, List.drop_of_length_le (show t.length ≤ j by omega)]; rfl
      rw [hnew]
      cases hB : B l t a b with
      | false => rw [Bool.or_false]
      | true =>
        rw [Bool.or_true]
        unfold B at hB
        simp only [Bool.and_eq_true, decide_eq_true_eq] at hB
        obtain ⟨h1, h2, h3⟩ := hB
        obtain ⟨d, d1, d2, d3⟩ := hseg h1
        obtain ⟨q, q1, q2⟩ := suf_ex _ _ h3
        rw [List.drop_drop] at q2
        rw [List.length_drop] at q1
        have hbl : b + 1 + q ≤ t.length := by omega
        have hlen := seg_len l t i d (a - 1) (b + 1 + q) (by omega) (by omega) d3 hbl q2
        have hM := seg_M l t i d (a - 1) (b + 1 + q) (by omega) (by omega) d3 q2 (.inl hlen)
        rw [hdi, M_cons, hst] at hM
        simp only [if_true] at hM
        rw [hMi]
        refine suf_drop _ _ (1 + q) ?_
        rw [List.drop_drop, show j + (1 + q) = b + 1 + q + d by omega]
        exact hM
    | false =>
      have n1 : ¬ (l[i]?.map fun x => x.1 == 2) = some true := by rw [hli, Option.map_some, hst]; simp
      by_cases hjl : j < y.length
      rotate_left
      · refine fail ?_ n1 ?_
        · rw [hdi, M_cons, hst, List.drop_of_length_le (show t.length ≤ j by omega)]; rfl
        · rw [hli, Option.bind_some, List.getElem?_eq_none (by omega)]; simp
      have hyj : y[j]? = some y[j] := List.getElem?_eq_getElem hjl
      have htj : t[j]'(by omega) = y[j].1 := by subst ht; rw [List.getElem_map]
      have hMi : M (l.drop i) (t.drop j) = (ft l[i] y[j].1 && M (l.drop (i + 1)) (t.drop (j + 1))) := by
        rw [hdi, M_cons, hst, List.drop_eq_getElem_cons (by omega : j < t.length), htj]; rfl
      cases hf : ft l[i] y[j].1 with
      | false =>
        refine fail (by rw [hMi, hf, Bool.false_and]) n1 ?_
        rw [hli, Option.bind_some, hyj, Option.map_some, hf]; simp
      | true =>
        rw [if_neg n1, if_pos (by rw [hli, Option.bind_some, hyj, Option.map_some, hf])] at body
        have hm : (l.length + 1 - a) * ((y.length + 1) * (l.length + 1)) + (y.length - b) * (l.length + 1) + (l.length - (i + 1)) < u := by
          clear hseg ih
          omega
        have hm2 : (l.length + 1 - a) * ((y.length + 1) * (l.length + 1)) + (y.length - b) * (l.length + 1) + (l.length - (i + 1)) < k := by
          clear hseg ih
          omega
        obtain ⟨r, r1, r2⟩ := ih _ hm k (i + 1) a b (j + 1) hil ha hb hjl rfl hm2 (fun h => by
          obtain ⟨d, d1, d2, d3⟩ := hseg h
          refine ⟨d + 1, by omega, by omega, fun q h5 h6 x hx => ?_⟩
          by_cases hqi : q = i
          · subst hqi
            rw [hli] at hx
            cases hx
            exact beq_eq_false_iff_ne.1 hst
          · exact d3 q h5 (by omega) x hx)
        exact ⟨r, by rw [loop_step body]; exact r1, by rw [r2, hMi, hf, Bool.true_and]⟩
end Go.Proofs.YtodhjfdlbbpbpaaDoor.PGlob1
