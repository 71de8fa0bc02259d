/- Plain law: RollPlays. -/
import Derived.Test.YtljbepjbecjpiaaPureDrop
namespace Go.Proofs.Ytljbepjbecjpiaa.PureRollPlays
open Go.RowKit Go.Proofs.Ytljbepjbecjpiaa.Mc Go.Proofs.Ytljbepjbecjpiaa.N Go.Proofs.Ytljbepjbecjpiaa.Plain
open Go.Proofs.Ytljbepjbecjpiaa.PureRoll hiding len0 u32_wf i64_wf
open Go.Proofs.Ytljbepjbecjpiaa.PureMade Go.Proofs.Ytljbepjbecjpiaa.PureDrop
set_option linter.unusedSimpArgs false
set_option linter.unusedVariables false

/-! the reference's functions -/
theorem ref_of (q last : Int) (l : Places) (hl : l.length ≤ 60) : F20 100 q last l = some (ofR q l) := by
  unfold F20 ofR
  by_cases he : ∃ x ∈ l, (x.1 == q) = true
  · have hlt := List.findIdx_lt_length_of_exists he
    have hf : l.find? (fun p => p.1 == q) = some l[l.findIdx fun p => p.1 == q] := by
      rw [List.find?_eq_some_iff_getElem]
      refine ⟨List.findIdx_getElem (w := hlt), _, hlt, rfl, fun j hj => ?_⟩
      have := List.not_of_lt_findIdx hj
      simpa using this
    generalize hp : l[l.findIdx fun p => p.1 == q] = p at hf
    have loop : loopN (L20_6 100 q l) 100 0 = some (.inl (p.1, p.2.1, p.2.2)) := by
      refine loop_go (fun i => (i : Int)) (l.findIdx fun p => p.1 == q) rfl (by omega) (fun i hi => ?_) ?_
      · have hn := List.not_of_lt_findIdx hi
        unfold L20_6
        have hil : i < l.length := by omega
        rw [condT (by omega)]
        simp only [ixn, Int.toNat_natCast, List.getElem?_eq_getElem hil, Option.bind_some]
        have : (l[i].1 == q) = false := by simpa using hn
        rw [this, cond_false, w64 (by omega) (by omega)]; rfl
      · unfold L20_6
        rw [condT (by omega)]
        simp only [ixn, Int.toNat_natCast, List.getElem?_eq_getElem hlt, Option.bind_some]
        have : (l[l.findIdx fun p => p.1 == q].1 == q) = true := List.findIdx_getElem (w := hlt)
        rw [this, cond_true, hp]
    rw [loop, hf]; rfl
  · have hno : ∀ x ∈ l, (x.1 == q) = false := fun x hx => by
      cases h : x.1 == q with
      | false => rfl
      | true => exact absurd ⟨x, hx, h⟩ he
    have hf : l.find? (fun p => p.1 == q) = none := by
      rw [List.find?_eq_none]; intro x hx; rw [hno x hx]; simp
    have loop : loopN (L20_6 100 q l) 100 0 = some (.inr ()) := by
      refine loop_go (fun i => (i : Int)) l.length rfl (by omega) (fun i hi => ?_) ?_
      · unfold L20_6
        rw [condT (by omega)]
        simp only [ixn, Int.toNat_natCast, List.getElem?_eq_getElem hi, Option.bind_some]
        rw [hno _ (List.getElem_mem hi), cond_false, w64 (by omega) (by omega)]; rfl
      · unfold L20_6
        rw [condF (by omega)]
    rw [loop, hf]; rfl

theorem inR_take (r : Int) (l : Places) (i : Nat) (hi : i < l.length) : inR r (l.take (i + 1)) = if hasR r l[i].2.2 then inR r (l.take i) ++ [l[i].1] else inR r (l.take i) := by
  rw [inR, List.take_add_one, List.getElem?_eq_getElem hi]
  simp only [Option.toList_some, List.filter_append, List.map_append]
  by_cases h : hasR r l[i].2.2 = true
  · simp [h, inR]
  · simp [h, inR]
theorem inR_len (r : Int) (l : Places) : (inR r l).length ≤ l.length := by
  unfold inR
  rw [List.length_map]
  exact List.length_filter_le _ _
theorem ref_in (r last : Int) (l : Places) (hl : l.length ≤ 60) (hs : ∀ p ∈ l, p.2.2.length ≤ 50) : F22 100 r last l = some (inR r l) := by
  have loop : loopN (L22_8 100 r l) 100 (0, []) = some (inR r l) := by
    refine loop_go (fun i => ((i : Int), inR r (l.take i))) l.length (by simp [inR]) (by omega) (fun i hi => ?_) ?_
    · have hsi := hs _ (List.getElem_mem hi)
      have hin : loopN (L22_23 100 r l ((i : Int), inR r (l.take i))) 100 (false, 0) = some (hasR r l[i].2.2) := by
        refine loop_go (fun j => (hasR r (l[i].2.2.take j), (j : Int))) l[i].2.2.length rfl (by omega) (fun j hj => ?_) ?_
        · unfold L22_23
          simp only [ixn, Int.toNat_natCast, List.getElem?_eq_getElem hi, List.getElem?_eq_getElem hj, Option.bind_some]
          rw [condT (by omega)]
          have e : hasR r (l[i].2.2.take (j + 1)) = (hasR r (l[i].2.2.take j) || (l[i].2.2[j].1 == r)) := by
            unfold hasR; rw [List.take_add_one, List.getElem?_eq_getElem hj, List.any_append]; simp only [Option.toList_some, List.any_cons, List.any_nil, Bool.or_false]
          rw [e]
          cases hx : l[i].2.2[j].1 == r
          · simp only [cond_false, Option.bind_some, Bool.or_false]
            rw [w64 (by omega) (by omega)]; rfl
          · simp only [cond_true, Option.bind_some, Bool.or_true]
            rw [w64 (by omega) (by omega)]; rfl
        · unfold L22_23
          simp only [ixn, Int.toNat_natCast, List.getElem?_eq_getElem hi, Option.bind_some, List.take_length]
          rw [condF (by omega)]
      unfold L22_8
      have hlen := inR_len r (l.take i)
      rw [List.length_take] at hlen
      rw [condT (by omega), hin, inR_take r l i hi]
      simp only [ixn, Int.toNat_natCast, List.getElem?_eq_getElem hi, Option.bind_some]
      by_cases h : hasR r l[i].2.2 = true
      · rw [h, cond_true, grdD (by simp only [List.length_singleton]; omega)]
        simp only [Option.bind_some, if_true]
        rw [w64 (by omega) (by omega)]; rfl
      · rw [Bool.not_eq_true] at h
        rw [h, cond_false]
        simp only [Option.bind_some, Bool.false_eq_true, if_false]
        rw [w64 (by omega) (by omega)]; rfl
    · unfold L22_8
      simp only [List.take_length]
      rw [condF (by omega)]
  unfold F22
  rw [loop]; rfl

def Sorted (l : Places) : Prop := l.Pairwise fun a b => a.1 < b.1
theorem filter_low {f : Int} : ∀ {l : Places}, Sorted l → l.filter (fun p => decide (f < p.1)) = l.drop (low f l)
  | [], _ => rfl
  | p :: l, h => by
    obtain ⟨h1, h2⟩ := List.pairwise_cons.1 h
    by_cases hp : p.1 ≤ f
    · have e : low f (p :: l) = low f l + 1 := by unfold low; simp [List.takeWhile_cons, hp]
      rw [e, List.drop_succ_cons, List.filter_cons, if_neg (by simp; omega)]
      exact filter_low h2
    · have e : low f (p :: l) = 0 := by unfold low; simp [List.takeWhile_cons, hp]
      rw [e, List.drop_zero]
      refine List.filter_eq_self.2 fun x hx => ?_
      rcases List.mem_cons.1 hx with rfl | hx
      · simpa using hp
      · have := h1 x hx; simp; omega
theorem ref_drop (f last : Int) (l : Places) (hl : l.length ≤ 60) (hs : Sorted l) : F18 100 f last l = some ((low f l : Int), last, l.drop (low f l)) := by
  have loop : loopN (L18_8 100 f l) 100 (0, []) = some (l.filter fun p => decide (f < p.1)) := by
    refine loop_go (fun i => ((i : Int), (l.take i).filter fun p => decide (f < p.1))) l.length rfl (by omega) (fun i hi => ?_) ?_
    · unfold L18_8
      have hlen := List.length_filter_le (fun p : Int × Int × Spots => decide (f < p.1)) (l.take i)
      rw [List.length_take] at hlen
      have e : (l.take (i + 1)).filter (fun p => decide (f < p.1)) = if f < l[i].1 then (l.take i).filter (fun p => decide (f < p.1)) ++ [(l[i].1, l[i].2.1, l[i].2.2)] else (l.take i).filter fun p => decide (f < p.1) := by
        rw [List.take_add_one, List.getElem?_eq_getElem hi]
        simp only [Option.toList_some, List.filter_append]
        by_cases h : f < l[i].1
        · simp [h]
        · simp [h]
      rw [condT (by omega)]
      simp only [ixn, Int.toNat_natCast, List.getElem?_eq_getElem hi, Option.bind_some]
      rw [e]
      by_cases h : f < l[i].1
      · rw [condT h, if_pos h, List.length_singleton, grdD (Nat.le_trans (Nat.mul_le_mul_right 32 (Nat.add_le_add_right (Nat.le_trans hlen (Nat.le_trans (Nat.min_le_right _ _) hl)) 1)) (show (60 + 1) * 32 ≤ 140737488355328 by omega))]
        simp only [Option.bind_some]
        rw [w64 (by omega) (by omega)]; rfl
      · rw [condF h, if_neg h]
        simp only [Option.bind_some]
        rw [w64 (by omega) (by omega)]; rfl
    · unfold L18_8
      simp only [List.take_length]
      rw [condF (by omega)]
  unfold F18
  have hle := low_le f l
  rw [loop, filter_low hs]
  simp only [Option.bind_some, List.length_drop]
  rw [w64 (by omega) (by omega), show (l.length : Int) - ((l.length - low f l : Nat) : Int) = (low f l : Int) by omega]

theorem same_spots (s : Spots) (h : s.length ≤ 90) : F28 100 s s = some true := by
  unfold F28
  have loop : loopN (L28_14 100 s s) 100 0 = some (.inr ()) := by
    refine loop_go (fun j => (j : Int)) s.length rfl (by omega) (fun j hj => ?_) ?_
    · unfold L28_14
      rw [condT (by omega)]
      simp only [ixn, List.getElem?_eq_getElem hj, Option.bind_some, BEq.rfl, Bool.and_self, Bool.not_true, cond_false]
      rw [w64 (by omega) (by omega)]; rfl
    · unfold L28_14
      rw [condF (by omega)]
  rw [loop]
  simp [sel]
theorem same_place (a b : Int) (s : Spots) (h : s.length ≤ 90) : F21 100 a b s a b s = some true := by
  unfold F21
  rw [same_spots s h]; simp
theorem ofR_len (q : Int) (l : Places) (hs : ∀ p ∈ l, p.2.2.length ≤ 50) : (ofR q l).2.2.1.length ≤ 50 := by
  unfold ofR
  cases h : l.find? (fun p => p.1 == q) with
  | none => simp
  | some p => exact hs p (List.mem_of_find?_eq_some h)

theorem clone1 (k : Nat) (x : Spots) (h : x.length ≤ 1000000) : F30_1 k x = some x := clone k x h
theorem add_run1 (k : Nat) (seq frm : Int) (s : Spots) (last : Int) (l : Places) (hs : s.length ≤ 1000000) (hl : l.length ≤ 1000000) : F14_2 k seq frm last s l = some (add seq frm s last l) := by
  have := add_run k seq frm s last l hs hl
  exact this
theorem ref_add (k : Nat) (seq frm : Int) (s : Spots) (last : Int) (l : Places) (hs : s.length ≤ 1000000) (hl : l.length ≤ 1000000) : F23 k seq frm s last l = some (add seq frm s last l) := by
  unfold F23 add
  rw [Plain.len0]
  by_cases h0 : seq = 0
  · subst h0; simp
  · have e0 : (seq == 0) = false := by simpa using h0
    rw [e0]
    cases s with
    | nil => simp
    | cons y s =>
      by_cases hle : seq ≤ last
      · simp [h0, hle]
      · simp only [h0, hle, List.isEmpty_cons, cond_false, Option.bind_some, decide_false, if_false, or_self, reduceCtorEq]
        rw [grdD (by simp only [List.length_nil]; omega), grdD (by simp only [List.length_singleton]; omega)]; rfl

/-- regions brought in -/
theorem picks (s : Spots) (h : s.length ≤ 8) : ∃ s', loopN (L5_41 100) 100 (0, s) = some s' ∧ s'.length ≤ 8 := by
  refine loop_inv (fun (j : Nat) (z : Int × Spots) => z.1 = (j : Int) ∧ z.2.length = s.length) (fun (r : Spots) => r.length ≤ 8) s.length ⟨rfl, rfl⟩ (by omega) ?_ ?_
  · rintro j ⟨_, z⟩ hj ⟨rfl, hz⟩
    simp only at hz
    unfold L5_41
    have hjz : j < z.length := by omega
    simp only [ixn, Int.toNat_natCast, List.getElem?_eq_getElem hjz, Option.bind_some, pick _ _ 5 (show (0 : Int) < 5 by omega) (by omega)]
    rw [condT (by omega), w64 (by omega) (by omega)]
    exact ⟨_, rfl, rfl, by simp only [List.length_set]; exact hz⟩
  · rintro ⟨_, z⟩ ⟨rfl, hz⟩
    simp only at hz
    unfold L5_41
    simp only
    rw [condF (by omega)]
    exact ⟨_, rfl, by omega⟩
theorem turns (s : Spots) (h : s.length ≤ 8) : ∃ s', loopN (L5_113 100) 100 (0, s) = some s' := by
  have : ∃ s', loopN (L5_113 100) 100 (0, s) = some s' ∧ True := by
    refine loop_inv (fun (j : Nat) (z : Int × Spots) => z.1 = (j : Int) ∧ z.2.length = s.length) (fun (r : Spots) => True) s.length ⟨rfl, rfl⟩ (by omega) ?_ ?_
    · rintro j ⟨_, z⟩ hj ⟨rfl, hz⟩
      simp only at hz
      unfold L5_113
      have hjz : j < z.length := by omega
      simp only [ixn, Int.toNat_natCast, List.getElem?_eq_getElem hjz, Option.bind_some]
      rw [condT (by omega), w64 (by omega) (by omega)]
      exact ⟨_, rfl, rfl, by simp only [List.length_set]; exact hz⟩
    · rintro ⟨_, z⟩ ⟨rfl, hz⟩
      simp only at hz
      unfold L5_113
      simp only
      rw [condF (by omega)]
      exact ⟨_, rfl, trivial⟩
  obtain ⟨s', h1, _⟩ := this
  exact ⟨s', h1⟩

structure Inv (i : Nat) (t : Int) (L : Places) : Prop where
  len : L.length ≤ i
  sp : ∀ p ∈ L, p.2.2.length ≤ 8
  sorted : Sorted L
  top : ∀ p ∈ L, p.1 ≤ t

theorem Inv.drop {i : Nat} {t : Int} {L : Places} (h : Inv i t L) (n : Nat) : Inv (i + 1) t (L.drop n) :=
  ⟨by rw [List.length_drop]; have := h.len; omega, fun p hp => h.sp p (List.mem_of_mem_drop hp), List.Pairwise.sublist (List.drop_sublist _ _) h.sorted, fun p hp => h.top p (List.mem_of_mem_drop hp)⟩
theorem Inv.next {i : Nat} {t : Int} {L : Places} (h : Inv i t L) : Inv (i + 1) t L := ⟨by have := h.len; omega, h.sp, h.sorted, h.top⟩
theorem Inv.add {i : Nat} {t seq frm : Int} {L : Places} {s : Spots} (h : Inv i t L) (hs : s.length ≤ 8) : Inv (i + 1) (add seq frm s t L).2.1 (add seq frm s t L).2.2 := by
  unfold PureRoll.add
  split
  · exact h.next
  · split
    · exact h.next
    · rename_i h1 h2
      refine ⟨by simp only [List.length_append, List.length_singleton]; have := h.len; omega, fun p hp => ?_, ?_, fun p hp => ?_⟩
      · rcases List.mem_append.1 hp with hp | hp
        · exact h.sp p hp
        · rw [List.mem_singleton.1 hp]; exact hs
      · refine List.pairwise_append.2 ⟨h.sorted, List.pairwise_singleton _ _, fun a ha b hb => ?_⟩
        rw [List.mem_singleton.1 hb]
        have := h.top a ha
        show a.1 < seq
        omega
      · rcases List.mem_append.1 hp with hp | hp
        · have := h.top p hp; show p.1 ≤ seq; omega
        · rw [List.mem_singleton.1 hp]; exact Int.le_refl _

abbrev Steps := List (Int × Int × Int × Int × Spots × Bool)
theorem step (x1 : Steps) (i : Nat) (hi : i < x1.length) (h50 : i < 50) (t : Int) (L : Places) (h : Inv i t L) : ∃ t' L', L5_18 100 x1 ((i : Int), t, t, L, L) = some (.inl ((i : Int) + 1, t', t', L', L')) ∧ Inv (i + 1) t' L' := by
  unfold L5_18
  have hlen : L.length ≤ 60 := by have := h.len; omega
  have hsp : ∀ p ∈ L, p.2.2.length ≤ 50 := fun p hp => by have := h.sp p hp; omega
  simp only [ixn, List.getElem?_eq_getElem hi, Option.bind_some]
  rw [condT (by omega), Option.bind_some, condT (by omega)]
  generalize x1[i] = x
  have hy : ∃ q a s, (cond x.2.2.2.2.2 (some ((IntKind.wrap .u32 (t + (x.2.2.1.tmod 3))), x.2.2.2.1, x.2.2.2.2.1)) (some (x.2.2.1, x.2.2.2.1, x.2.2.2.2.1)) : Option (Int × Int × Spots)) = some (q, a, s) := by
    cases x.2.2.2.2.2
    · exact ⟨_, _, _, rfl⟩
    · exact ⟨_, _, _, rfl⟩
  obtain ⟨q, a, s0, e0⟩ := hy
  rw [e0]
  simp only [Option.bind_some]
  have em : mn (s0.length : Int) 8 = ((min s0.length 8 : Nat) : Int) := by unfold mn; split <;> omega
  rw [em]
  have hcut : (cut s0 0 ((min s0.length 8 : Nat) : Int)).length ≤ 8 := by
    unfold cut
    rw [List.length_drop, List.length_take]
    omega
  generalize cut s0 0 ((min s0.length 8 : Nat) : Int) = s1 at hcut
  rw [grdT (by unfold bnds; exact decide_eq_true (by omega)), grdD (by simp only [List.length_nil]; omega), List.nil_append]
  obtain ⟨s, es, hs⟩ := picks s1 hcut
  rw [es]
  simp only [Option.bind_some, List.nil_append]
  rw [pick _ x.1 8 (by omega) (by omega)]
  simp only [Option.bind_some]
  generalize x.1 % 8 = m
  have hwi : IntKind.wrap .i64 ((i : Int) + 1) = (i : Int) + 1 := w64 (by omega) (by omega)
  by_cases h5 : m = 5
  · subst h5
    refine ⟨t, L.drop (low q L), ?_, h.drop _⟩
    simp only [BEq.rfl, cond_true, cond_false, drop_run _ _ _ hlen, ref_drop _ _ _ hlen h.sorted, Option.bind_some, bne_self_eq_false, sel, F15, F16, hwi]
  · have b5 : (m == 5) = false := by simpa using h5
    rw [b5]
    by_cases h6 : m = 6
    · subst h6
      refine ⟨t, L, ?_, h.next⟩
      have hol := ofR_len q L hsp
      simp only [BEq.rfl, cond_true, cond_false, of_run _ _ _ hlen hsp, ref_of _ _ _ hlen, Option.bind_some, Bool.not_true, same_place _ _ _ (Nat.le_trans hol (by omega : 50 ≤ 90)), bne_self_eq_false, sel, F15, F16, hwi]
    · have b6 : (m == 6) = false := by simpa using h6
      rw [b6]
      by_cases h7 : m = 7
      · subst h7
        refine ⟨t, L, ?_, h.next⟩
        have hr : ∃ r, (cond x.2.2.2.2.2 ((F10 100 x.2.1 5).bind fun y639 => some y639) (some x.2.1) : Option Int) = some r := by
          cases x.2.2.2.2.2
          · exact ⟨_, rfl⟩
          · rw [pick _ x.2.1 5 (by omega) (by omega)]; exact ⟨_, rfl⟩
        obtain ⟨r, er⟩ := hr
        have hil := inR_len r L
        simp only [BEq.rfl, cond_true, cond_false, er, in_run _ _ _ hlen hsp, ref_in _ _ _ hlen hsp, Option.bind_some, same1 _ (Nat.le_trans hil (Nat.le_trans hlen (by omega : 60 ≤ 90))), Bool.not_true, bne_self_eq_false, sel, F15, F16, hwi]
      · have b7 : (m == 7) = false := by simpa using h7
        rw [b7]
        refine ⟨_, _, ?_, h.add (seq := q) (frm := a) hs⟩
        obtain ⟨s9, e9⟩ := turns s hs
        simp only [cond_false]
        rw [grdD (by simp only [List.length_nil]; omega), add_run1 _ _ _ _ _ _ (by omega) (by omega), ref_add _ _ _ _ _ _ (by omega) (by omega)]
        simp only [Option.bind_some, bne_self_eq_false, cond_false, e9, sel, F15, F16, hwi]

theorem law (x1 : (List (Int × Int × Int × Int × (List (Int × Int)) × Bool))) (g : gdT [.sl (.int .i64 (.int .i64 (.int .u32 (.int .u32 (.sl (.int .i64 (.int .i64 .nil)) (.bool .nil))))))] (x1)) : ∃ k, F5 k x1 = some true := by
  refine ⟨100, ?_⟩
  have loop : ∃ r, loopN (L5_18 100 x1) 100 (0, 0, 0, [], []) = some r ∧ ∃ z, r = .inr z := by
    refine loop_inv (fun (i : Nat) (z : Int × Int × Int × Places × Places) => ∃ t L, z = ((i : Int), t, t, L, L) ∧ Inv i t L) _ (min x1.length 50) ⟨0, [], rfl, ⟨by simp, by simp, List.Pairwise.nil, by simp⟩⟩ (by omega) ?_ ?_
    · rintro i _ hi ⟨t, L, rfl, hI⟩
      obtain ⟨t', L', h1, h2⟩ := step x1 i (by omega) (by omega) t L hI
      exact ⟨_, h1, t', L', rfl, h2⟩
    · rintro _ ⟨t, L, rfl, hI⟩
      unfold L5_18
      by_cases h : ((min x1.length 50 : Nat) : Int) < (x1.length : Int)
      · rw [condT h, Option.bind_some, condF (by omega)]; exact ⟨_, rfl, _, rfl⟩
      · rw [condF h, Option.bind_some]; exact ⟨_, rfl, _, rfl⟩
  obtain ⟨_, h1, z, rfl⟩ := loop
  unfold F5 F13
  rw [alive]
  simp only [Option.bind_some, Bool.not_true, cond_false]
  rw [h1]; rfl
end Go.Proofs.Ytljbepjbecjpiaa.PureRollPlays
