/- The roll that 'made' makes, and the groups of a region, told plainly. -/
import Derived.Test.YtljbepjbecjpiaaPureRoll
import Derived.Test.YtljbepjbecjpiaaPlain
namespace Go.Proofs.Ytljbepjbecjpiaa.PureMade
open Go.RowKit Go.Proofs.Ytljbepjbecjpiaa.Mc Go.Proofs.Ytljbepjbecjpiaa.N Go.Proofs.Ytljbepjbecjpiaa.Plain
open Go.Proofs.Ytljbepjbecjpiaa.PureRoll hiding len0 u32_wf i64_wf

set_option linter.unusedSimpArgs false

theorem pick (k : Nat) (a n : Int) (hn : 0 < n) (h2 : n < 1000000) : F10 k a n = some (a % n) := by
  unfold F10
  rw [grdT (by simp; omega)]
  have e := tmod_emod (a := a) hn
  have h1 := Int.emod_nonneg a (show n ≠ 0 by omega)
  have h3 := Int.emod_lt_of_pos a hn
  by_cases h : a.tmod n < 0
  · rw [if_pos h] at e
    rw [condT h, e, w64 (by omega) (by omega)]; rfl
  · rw [if_neg h] at e
    rw [condF h, e]; rfl

def grp (l : List (List Int)) (i : Nat) : List Int := l.getD i []
def pre (g : List Int) (n : Nat) : Spots := (List.range n).map fun j => (g.getD j 0 % 4, (j : Int))
def sp5 (g : List Int) : Spots := pre g (min g.length 5)
def spotsOf (g : List Int) (i : Nat) : Spots := if sp5 g = [] then [(0, (i : Int))] else sp5 g
def places (l : List (List Int)) (n : Nat) : Places := (List.range n).map fun (i : Nat) => ((i : Int) + 1, 1, spotsOf (grp l i) i)

theorem pre_len (g : List Int) (n : Nat) : (pre g n).length = n := by simp [pre]
theorem pre_succ (g : List Int) (n : Nat) : pre g (n + 1) = pre g n ++ [(g.getD n 0 % 4, (n : Int))] := by simp [pre, List.range_succ]
theorem places_len (l : List (List Int)) (n : Nat) : (places l n).length = n := by simp [places]
theorem places_succ (l : List (List Int)) (n : Nat) : places l (n + 1) = places l n ++ [((n : Int) + 1, 1, spotsOf (grp l n) n)] := by simp [places, List.range_succ]
theorem sp5_len (g : List Int) : (sp5 g).length ≤ 5 := by simp only [sp5, pre_len]; omega
theorem spotsOf_len (g : List Int) (i : Nat) : (spotsOf g i).length ≤ 5 := by
  unfold spotsOf
  split
  · simp
  · exact sp5_len g
theorem spotsOf_ne (g : List Int) (i : Nat) : spotsOf g i ≠ [] := by
  unfold spotsOf
  split
  · simp
  · assumption

theorem inner (l : List (List Int)) (i : Nat) (hi : i < l.length) (z : Int × Places) : loopN (L8_31 100 l ((i : Int), z)) 100 (0, []) = some (sp5 (grp l i)) := by
  have hg : l[i]? = some (grp l i) := by simp [grp, List.getD, hi]
  refine loop_run (fun j => ((j : Int), pre (grp l i) j)) _ (min (grp l i).length 5) 100 (by omega) (fun j hj => ?_) ?_
  · unfold L8_31
    have hj' : (grp l i)[j]? = some ((grp l i).getD j 0) := by
      have : j < (grp l i).length := by omega
      simp [List.getD, this]
    simp only [ixn, hg, Option.bind_some, condT (show (j : Int) < ((grp l i).length : Int) by omega), hj', pick _ _ 4 (by omega) (by omega)]
    rw [condT (by omega), grdD (by simp only [pre_len, List.length_singleton]; omega), w64 (by omega) (by omega), pre_succ]; rfl
  · unfold L8_31
    simp only [ixn, hg, Option.bind_some]
    by_cases h : ((min (grp l i).length 5 : Nat) : Int) < ((grp l i).length : Int)
    · rw [condT h, Option.bind_some, condF (by omega)]; rfl
    · rw [condF h, Option.bind_some]; rfl

theorem made (l : List (List Int)) : F8 100 l = some (.inr (((min l.length 20 : Nat) : Int), places l (min l.length 20))) := by
  have loop : loopN (L8_16 100 l) 100 (0, 0, []) = some (.inr (((min l.length 20 : Nat) : Int), places l (min l.length 20))) := by
    refine loop_go (fun i => ((i : Int), (i : Int), places l i)) (min l.length 20) rfl (by omega) (fun i hi => ?_) ?_
    · unfold L8_16
      have hw : IntKind.wrap .u32 (IntKind.wrap .i64 ((i : Int) + 1)) = (i : Int) + 1 := by rw [w64 (by omega) (by omega), w32 (by omega) (by omega)]
      have hs : (cond (((sp5 (grp l i)).length : Int) == 0) (some [(0, (i : Int))]) (some (sp5 (grp l i))) : Option Spots) = some (spotsOf (grp l i) i) := by
        rw [len0, spotsOf]
        by_cases h : sp5 (grp l i) = []
        · rw [if_pos h, h]; rfl
        · have e : (sp5 (grp l i)).isEmpty = false := by
            cases hh : sp5 (grp l i) with
            | nil => exact absurd hh h
            | cons => rfl
          rw [if_neg h, e]; rfl
      simp only [condT (show (i : Int) < (l.length : Int) by omega), Option.bind_some]
      rw [condT (by omega), inner l i (by omega)]
      simp only [Option.bind_some, hs, hw]
      rw [add_run _ _ _ _ _ _ (by have := spotsOf_len (grp l i) i; omega) (by rw [places_len]; omega)]
      simp only [add, Option.bind_some, spotsOf_ne, or_false, show ¬ ((i : Int) + 1 = 0) by omega, show ¬ ((i : Int) + 1 ≤ (i : Int)) by omega, if_false]
      rw [← places_succ, w64 (by omega) (by omega)]
      rfl
    · unfold L8_16
      by_cases h : ((min l.length 20 : Nat) : Int) < (l.length : Int)
      · rw [condT h, Option.bind_some, condF (by omega)]; try rfl
      · rw [condF h, Option.bind_some]; try rfl
  unfold F8 F13
  simp only [Option.bind_some, loop, sel]

def hasR (r : Int) (s : Spots) : Bool := s.any fun x => x.1 == r
theorem has_run (s : Spots) (r : Int) (hs : s.length ≤ 50) : F24 100 s r = some (hasR r s) := by
  unfold F24 F29
  by_cases he : ∃ x ∈ s, (x.1 == r) = true
  · have hlt := List.findIdx_lt_length_of_exists he
    have loop : loopN (L29_6 100 s r) 100 0 = some (.inl ((s.findIdx fun x => x.1 == r : Nat) : Int)) := by
      refine loop_run (fun j => (j : Int)) _ (s.findIdx fun x => x.1 == r) 100 (by omega) (fun j hj => ?_) ?_
      · have hn := List.not_of_lt_findIdx hj
        unfold L29_6 F25
        have hjl : j < s.length := by omega
        rw [condT (by omega)]
        simp only [ixn, List.getElem?_eq_getElem hjl, Option.bind_some]
        have : (s[j].1 == r) = false := by simpa using hn
        rw [this, cond_false, w64 (by omega) (by omega)]; rfl
      · unfold L29_6 F25
        rw [condT (by omega)]
        simp only [ixn, List.getElem?_eq_getElem hlt, Option.bind_some]
        have : (s[s.findIdx fun x => x.1 == r].1 == r) = true := List.findIdx_getElem (w := hlt)
        rw [this]; rfl
    rw [loop]
    simp only [Option.bind_some, sel]
    rw [decide_eq_true (by omega)]
    have : hasR r s = true := by simpa [hasR] using he
    rw [this]
  · have hno : ∀ x ∈ s, (x.1 == r) = false := fun x hx => by
      cases h : x.1 == r with
      | false => rfl
      | true => exact absurd ⟨x, hx, h⟩ he
    have loop : loopN (L29_6 100 s r) 100 0 = some (.inr ()) := by
      refine loop_run (fun j => (j : Int)) _ s.length 100 (by omega) (fun j hj => ?_) ?_
      · unfold L29_6 F25
        rw [condT (by omega)]
        simp only [ixn, List.getElem?_eq_getElem hj, Option.bind_some]
        rw [hno _ (List.getElem_mem hj), cond_false, w64 (by omega) (by omega)]; rfl
      · unfold L29_6
        rw [condF (by omega)]
    rw [loop]
    simp only [Option.bind_some, sel]
    have : hasR r s = false := by
      unfold hasR
      rw [List.any_eq_false]
      intro x hx
      rw [hno x hx]; simp
    rw [this]; rfl

def inR (r : Int) (l : Places) : List Int := (l.filter fun p => hasR r p.2.2).map (·.1)
theorem in_run (r last : Int) (l : Places) (hl : l.length ≤ 60) (hs : ∀ p ∈ l, p.2.2.length ≤ 50) : F12 100 r last l = some (inR r l) := by
  have loop : loopN (L12_11 100 r l) 100 (0, []) = some (inR r l) := by
    refine loop_run (fun i => ((i : Int), inR r (l.take i))) _ l.length 100 (by omega) (fun i hi => ?_) ?_
    · unfold L12_11
      have ht : inR r (l.take (i + 1)) = if hasR r l[i].2.2 then inR r (l.take i) ++ [l[i].1] else inR r (l.take i) := by
        rw [inR, List.take_add_one, List.getElem?_eq_getElem hi]
        simp only [Option.toList_some, List.filter_append, List.map_append]
        by_cases h : hasR r l[i].2.2 = true
        · simp [h, inR]
        · simp [h, inR]
      have hlen : (inR r (l.take i)).length ≤ 60 := by
        unfold inR
        rw [List.length_map]
        have := List.length_filter_le (fun p : Int × Int × Spots => hasR r p.2.2) (l.take i)
        rw [List.length_take] at this
        omega
      rw [condT (by omega)]
      simp only [ixn, Int.toNat_natCast, List.getElem?_eq_getElem hi, Option.bind_some, has_run _ r (hs _ (List.getElem_mem hi))]
      rw [ht]
      by_cases h : hasR r l[i].2.2 = true
      · rw [h, cond_true, grdD (by simp only [List.length_singleton]; omega)]
        simp only [Option.bind_some, if_true]
        rw [w64 (by omega) (by omega)]; rfl
      · rw [Bool.not_eq_true] at h
        rw [h, cond_false]
        simp only [Option.bind_some, Bool.false_eq_true, if_false]
        rw [w64 (by omega) (by omega)]; rfl
    · unfold L12_11
      simp only [List.take_length]
      rw [condF (by omega)]
  unfold F12
  rw [loop]; rfl

theorem same1 (a : List Int) (h : a.length ≤ 90) : F11_1 100 a a = some true := by
  unfold F11_1
  have loop : loopN (L11_1_14 100 a a) 100 0 = some (.inr ()) := by
    refine loop_run (fun j => (j : Int)) _ a.length 100 (by omega) (fun j hj => ?_) ?_
    · unfold L11_1_14
      rw [condT (by omega)]
      simp only [ixn, List.getElem?_eq_getElem hj, Option.bind_some, bne_self_eq_false, cond_false]
      rw [w64 (by omega) (by omega)]; rfl
    · unfold L11_1_14
      rw [condF (by omega)]
  rw [loop]
  simp [sel]
end Go.Proofs.Ytljbepjbecjpiaa.PureMade
