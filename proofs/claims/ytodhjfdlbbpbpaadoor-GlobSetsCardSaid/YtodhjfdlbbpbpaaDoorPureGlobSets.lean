/- GlobSets' plain law. -/
import Derived.Test.YtodhjfdlbbpbpaaDoorPGlob4
import Derived.Test.YtodhjfdlbbpbpaaDoorPureGlobCounts
namespace Go.Proofs.YtodhjfdlbbpbpaaDoor.PureGlobSets
open Go.RowKit Go.Proofs.YtodhjfdlbbpbpaaDoor.Mc Go.Proofs.YtodhjfdlbbpbpaaDoor.N Go.Proofs.YtodhjfdlbbpbpaaDoor.Plain Go.Proofs.YtodhjfdlbbpbpaaDoor.PureRune Go.Proofs.YtodhjfdlbbpbpaaDoor.PureKeys Go.Proofs.YtodhjfdlbbpbpaaDoor.PureBytes Go.Proofs.YtodhjfdlbbpbpaaDoor.PGlob1 Go.Proofs.YtodhjfdlbbpbpaaDoor.PGlob2 Go.Proofs.YtodhjfdlbbpbpaaDoor.PGlob3 Go.Proofs.YtodhjfdlbbpbpaaDoor.PGlob4
open Go.Proofs.YtodhjfdlbbpbpaaDoor.PureGlobCounts (alive)
set_option linter.unusedSimpArgs false
set_option linter.unusedVariables false
def pt (a b : Nat) : ByteArray := ((⟨#[91]⟩ : ByteArray) ++ strOfNums [(a : Int), 45, (b : Int)]) ++ (⟨#[93]⟩ : ByteArray)
def pn (a b : Nat) : ByteArray := ((⟨#[91, 94]⟩ : ByteArray) ++ strOfNums [(a : Int), 45, (b : Int)]) ++ (⟨#[93]⟩ : ByteArray)
def ck (a b : Nat) (n : Bool) : Option (Bool ⊕ (Bool × List It)) → Bool
  | some (.inl false) => decide (b < a)
  | some (.inr (true, [(3, _, _, n', [(x, y)])])) => decide (a ≤ b) && ((n' == n) && ((x == (a : Int)) && (y == (b : Int))))
  | _ => false
theorem all : ((List.range 26).all fun i => (List.range 26).all fun j => ck (97 + i) (97 + j) false (F16 2000000 (pt (97 + i) (97 + j))) && ck (97 + i) (97 + j) true (F16 2000000 (pn (97 + i) (97 + j)))) = true := by kernel_rfl
theorem ck_out {a b : Nat} {n : Bool} {r : Option (Bool ⊕ (Bool × List It))} (h : ck a b n r = true) : (r = some (.inl false) ∧ b < a) ∨ (∃ z s, r = some (.inr (true, [(3, z, s, n, [((a : Int), (b : Int))])])) ∧ a ≤ b) := by
  unfold ck at h
  split at h
  · exact .inl ⟨rfl, of_decide_eq_true h⟩
  · simp only [Bool.and_eq_true, decide_eq_true_eq, beq_iff_eq] at h
    obtain ⟨h1, rfl, rfl, rfl⟩ := h
    exact .inr ⟨_, _, rfl, h1⟩
  · cases h
theorem one_runes {r : Nat} (h : r < 128) : Runes (strOfNums [(r : Int)]) 0 [(r, 1)] := by
  apply of_runesL
  rw [show [(r : Int)] = ci [r] from rfl, bs_son (by intro b hb; simp at hb; omega)]
  have := RunesL.cons [r] (by simp) [] (by rw [decL_small _ h]; exact .nil)
  rwa [decL_small _ h] at this
theorem M_set (z : Int) (s : ByteArray) (n : Bool) (a b r : Nat) : M [(3, z, s, n, [((a : Int), (b : Int))])] ([(r, 1)].map fun x : Nat × Nat => (x.1 : Int)) = if a ≤ r ∧ r ≤ b then !n else n := by
  show (ft (3, z, s, n, [((a : Int), (b : Int))]) (r : Int) && true) = _
  rw [Bool.and_true]
  unfold ft inEnds
  simp only [List.any_cons, List.any_nil, Bool.or_false]
  rw [show ((3 : Int) == 1) = false from rfl, show ((3 : Int) == 3) = true from rfl]
  simp only [Bool.false_eq_true, if_false, if_true]
  by_cases h1 : a ≤ r <;> by_cases h2 : r ≤ b
  · rw [if_pos (by simp; omega), if_pos ⟨h1, h2⟩]
  · rw [if_neg (by simp; omega), if_neg (by omega)]
  · rw [if_neg (by simp; omega), if_neg (by omega)]
  · rw [if_neg (by simp; omega), if_neg (by omega)]
theorem law (x1 : Int) (x2 : Int) (x3 : Int) (g : gdT [.int .u8, .int .u8, .int .u8] (x1, x2, x3)) : ∃ k, F3 k x1 x2 x3 = some true := by
  refine ⟨2000000, ?_⟩
  have u8 : ∀ {x : Int}, (Lit.int .u8 x).wf = true → ∃ i : Nat, i < 26 ∧ IntKind.wrap .u8 (97 + x.tmod 26) = ((97 + i : Nat) : Int) := by
    intro x w
    have : 0 ≤ x ∧ x < 256 := by
      simp [Lit.wf, IntKind.min, IntKind.max, IntKind.signed, IntKind.bits] at w
      omega
    refine ⟨(x % 26).toNat, by omega, ?_⟩
    rw [Int.tmod_eq_emod_of_nonneg this.1]
    show (97 + x % 26) % 256 = _
    omega
  obtain ⟨i, hi, e1⟩ := u8 g.1
  obtain ⟨j, hj, e2⟩ := u8 g.2.1
  obtain ⟨l, hl, e3⟩ := u8 g.2.2
  unfold F3
  simp only [e1, e2, e3]
  have hall := List.all_eq_true.1 all i (List.mem_range.2 hi)
  have hall2 := List.all_eq_true.1 hall j (List.mem_range.2 hj)
  rw [Bool.and_eq_true] at hall2
  clear hall
  have ep : ((⟨#[91]⟩ : ByteArray) ++ strOfNums [((97 + i : Nat) : Int), 45, ((97 + j : Nat) : Int)]) ++ (⟨#[93]⟩ : ByteArray) = pt (97 + i) (97 + j) := rfl
  have en : ((⟨#[91, 94]⟩ : ByteArray) ++ strOfNums [((97 + i : Nat) : Int), 45, ((97 + j : Nat) : Int)]) ++ (⟨#[93]⟩ : ByteArray) = pn (97 + i) (97 + j) := rfl
  rw [grdD (by rw [strOfNums_size]; show 1 + 3 ≤ _; omega), grdD (by rw [ByteArray.size_append, strOfNums_size]; show 1 + 3 + 1 ≤ _; omega), grdD (by rw [strOfNums_size]; show 2 + 3 ≤ _; omega), grdD (by rw [ByteArray.size_append, strOfNums_size]; show 2 + 3 + 1 ≤ _; omega), ep, en]
  have hks : (strOfNums [((97 + l : Nat) : Int)]).size = 1 := by rw [strOfNums_size]; rfl
  have hkr := one_runes (r := 97 + l) (by omega)
  generalize 97 + i = a at *
  generalize 97 + j = b at *
  generalize hr : 97 + l = r at *
  rcases ck_out hall2.1 with ⟨p1, q1⟩ | ⟨z1, s1, p1, q1⟩
  · rcases ck_out hall2.2 with ⟨p2, q2⟩ | ⟨z2, s2, p2, q2⟩
    · rw [condT (by omega), alive, Option.bind_some, cond_true, right_bad _ p1, Option.bind_some, Bool.not_false, cond_true, match_bad _ p1, Option.bind_some, Bool.not_false, cond_true, match_bad _ p2]; rfl
    · omega
  · rcases ck_out hall2.2 with ⟨p2, q2⟩ | ⟨z2, s2, p2, q2⟩
    · omega
    · have m1 := match_parse 2000000 (k := strOfNums [(r : Int)]) p1 (by show 1 ≤ 24; omega) (fun x hx => by rw [List.mem_singleton.1 hx]; show 1 ≤ 1000; omega) (by omega) hkr (by rw [hks]; exact Nat.le_refl 1) (by omega)
      have m2 := match_parse 2000000 (k := strOfNums [(r : Int)]) p2 (by show 1 ≤ 24; omega) (fun x hx => by rw [List.mem_singleton.1 hx]; show 1 ≤ 1000; omega) (by omega) hkr (by rw [hks]; exact Nat.le_refl 1) (by omega)
      rw [M_set] at m1 m2
      rw [condF (by omega), m1, m2]
      have e : ((cond (decide ((a : Int) ≤ (r : Int))) (some (decide ((r : Int) ≤ (b : Int)))) (some false) : Option Bool)) = some (decide (a ≤ r ∧ r ≤ b)) := by
        by_cases h1 : a ≤ r
        · rw [condT (by omega)]; exact congrArg some (decide_eq_decide.2 (by omega))
        · rw [condF (by omega), decide_eq_false (fun h => h1 h.1)]
      rw [e, Option.bind_some, alive, Option.bind_some, cond_true, Option.bind_some]
      by_cases h : a ≤ r ∧ r ≤ b
      · rw [if_pos h, if_pos h, decide_eq_true h]; rfl
      · rw [if_neg h, if_neg h, decide_eq_false h]; rfl
end Go.Proofs.YtodhjfdlbbpbpaaDoor.PureGlobSets
