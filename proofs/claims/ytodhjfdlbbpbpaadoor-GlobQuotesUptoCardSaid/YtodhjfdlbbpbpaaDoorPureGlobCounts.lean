/- GlobCounts' plain law. -/
import Derived.Test.YtodhjfdlbbpbpaaDoorPGlob2
import Derived.Test.YtodhjfdlbbpbpaaDoorPureBytes
namespace Go.Proofs.YtodhjfdlbbpbpaaDoor.PureGlobCounts
open Go.RowKit Go.Proofs.YtodhjfdlbbpbpaaDoor.Mc Go.Proofs.YtodhjfdlbbpbpaaDoor.N Go.Proofs.YtodhjfdlbbpbpaaDoor.Plain Go.Proofs.YtodhjfdlbbpbpaaDoor.PureRune Go.Proofs.YtodhjfdlbbpbpaaDoor.PureKeys Go.Proofs.YtodhjfdlbbpbpaaDoor.PureHead Go.Proofs.YtodhjfdlbbpbpaaDoor.PureJoin Go.Proofs.YtodhjfdlbbpbpaaDoor.PGlob1 Go.Proofs.YtodhjfdlbbpbpaaDoor.PGlob2
set_option linter.unusedSimpArgs false
set_option linter.unusedVariables false
theorem alive : F7 2000000 = some true := by kernel_rfl
def qm : Nat → ByteArray
  | 0 => ⟨#[]⟩
  | n + 1 => qm n ++ ⟨#[63]⟩
theorem qm_size : ∀ n, (qm n).size = n
  | 0 => rfl
  | n + 1 => by rw [qm, join_size, qm_size n]; rfl
theorem runes1 : Runes (⟨#[63]⟩ : ByteArray) 0 [(63, 1)] := by
  have h : Utf8.decode (⟨#[63]⟩ : ByteArray) 0 = (63, 1) := by kernel_rfl
  have := Runes.cons (s := (⟨#[63]⟩ : ByteArray)) 0 (by decide) [] (by rw [h]; exact .nil _ (by decide))
  rwa [h] at this
theorem runesS : Runes (⟨#[42]⟩ : ByteArray) 0 [(42, 1)] := by
  have h : Utf8.decode (⟨#[42]⟩ : ByteArray) 0 = (42, 1) := by kernel_rfl
  have := Runes.cons (s := (⟨#[42]⟩ : ByteArray)) 0 (by decide) [] (by rw [h]; exact .nil _ (by decide))
  rwa [h] at this
theorem rep_ne (n : Nat) : ∀ x ∈ List.replicate n ((63, 1) : Nat × Nat), x ≠ (65533, 1) := by
  intro x hx
  rw [List.eq_of_mem_replicate hx]; decide
theorem qm_runes : ∀ n, Runes (qm n) 0 (List.replicate n (63, 1))
  | 0 => .nil 0 (by decide)
  | n + 1 => by
    rw [qm, List.replicate_succ']
    exact runes_join runes1 (qm_runes n) (by omega) (rep_ne n)
theorem loop (K n : Nat) (hn : n ≤ 1000) : ∀ (m i k : Nat), i + m = n → m < k → loopN (L4_16 K (n : Int)) k (qm i, (i : Int)) = some (qm n)
  | 0, i, k, hi, hk => by
    obtain ⟨k, rfl⟩ : ∃ q, k = q + 1 := ⟨k - 1, by omega⟩
    obtain rfl : i = n := by omega
    refine loop_end ?_
    unfold L4_16
    rw [condF (by omega)]
  | m + 1, i, k, hi, hk => by
    obtain ⟨k, rfl⟩ : ∃ q, k = q + 1 := ⟨k - 1, by omega⟩
    rw [loop_step (b := (qm (i + 1), ((i + 1 : Nat) : Int)))]
    · exact loop K n hn m (i + 1) k (by omega) (by omega)
    · unfold L4_16
      rw [condT (by omega), grdD (by rw [qm_size]; show (i + 1 : Nat) ≤ _; omega), w64 (by omega) (by omega)]; rfl
theorem law (x1 : ByteArray) (x2 : Int) (g : gdT [.str, .int .i64] (x1, x2)) : ∃ k, F4 k x1 x2 = some true := by
  refine ⟨2000000, ?_⟩
  unfold F4
  simp only [alive, Option.bind_some, Bool.not_true, cond_false]
  by_cases h0 : x2 < 0
  · rw [condT h0]; rfl
  by_cases h1 : 24 ≤ x2
  · rw [condF h0, condT h1]; rfl
  rw [condF h0, condF h1, Option.bind_some]
  by_cases h2 : 60 < (x1.size : Int)
  · rw [condT h2]
  rw [condF h2]
  obtain ⟨n, rfl⟩ : ∃ n : Nat, x2 = (n : Int) := ⟨x2.toNat, by omega⟩
  obtain ⟨T, hT, hl⟩ := runes_ex x1 x1.size 0 (by omega)
  rw [show ((⟨#[]⟩ : ByteArray), (0 : Int)) = (qm 0, ((0 : Nat) : Int)) from rfl, loop 2000000 n (by omega) n 0 2000000 (by omega) (by omega), Option.bind_some, count_run 2000000 (by omega) hT (by omega) (by omega), Option.bind_some]
  have hq := qm_size n
  have hr := qm_runes n
  have rl : (List.replicate n ((63, 1) : Nat × Nat)).length = n := List.length_replicate
  have p1 := parse_run 2000000 (s := qm n) (by omega) hr (by omega) (by omega) (by omega) (pr_anys _ n 0)
  have m1 := match_parse 2000000 (k := x1) p1 (by rw [List.length_replicate]; omega) (fun x hx => by rw [List.eq_of_mem_replicate hx]; decide) (by omega) hT (by omega) (by omega)
  -- a star ahead
  have r2 : Runes ((⟨#[42]⟩ : ByteArray) ++ qm n) 0 ((42, 1) :: List.replicate n (63, 1)) := runes_join hr runesS (by omega) (by decide)
  have s2 : ((⟨#[42]⟩ : ByteArray) ++ qm n).size = n + 1 := by rw [join_size, hq]; show 1 + n = n + 1; omega
  have p2 := parse_run 2000000 (s := (⟨#[42]⟩ : ByteArray) ++ qm n) (by omega) r2 (by simp only [List.length_cons]; omega) (by simp only [List.length_cons]; omega) (by omega) (.star _ _ _ (pr_anys _ n _))
  have m2 := match_parse 2000000 (k := x1) p2 (by rw [List.length_cons, List.length_replicate]; omega) (fun x hx => by
    rcases List.mem_cons.1 hx with rfl | hx
    · decide
    · rw [List.eq_of_mem_replicate hx]; decide) (by omega) hT (by omega) (by omega)
  -- a star behind
  have r3 : Runes (qm n ++ (⟨#[42]⟩ : ByteArray)) 0 (List.replicate n (63, 1) ++ [(42, 1)]) := runes_join runesS hr (by omega) (rep_ne n)
  have s3 : (qm n ++ (⟨#[42]⟩ : ByteArray)).size = n + 1 := by rw [join_size, hq]; rfl
  have p3 := parse_run 2000000 (s := qm n ++ (⟨#[42]⟩ : ByteArray)) (by omega) r3 (by simp only [List.length_append, List.length_singleton]; omega) (by simp only [List.length_append, List.length_singleton]; omega) (by omega) (by
    rw [sg_append]
    exact (pr_anys _ n 0).append (.star _ _ _ .nil))
  have m3 := match_parse 2000000 (k := x1) p3 (by rw [List.length_append, List.length_replicate]; show n + 1 ≤ 24; omega) (fun x hx => by
    rcases List.mem_append.1 hx with hx | hx
    · rw [List.eq_of_mem_replicate hx]; decide
    · rw [List.mem_singleton.1 hx]; decide) (by omega) hT (by omega) (by omega)
  rw [right_parse _ p1, Option.bind_some, cond_true, m1, Option.bind_some]
  generalize hW : T.map (fun x => (x.1 : Int)) = w at *
  have hwl : w.length = T.length := by rw [← hW, List.length_map]
  have c1 : M (List.replicate n iAny) w = ((T.length : Int) == (n : Int)) := by
    have := M_anys n [] w
    rw [List.append_nil] at this
    rw [this, Bool.eq_iff_iff, Bool.and_eq_true, decide_eq_true_eq, beq_iff_eq]
    show (n ≤ w.length ∧ (w.drop n).isEmpty = true) ↔ _
    rw [List.isEmpty_iff, List.drop_eq_nil_iff]; omega
  rw [c1, BEq.rfl, cond_true, grdD (by show 1 + (qm n).size ≤ _; omega), m2, Option.bind_some]
  have c2 : M (iStar :: List.replicate n iAny) w = decide ((n : Int) ≤ (T.length : Int)) := by
    rw [Bool.eq_iff_iff, decide_eq_true_eq]
    show suf (M (List.replicate n iAny)) w = true ↔ _
    have hM : ∀ t : List Int, M (List.replicate n iAny) t = (decide (n ≤ t.length) && (t.drop n).isEmpty) := fun t => by
      have := M_anys n [] t
      rw [List.append_nil] at this
      rw [this]; rfl
    constructor
    · intro h
      obtain ⟨j, j1, j2⟩ := suf_ex _ _ h
      rw [hM, Bool.and_eq_true, decide_eq_true_eq, List.length_drop] at j2
      omega
    · intro h
      refine suf_of _ _ (w.length - n) ?_
      rw [hM, Bool.and_eq_true, decide_eq_true_eq, List.length_drop, List.isEmpty_iff, List.drop_eq_nil_iff, List.length_drop]
      omega
  rw [c2, BEq.rfl, cond_true, grdD (by show (qm n).size + 1 ≤ _; omega), m3, Option.bind_some]
  have c3 : M (List.replicate n iAny ++ [iStar]) w = decide ((n : Int) ≤ (T.length : Int)) := by
    rw [M_anys, show M [iStar] (w.drop n) = true from suf_empty _, Bool.and_true, decide_eq_decide]; omega
  rw [c3, BEq.rfl]
end Go.Proofs.YtodhjfdlbbpbpaaDoor.PureGlobCounts
