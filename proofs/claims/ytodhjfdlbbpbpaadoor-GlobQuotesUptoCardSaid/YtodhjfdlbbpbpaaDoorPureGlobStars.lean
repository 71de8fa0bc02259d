/- GlobStars' plain law. -/
import Derived.Test.YtodhjfdlbbpbpaaDoorPGlob4
import Derived.Test.YtodhjfdlbbpbpaaDoorPureGlobCounts
namespace Go.Proofs.YtodhjfdlbbpbpaaDoor.PureGlobStars
open Go.RowKit Go.Proofs.YtodhjfdlbbpbpaaDoor.Mc Go.Proofs.YtodhjfdlbbpbpaaDoor.N Go.Proofs.YtodhjfdlbbpbpaaDoor.Plain Go.Proofs.YtodhjfdlbbpbpaaDoor.PureRune Go.Proofs.YtodhjfdlbbpbpaaDoor.PureKeys Go.Proofs.YtodhjfdlbbpbpaaDoor.PureHead Go.Proofs.YtodhjfdlbbpbpaaDoor.PureJoin Go.Proofs.YtodhjfdlbbpbpaaDoor.PureBytes Go.Proofs.YtodhjfdlbbpbpaaDoor.PGlob1 Go.Proofs.YtodhjfdlbbpbpaaDoor.PGlob2 Go.Proofs.YtodhjfdlbbpbpaaDoor.PGlob3 Go.Proofs.YtodhjfdlbbpbpaaDoor.PGlob4
open Go.Proofs.YtodhjfdlbbpbpaaDoor.PureGlobCounts (alive runesS)
set_option linter.unusedSimpArgs false
set_option linter.unusedVariables false
theorem right_some (K : Nat) (s : ByteArray) (hk : 20 ≤ K) : ∃ b, F11 K s = some b := by
  obtain ⟨L, h1, _⟩ := runes_ex s s.size 0 (by omega)
  exact ⟨_, PKeyRight.right_any K h1 hk⟩
/-- begins and ends, in bytes and in runes -/
theorem ends_iff {a b k : ByteArray} {A B T : List (Nat × Nat)} (hA : Runes a 0 A) (hB : Runes b 0 B) (hT : Runes k 0 T) (nA : ∀ x ∈ A, x ≠ (65533, 1)) (nB : ∀ x ∈ B, x ≠ (65533, 1)) (nT : ∀ x ∈ T, x ≠ (65533, 1)) (hb : 1 ≤ B.length) :
    (∃ c, bs k 0 = bs a 0 ++ c ++ bs b 0) ↔ ∃ C, T.map (·.1) = A.map (·.1) ++ C ++ B.map (·.1) := by
  have eA := bs_runes hA nA
  have eB := bs_runes hB nB
  have eT := bs_runes hT nT
  constructor
  · rintro ⟨c, hc⟩
    -- the beginning
    have hm : k = a ++ strOfNums (ci (c ++ bs b 0)) := by
      apply ba_of_bs
      rw [bs_app, bs_son, hc, List.append_assoc]
      intro x hx
      have : x ∈ bs k 0 := by rw [hc, List.append_assoc]; exact List.mem_append_right _ hx
      exact bs_lt k 0 x this
    obtain ⟨Mm, hM, _⟩ := runes_ex (strOfNums (ci (c ++ bs b 0))) _ 0 (Nat.le_refl _)
    have hj := runes_join hM hA (by omega) nA
    rw [← hm] at hj
    have hTe := uniq hT hj
    have nM : ∀ x ∈ Mm, x ≠ (65533, 1) := fun x hx => nT x (by rw [hTe]; exact List.mem_append_right _ hx)
    have eM := bs_runes hM nM
    rw [bs_son (by
      intro x hx
      have : x ∈ bs k 0 := by rw [hc, List.append_assoc]; exact List.mem_append_right _ hx
      exact bs_lt k 0 x this), eB] at eM
    obtain ⟨C, hC⟩ := E_suffix _ c (B.map (·.1)) (by
      intro h
      have := congrArg List.length h
      simp at this
      subst this; simp at hb) eM.symm
    exact ⟨C, by rw [hTe, List.map_append, hC, List.append_assoc]⟩
  · rintro ⟨C, hC⟩
    refine ⟨E C, ?_⟩
    rw [eT, eA, eB, hC]
    unfold E
    rw [List.flatMap_append, List.flatMap_append]
theorem law (x1 : ByteArray) (x2 : ByteArray) (x3 : ByteArray) (g : gdT [.str, .str, .str] (x1, x2, x3)) : ∃ k, F5 k x1 x2 x3 = some true := by
  refine ⟨2000000, ?_⟩
  unfold F5
  simp only [alive, Option.bind_some, Bool.not_true, cond_false]
  obtain ⟨b1, r1⟩ := right_some 2000000 x1 (by omega)
  obtain ⟨b2, r2⟩ := right_some 2000000 x2 (by omega)
  obtain ⟨b3, r3⟩ := right_some 2000000 x3 (by omega)
  rw [r1, Option.bind_some]
  cases b1 with
  | false => rfl
  | true =>
  rw [r2, Bool.not_true, cond_false, Option.bind_some]
  cases b2 with
  | false => rfl
  | true =>
  rw [r3, Bool.not_true, cond_false, Option.bind_some]
  cases b3 with
  | false => rfl
  | true =>
  rw [Bool.not_true, Option.bind_some, cond_false]
  obtain ⟨A, hA, lA⟩ := runes_ex x1 x1.size 0 (by omega)
  obtain ⟨B, hB, lB⟩ := runes_ex x2 x2.size 0 (by omega)
  obtain ⟨T, hT, lT⟩ := runes_ex x3 x3.size 0 (by omega)
  obtain ⟨_, a1, a2, a3, nA⟩ := key_of _ hA (by omega) r1
  obtain ⟨_, c1, c2, c3, nB⟩ := key_of _ hB (by omega) r2
  obtain ⟨_, d1, d2, d3, nT⟩ := key_of _ hT (by omega) r3
  have qA := qB_size x1 A
  have qb := qB_size x2 B
  rw [quote_run _ (by omega) hA (by omega) (by omega), Option.bind_some, grdD (by show _ + 1 ≤ _; omega), quote_run _ (by omega) hB (by omega) (by omega), Option.bind_some, grdD (by rw [ByteArray.size_append]; show _ + 1 + _ ≤ _; omega)]
  generalize hp : (qB x1 A ++ (⟨#[42]⟩ : ByteArray)) ++ qB x2 B = p
  have hps : p.size ≤ 200 := by rw [← hp, ByteArray.size_append, ByteArray.size_append]; show _ + 1 + _ ≤ _; omega
  have hr1 : Runes (qB x1 A ++ (⟨#[42]⟩ : ByteArray)) 0 (ql A ++ [(42, 1)]) := runes_join runesS (qB_runes hA) (by omega) (ql_ne nA)
  have hr : Runes p 0 (ql A ++ [(42, 1)] ++ ql B) := by
    rw [← hp]
    exact runes_join (qB_runes hB) hr1 (by omega) (fun x hx => by
      rcases List.mem_append.1 hx with hx | hx
      · exact ql_ne nA x hx
      · rw [List.mem_singleton.1 hx]; decide)
  have lqA := ql_len A
  have lqB := ql_len B
  have hrl : (ql A ++ [(42, 1)] ++ ql B).length = (ql A).length + 1 + (ql B).length := by simp only [List.length_append, List.length_singleton]
  obtain ⟨P', hP', lP'⟩ := runes_ex p p.size 0 (by omega)
  have eP := uniq hP' hr
  subst eP
  rcases Nat.lt_or_ge 24 (ql A ++ [(42, 1)] ++ ql B).length with hlong | hshort
  · have hpl := parse_long 2000000 (s := p) (by omega) hr hlong (by omega) (by omega)
    rw [right_bad _ hpl, Option.bind_some, Bool.not_false, cond_true, count_run 2000000 (by omega) hr (by omega) (by omega), Option.bind_some, decide_eq_true (by omega)]
  -- the items
  have hbp : bs p 0 = qn (bs x1 0) A ++ ([42] ++ qn (bs x2 0) B) := by
    rw [← hp, bs_app, bs_app, qB_bs, qB_bs, List.append_assoc]; rfl
  obtain ⟨o1, p1, z1, m1, _⟩ := pr_quote p (runesL_of hA) 0 _ hbp
  have hsum : ∀ {s : ByteArray} {q : Nat} {L : List (Nat × Nat)}, Runes s q L → q ≤ s.size → q + (L.map (fun x : Nat × Nat => x.2)).sum = s.size := by
    intro s q L h hq
    have := W_all h hq L.length (Nat.le_refl _)
    unfold W at this
    rwa [List.take_length] at this
  have hs1 := hsum (qB_runes hA) (by omega)
  have hs2 := hsum hr1 (by omega)
  have hbp2 : bs p (0 + ((ql A ++ [(42, 1)]).map (fun x : Nat × Nat => x.2)).sum) = qn (bs x2 0) B ++ [] := by
    rw [hs2, ← Nat.zero_add (ByteArray.size _), ← bs_drop, ← hp, bs_app, List.append_nil]
    have : (bs (qB x1 A ++ (⟨#[42]⟩ : ByteArray)) 0).length = (qB x1 A ++ (⟨#[42]⟩ : ByteArray)).size := by rw [bs_len]; omega
    rw [List.drop_append_of_le_length (by omega), List.drop_of_length_le (by omega), List.nil_append, qB_bs]
  obtain ⟨o2, p2, z2, m2, _⟩ := pr_quote p (runesL_of hB) _ _ hbp2
  have hpr : Pr (sg p 0 (ql A ++ [(42, 1)] ++ ql B)) (o1 ++ [iStar] ++ o2) := by
    rw [sg_append, sg_append]
    exact (p1.append (.star _ _ _ .nil)).append p2
  have hpar := parse_run 2000000 (s := p) (by omega) hr hshort (by omega) (by omega) hpr
  have hends := hpr.ends
  have hlen := hpr.len
  rw [sg_len] at hlen
  rw [right_parse _ hpar, Option.bind_some, Bool.not_true, cond_false]
  have hM : ∀ t : List Int, M (o1 ++ [iStar] ++ o2) t = true ↔ ∃ C, t = ri A ++ C ++ ri B := by
    intro t
    rw [List.append_assoc, M_ones o1 _ t z1]
    have e2 : ∀ D : List Int, M o2 D = true ↔ D = ri B := by
      intro D
      have := M_ones o2 [] D z2
      rw [List.append_nil] at this
      rw [this]
      constructor
      · rintro ⟨t', h1, h2⟩
        rw [(M_nil t').1 h2, List.append_nil] at h1
        rw [h1, m2]; rfl
      · intro h
        exact ⟨[], by rw [List.append_nil, h, m2]; rfl, rfl⟩
    constructor
    · rintro ⟨t', h1, h2⟩
      obtain ⟨C, D, h3, h4⟩ := (M_star o2 t').1 h2
      rw [(e2 D).1 h4] at h3
      exact ⟨C, by rw [h1, h3, m1, List.append_assoc]; rfl⟩
    · rintro ⟨C, hC⟩
      refine ⟨C ++ ri B, by rw [hC, m1, List.append_assoc]; rfl, (M_star o2 _).2 ⟨C, ri B, rfl, (e2 _).2 rfl⟩⟩
  have hmatch : ∀ {k : ByteArray} {S : List (Nat × Nat)}, Runes k 0 S → k.size ≤ 1000 → F9 2000000 p k = some (M (o1 ++ [iStar] ++ o2) (ri S)) := by
    intro k S hS hk
    obtain ⟨S', hS', lS'⟩ := runes_ex k k.size 0 (by omega)
    have := uniq hS' hS
    subst this
    exact match_parse 2000000 hpar (by omega) (fun x hx => by rw [hends x hx]; decide) hk hS (by omega) (by omega)
  -- the bytes' condition
  have w1 : IntKind.wrap .i64 ((x1.size : Int) + (x2.size : Int)) = ((x1.size + x2.size : Nat) : Int) := by rw [w64 (by omega) (by omega)]; omega
  have hcond : ((cond (decide ((IntKind.wrap .i64 ((x1.size : Int) + (x2.size : Int))) ≤ (x3.size : Int))) (
grd (bnds (x3.size : Int) 0 (x1.size : Int)) <|
cond ((x3.extract 0 ((x1.size : Int).toNat)).toList == x1.toList) (
grd (bnds (x3.size : Int) (IntKind.wrap .i64 ((x3.size : Int) - (x2.size : Int))) (x3.size : Int)) <|
some ((x3.extract ((IntKind.wrap .i64 ((x3.size : Int) - (x2.size : Int))).toNat) ((x3.size : Int).toNat)).toList == x2.toList)) (
some false)) (
some false) : Option Bool)) = some (M (o1 ++ [iStar] ++ o2) (ri T)) := by
    have hiff : (∃ c, bs x3 0 = bs x1 0 ++ c ++ bs x2 0) ↔ M (o1 ++ [iStar] ++ o2) (ri T) = true := by
      rw [ends_iff hA hB hT nA nB nT c1, hM]
      constructor
      · rintro ⟨C, hC⟩
        exact ⟨ci C, by rw [ri_ci, ri_ci, ri_ci, hC, ci_app, ci_app]⟩
      · rintro ⟨C, hC⟩
        refine ⟨C.map Int.toNat, ?_⟩
        have := congrArg (List.map Int.toNat) hC
        rw [List.map_append, List.map_append] at this
        have et : ∀ L : List (Nat × Nat), (ri L).map Int.toNat = L.map (·.1) := fun L => by unfold ri; rw [List.map_map]; rfl
        rwa [et, et, et] at this
    have l1 := bs_len x1 0
    have l2 := bs_len x2 0
    have l3 := bs_len x3 0
    rw [w1]
    by_cases hle : x1.size + x2.size ≤ x3.size
    · have w2 : IntKind.wrap .i64 ((x3.size : Int) - (x2.size : Int)) = ((x3.size - x2.size : Nat) : Int) := by rw [w64 (by omega) (by omega)]; omega
      rw [condT (by omega), grdT (by unfold bnds; exact decide_eq_true (by omega)), w2, Int.toNat_natCast, Int.toNat_natCast, Int.toNat_natCast]
      have f1 : ((x3.extract 0 x1.size).toList == x1.toList) = ((bs x3 0).take x1.size == bs x1 0) := by
        have := bs_extract x3 0 x1.size
        rw [Nat.zero_add] at this
        rw [toList_bs, this]
      have f2 : ((x3.extract (x3.size - x2.size) x3.size).toList == x2.toList) = ((bs x3 0).drop (x3.size - x2.size) == bs x2 0) := by
        have := bs_extract x3 (x3.size - x2.size) x2.size
        rw [show x3.size - x2.size + x2.size = x3.size by omega] at this
        rw [toList_bs, this, bs_drop, Nat.zero_add, List.take_of_length_le (by rw [bs_len]; omega)]
      rw [f1, f2, grdT (by unfold bnds; exact decide_eq_true (by omega))]
      have : (((bs x3 0).take x1.size == bs x1 0) && ((bs x3 0).drop (x3.size - x2.size) == bs x2 0)) = M (o1 ++ [iStar] ++ o2) (ri T) := by
        rw [Bool.eq_iff_iff, ← hiff, Bool.and_eq_true, beq_iff_eq, beq_iff_eq]
        constructor
        · rintro ⟨h1, h2⟩
          refine ⟨((bs x3 0).drop x1.size).take (x3.size - x2.size - x1.size), ?_⟩
          have e1 : bs x3 0 = (bs x3 0).take (x3.size - x2.size) ++ (bs x3 0).drop (x3.size - x2.size) := (List.take_append_drop _ _).symm
          have e2 : (bs x3 0).take (x3.size - x2.size) = (bs x3 0).take x1.size ++ ((bs x3 0).drop x1.size).take (x3.size - x2.size - x1.size) := by
            rw [← List.take_add]; congr 1; omega
          rw [h2, e2, h1] at e1
          exact e1
        · rintro ⟨c, hc⟩
          have lc := congrArg List.length hc
          simp only [List.length_append] at lc
          constructor
          · rw [hc, List.append_assoc, List.take_append_of_le_length (by omega), List.take_of_length_le (by omega)]
          · rw [hc, List.drop_append_of_le_length (by rw [List.length_append]; omega), List.drop_of_length_le (by rw [List.length_append]; omega), List.nil_append]
      rw [← this]
      cases ((bs x3 0).take x1.size == bs x1 0) <;> rfl
    · rw [condF (by omega)]
      congr 1
      symm
      rw [Bool.eq_false_iff]
      intro h
      obtain ⟨c, hc⟩ := hiff.2 h
      have lc := congrArg List.length hc
      simp only [List.length_append] at lc
      omega
  rw [hcond, Option.bind_some, hmatch hT (by omega), Option.bind_some, BEq.rfl, cond_true]
  -- a star alone
  have ps := parse_run 2000000 (s := (⟨#[42]⟩ : ByteArray)) (by decide) runesS (by decide) (by decide) (by omega) (.star _ _ _ .nil)
  have ms := match_parse 2000000 (k := x3) ps (by decide) (fun x hx => by rw [List.mem_singleton.1 hx]; decide) (by omega) hT (by omega) (by omega)
  rw [ms, Option.bind_some, show M [iStar] (T.map fun x => (x.1 : Int)) = true from suf_empty _, cond_true, grdD (by omega), grdD (by rw [ByteArray.size_append]; omega)]
  have hj1 : Runes (x1 ++ x3) 0 (A ++ T) := runes_join hT hA (by omega) nA
  have hj : Runes ((x1 ++ x3) ++ x2) 0 (A ++ T ++ B) := runes_join hB hj1 (by omega) (fun x hx => by
    rcases List.mem_append.1 hx with hx | hx
    · exact nA x hx
    · exact nT x hx)
  rw [hmatch hj (by rw [ByteArray.size_append, ByteArray.size_append]; omega), Option.bind_some]
  congr 1
  rw [hM]
  exact ⟨ri T, by rw [ri_app, ri_app]⟩
end Go.Proofs.YtodhjfdlbbpbpaaDoor.PureGlobStars
