/- What the functions that sort texts compute. -/
import Derived.Test.YtobfoiomjfdjjaaDoorPSort
namespace Go.Proofs.YtobfoiomjfdjjaaDoor.PSorted
open Go.RowKit Go.Proofs.YtobfoiomjfdjjaaDoor.Mc Go.Proofs.YtobfoiomjfdjjaaDoor.N Go.Proofs.YtobfoiomjfdjjaaDoor.Plain Go.Proofs.YtobfoiomjfdjjaaDoor.PureRune Go.Proofs.YtobfoiomjfdjjaaDoor.PureKeys Go.Proofs.YtobfoiomjfdjjaaDoor.PureCmp Go.Proofs.YtobfoiomjfdjjaaDoor.PureBytes Go.Proofs.YtobfoiomjfdjjaaDoor.PSort
set_option linter.unusedSimpArgs false
set_option linter.unusedVariables false
theorem keysCmp (K : Nat) {a b : ByteArray} (ha : a.size ≤ 1000000) (hb : b.size ≤ 1000000) (hK : 2000000 ≤ K) : F43 K a b = some (cmp (rl a) (rl b)) := by
  obtain ⟨L, hL, h1, e1⟩ := rl_ex a
  obtain ⟨M, hM, h2, e2⟩ := rl_ex b
  rw [e1, e2]
  exact cmp_run K (by omega) (by omega) hL hM (by omega) (by omega) h1 h2
/-- the order, as the sort asks for it -/
theorem order_run (K : Nat) {a b : ByteArray} (ha : a.size ≤ 1000000) (hb : b.size ≤ 1000000) (hK : 2000000 ≤ K) : ∃ n, F42 K a b = some n ∧ (decide (n < 0)) = lt a b := by
  unfold F42 F44 lt
  rw [keysCmp K ha hb hK, Option.bind_some]
  by_cases h : cmp (rl a) (rl b) = 0
  · refine ⟨Lib.compareBytes a.data.toList b.data.toList, by rw [h]; rfl, ?_⟩
    rw [h]
    simp only [BEq.rfl, Bool.true_and, show decide ((0 : Int) < 0) = false from rfl, Bool.false_or]
    rw [ByteArray.toList_eq, ByteArray.toList_eq, Bool.eq_iff_iff, decide_eq_true_eq]
    exact compare_less _ _
  · have hn : (cmp (rl a) (rl b) != 0) = true := by rw [bne_iff_ne]; exact h
    have hb : (cmp (rl a) (rl b) == 0) = false := by rw [beq_eq_false_iff_ne]; exact h
    refine ⟨cmp (rl a) (rl b), by rw [hn]; rfl, ?_⟩
    rw [hb, Bool.false_and, Bool.or_false]
def Small (l : List ByteArray) : Prop := ∀ a ∈ l, a.size ≤ 1000000
theorem ltc_eq (K : Nat) (hK : 2000000 ≤ K) {a b : ByteArray} (ha : a.size ≤ 1000000) (hb : b.size ≤ 1000000) : ltc (F42 K) a b = lt a b := by
  obtain ⟨n, h, e⟩ := order_run K ha hb hK
  unfold ltc; rw [h]; exact e
theorem sortOk (K : Nat) (hK : 2000000 ≤ K) {l : List ByteArray} (hl : Small l) (hn : l.length ≤ 1000000) : SortOk (F42 K) l where
  some a ha b hb := by obtain ⟨n, h, _⟩ := order_run K (hl a ha) (hl b hb) hK; exact ⟨n, h⟩
  irrefl a ha := by rw [ltc_eq K hK (hl a ha) (hl a ha)]; exact lt_irrefl a
  trans a ha b hb c hc := by rw [ltc_eq K hK (hl a ha) (hl b hb), ltc_eq K hK (hl b hb) (hl c hc), ltc_eq K hK (hl a ha) (hl c hc)]; exact lt_trans
  ntrans a ha b hb c hc := by rw [ltc_eq K hK (hl a ha) (hl b hb), ltc_eq K hK (hl b hb) (hl c hc), ltc_eq K hK (hl a ha) (hl c hc)]; exact lt_ntrans
  total a ha b hb := by rw [ltc_eq K hK (hl a ha) (hl b hb), ltc_eq K hK (hl b hb) (hl a ha)]; exact lt_total
  size := by omega
noncomputable def ms (l : List ByteArray) : List ByteArray := l.mergeSort fun x y => !(lt y x)
theorem mergeSort_congr {l : List ByteArray} {f g : ByteArray → ByteArray → Bool} (h : ∀ a ∈ l, ∀ b ∈ l, f a b = g a b) : l.mergeSort f = l.mergeSort g := by
  have := List.map_mergeSort (r := f) (s := g) (f := id) (l := l) h
  simpa using this
theorem sort_run (K : Nat) (hK : 2000000 ≤ K) {l : List ByteArray} (hl : Small l) (hn : l.length ≤ 1000000) : F41 K l = some (ms l) := by
  unfold F41
  rw [sortF_of (sortOk K hK hl hn)]
  congr 1
  refine mergeSort_congr fun a ha b hb => ?_
  rw [ltc_eq K hK (hl b hb) (hl a ha)]
theorem ms_mem (l : List ByteArray) (x : ByteArray) : x ∈ ms l ↔ x ∈ l := (List.mergeSort_perm l _).mem_iff
theorem ms_len (l : List ByteArray) : (ms l).length = l.length := List.length_mergeSort l
theorem ms_sorted (l : List ByteArray) : (ms l).Pairwise (fun x y => lt y x = false) := by
  have := List.pairwise_mergeSort (le := fun x y => !(lt y x)) (fun a b c h1 h2 => by
    simp only [Bool.not_eq_true'] at *
    exact lt_ntrans h2 h1) (fun a b => by
    cases h : lt b a with
    | false => simp
    | true => simp [lt_asymm h]) l
  exact this.imp (fun h => by simpa using h)
theorem clone_run (K : Nat) {l : List ByteArray} (hn : l.length ≤ 1000000) : F40 K l = some l := by
  unfold F40
  rw [nilT_of]
  · rw [grdD (by simp only [List.length_nil]; omega)]; rfl
  · intro h
    have : l = [] := List.isEmpty_iff.1 h
    subst this
    rw [grdD (by decide)]; rfl
/-! slices.Compact -/
/-- behind the first two that are alike -/
theorem compact_in (K : Nat) {l : List ByteArray} (hn : l.length ≤ 1000000) {k0 : Nat} (h0 : 1 ≤ k0) (hk0 : k0 < l.length) :
    ∀ (m j k n : Nat) (cur : List ByteArray), l.length - k0 - j = m → 1 ≤ j → k0 + j ≤ l.length → m < n → k ≤ k0 + j - 1 → cur.length = l.length → cur.take k = dd (l.take (k0 + j)) → cur.drop (k0 + j - 1) = l.drop (k0 + j - 1) →
      ∃ (k' : Nat) (cur' : List ByteArray), loopN (L45_32 K ((k0 : Int), l)) n ((k : Int), (j : Int), cur) = some ((k' : Int), cur') ∧ k' ≤ l.length ∧ cur'.length = l.length ∧ cur'.take k' = dd l := by
  intro m
  induction m with
  | zero =>
    intro j k n cur hm hj hle hlt hk hcl ht hd
    obtain ⟨n, rfl⟩ : ∃ i, n = i + 1 := ⟨n - 1, by omega⟩
    refine ⟨k, cur, loop_end ?_, by omega, hcl, ?_⟩
    · unfold L45_32
      simp only [Int.toNat_natCast]
      rw [condF (by omega)]
    · rw [ht, List.take_of_length_le (by omega)]
  | succ m ih =>
    intro j k n cur hm hj hle hlt hk hcl ht hd
    obtain ⟨n, rfl⟩ : ∃ i, n = i + 1 := ⟨n - 1, by omega⟩
    have hlt2 : k0 + j < l.length := by omega
    have g1 : cur[k0 + j]? = some l[k0 + j] := by
      have : (cur.drop (k0 + j - 1))[1]? = (l.drop (k0 + j - 1))[1]? := by rw [hd]
      rw [List.getElem?_drop, List.getElem?_drop, show k0 + j - 1 + 1 = k0 + j by omega, List.getElem?_eq_getElem hlt2] at this
      exact this
    have g0 : cur[k0 + (j - 1)]? = some (l[k0 + j - 1]'(by omega)) := by
      have : (cur.drop (k0 + j - 1))[0]? = (l.drop (k0 + j - 1))[0]? := by rw [hd]
      rw [List.getElem?_drop, List.getElem?_drop, Nat.add_zero, List.getElem?_eq_getElem (by omega : k0 + j - 1 < l.length)] at this
      rw [show k0 + (j - 1) = k0 + j - 1 by omega]; exact this
    have hkc : k < cur.length := by omega
    have w1 : IntKind.wrap .i64 ((j : Int) - 1) = ((j - 1 : Nat) : Int) := by rw [w64 (by omega) (by omega)]; omega
    have w2 : IntKind.wrap .i64 ((j : Int) + 1) = ((j + 1 : Nat) : Int) := by rw [w64 (by omega) (by omega)]; omega
    have w3 : IntKind.wrap .i64 ((k : Int) + 1) = ((k + 1 : Nat) : Int) := by rw [w64 (by omega) (by omega)]; omega
    have hdd : dd (l.take (k0 + (j + 1))) = _ := dd_step (l := l) (j := k0 + j) (by omega) hlt2
    have hd' : ∀ c : List ByteArray, c.drop (k0 + j) = cur.drop (k0 + j) → c.drop (k0 + (j + 1) - 1) = l.drop (k0 + (j + 1) - 1) := by
      intro c hc
      rw [show k0 + (j + 1) - 1 = k0 + j by omega, hc]
      have : (cur.drop (k0 + j - 1)).drop 1 = (l.drop (k0 + j - 1)).drop 1 := by rw [hd]
      rwa [List.drop_drop, List.drop_drop, show k0 + j - 1 + 1 = k0 + j by omega] at this
    by_cases he : l[k0 + j - 1]'(by omega) = l[k0 + j]
    · have hq : (!(l[k0 + j].toList == (l[k0 + j - 1]'(by omega)).toList)) = false := by rw [he]; simp
      obtain ⟨k', cur', e, r1, r2, r3⟩ := ih (j + 1) k n cur (by omega) (by omega) (by omega) (by omega) (by omega) hcl (by rw [hdd, if_pos he, ht]) (hd' cur rfl)
      refine ⟨k', cur', ?_, r1, r2, r3⟩
      rw [loop_step (b := ((k : Int), ((j + 1 : Nat) : Int), cur)), e]
      unfold L45_32
      simp only [Int.toNat_natCast, w1, w2, g1, g0, Option.bind_some, hq, cond_false]
      rw [condT (by omega), grdD (by omega), grdD (by omega)]
      rfl
    · have hq : (!(l[k0 + j].toList == (l[k0 + j - 1]'(by omega)).toList)) = true := by
        rw [Bool.not_eq_true', beq_eq_false_iff_ne]
        exact fun h => he (ba_ext h).symm
      have hset : (cur.set k l[k0 + j]).take (k + 1) = dd (l.take (k0 + (j + 1))) := by
        rw [hdd, if_neg he, take_one (by rw [List.length_set]; exact hkc), List.take_set_of_le (Nat.le_refl _), ht, List.getElem_set_self]
      obtain ⟨k', cur', e, r1, r2, r3⟩ := ih (j + 1) (k + 1) n (cur.set k l[k0 + j]) (by omega) (by omega) (by omega) (by omega) (by omega) (by rw [List.length_set]; exact hcl) hset (hd' _ (by rw [List.drop_set_of_lt (by omega)]))
      refine ⟨k', cur', ?_, r1, r2, r3⟩
      rw [loop_step (b := (((k + 1 : Nat) : Int), ((j + 1 : Nat) : Int), cur.set k l[k0 + j])), e]
      unfold L45_32
      simp only [Int.toNat_natCast, w1, w2, w3, g1, g0, ixn, List.getElem?_eq_getElem hkc, Option.bind_some, hq, cond_true]
      rw [condT (by omega), grdD (by omega), grdD (by omega), grdD (by omega)]
      rfl
theorem compact_out (K : Nat) {l : List ByteArray} (hn : l.length ≤ 1000000) (hK : 2000000 ≤ K) :
    ∀ (m k n : Nat), l.length - k = m → 1 ≤ k → k ≤ l.length → m < n → dd (l.take k) = l.take k →
      ∃ r, loopN (L45_14 K) n ((k : Int), l) = some r ∧ sel (fun y => some ((y.2.2.drop y.1).take y.2.1)) (fun y => some y) r = some (dd l) := by
  intro m
  induction m with
  | zero =>
    intro k n hm h1 hle hlt hd
    obtain ⟨n, rfl⟩ : ∃ i, n = i + 1 := ⟨n - 1, by omega⟩
    refine ⟨.inr l, loop_end ?_, ?_⟩
    · unfold L45_14
      rw [condF (by show ¬ (k : Int) < (l.length : Int); omega)]
    · rw [List.take_of_length_le (by omega)] at hd
      rw [hd]; rfl
  | succ m ih =>
    intro k n hm h1 hle hlt hd
    obtain ⟨n, rfl⟩ : ∃ i, n = i + 1 := ⟨n - 1, by omega⟩
    have hk : k < l.length := by omega
    have hk1 : k - 1 < l.length := by omega
    have w1 : IntKind.wrap .i64 ((k : Int) - 1) = ((k - 1 : Nat) : Int) := by rw [w64 (by omega) (by omega)]; omega
    have w2 : IntKind.wrap .i64 ((k : Int) + 1) = ((k + 1 : Nat) : Int) := by rw [w64 (by omega) (by omega)]; omega
    have hdd := dd_step (l := l) (j := k) h1 hk
    by_cases he : l[k - 1] = l[k]
    · have hq : (l[k].toList == l[k - 1].toList) = true := by rw [he]; simp
      obtain ⟨k', cur', e, r1, r2, r3⟩ := compact_in K hn h1 hk (l.length - k - 1) 1 k K l (by omega) (Nat.le_refl _) (by omega) (by omega) (by omega) rfl (by rw [hdd, if_pos he, hd]) rfl
      have hlen : (cur'.take k' ++ List.replicate (cur'.length - k') ByteArray.empty ++ cur'.drop (k' + (cur'.length - k'))).length = cur'.length := by
        simp only [List.length_append, List.length_take, List.length_replicate, List.length_drop]; omega
      refine ⟨.inl (0, k', cur'.take k' ++ List.replicate (cur'.length - k') ByteArray.empty ++ cur'.drop (k' + (cur'.length - k'))), loop_end ?_, ?_⟩
      · unfold L45_14
        simp only [ixn, w1, Int.toNat_natCast, List.getElem?_eq_getElem hk, List.getElem?_eq_getElem hk1, Option.bind_some, hq, cond_true]
        rw [condT (by omega), grdT (by unfold bnds; exact decide_eq_true (by omega))]
        rw [show ((1 : Int)) = ((1 : Nat) : Int) from rfl, e]
        simp only [Option.bind_some, Int.toNat_natCast, Nat.sub_zero]
        rw [grdT (by unfold bnds; exact decide_eq_true (by omega)), grdT (by unfold bnds; rw [hlen]; exact decide_eq_true (by omega))]
      · show some (((cur'.take k' ++ List.replicate (cur'.length - k') ByteArray.empty ++ cur'.drop (k' + (cur'.length - k'))).drop 0).take k') = _
        rw [List.drop_zero, List.append_assoc, List.take_left' (by rw [List.length_take]; omega), r3]
    · have hq : (l[k].toList == l[k - 1].toList) = false := by
        rw [beq_eq_false_iff_ne]
        exact fun h => he (ba_ext h).symm
      obtain ⟨r, e, hr⟩ := ih (k + 1) n (by omega) (by omega) (by omega) (by omega) (by
        rw [hdd, if_neg he, hd, take_one hk])
      refine ⟨r, ?_, hr⟩
      rw [loop_step (b := (((k + 1 : Nat) : Int), l)), e]
      unfold L45_14
      simp only [ixn, w1, w2, Int.toNat_natCast, List.getElem?_eq_getElem hk, List.getElem?_eq_getElem hk1, Option.bind_some, hq, cond_false]
      rw [condT (by omega)]
theorem compact_run (K : Nat) {l : List ByteArray} (hn : l.length ≤ 1000000) (hK : 2000000 ≤ K) : F45 K l = some (dd l) := by
  unfold F45
  by_cases h : l.length < 2
  · rw [condT (by omega)]
    match l, h with
    | [], _ => rfl
    | [x], _ => rfl
    | _ :: _ :: _, h => simp only [List.length_cons] at h; omega
  · rw [condF (by omega)]
    have h1 : dd (l.take 1) = l.take 1 := by
      match l, h with
      | [], _ => rfl
      | x :: l, _ => rfl
    obtain ⟨r, e, hr⟩ := compact_out K hn hK (l.length - 1) 1 K rfl (Nat.le_refl _) (by omega) (by omega) h1
    rw [show ((1 : Int)) = ((1 : Nat) : Int) from rfl, e, Option.bind_some]
    exact hr
/-- keys.Sorted -/
noncomputable def srt (l : List ByteArray) : List ByteArray := dd (ms l)
theorem srt_mem (l : List ByteArray) (x : ByteArray) : x ∈ srt l ↔ x ∈ l := by unfold srt; rw [dd_mem, ms_mem]
theorem srt_sorted (l : List ByteArray) : (srt l).Pairwise (fun x y => lt x y = true) := dd_sorted (ms_sorted l)
theorem srt_len (l : List ByteArray) : (srt l).length ≤ l.length := by unfold srt; have := dd_len (ms l); rw [ms_len] at this; exact this
theorem srt_uniq {l m : List ByteArray} (h : ∀ x, x ∈ l ↔ x ∈ m) : srt l = srt m := sorted_uniq (srt_sorted l) (srt_sorted m) fun x => by rw [srt_mem, srt_mem]; exact h x
theorem sorted_run (K : Nat) (hK : 2000000 ≤ K) {l : List ByteArray} (hl : Small l) (hn : l.length ≤ 1000000) : F26 K l = some (srt l) := by
  unfold F26
  rw [clone_run K hn, Option.bind_some, sort_run K hK hl hn, Option.bind_some, compact_run K (by rw [ms_len]; exact hn) hK]; rfl
/-! the reference's way -/
noncomputable def ins (x : ByteArray) (l : List ByteArray) : List ByteArray :=
  if l[(l.takeWhile fun y => lt y x).length]? = some x then l else l.take (l.takeWhile fun y => lt y x).length ++ [x] ++ l.drop (l.takeWhile fun y => lt y x).length
theorem tw_le (l : List ByteArray) (p : ByteArray → Bool) : (l.takeWhile p).length ≤ l.length := (List.takeWhile_sublist p).length_le
theorem tw_take : ∀ (l : List ByteArray) (p : ByteArray → Bool), l.take (l.takeWhile p).length = l.takeWhile p ∧ l.drop (l.takeWhile p).length = l.dropWhile p
  | [], p => ⟨rfl, rfl⟩
  | x :: l, p => by
    obtain ⟨h1, h2⟩ := tw_take l p
    by_cases h : p x = true
    · rw [List.takeWhile_cons_of_pos h, List.dropWhile_cons_of_pos h]
      exact ⟨by simp [h1], by simpa using h2⟩
    · rw [List.takeWhile_cons_of_neg h, List.dropWhile_cons_of_neg h]
      exact ⟨rfl, rfl⟩
theorem ins_mem (x : ByteArray) (l : List ByteArray) (y : ByteArray) : y ∈ ins x l ↔ y = x ∨ y ∈ l := by
  unfold ins
  split
  · rename_i h
    constructor
    · exact .inr
    · rintro (rfl | h')
      · exact List.mem_of_getElem? h
      · exact h'
  · rw [List.append_assoc, List.mem_append, List.mem_append, List.mem_singleton]
    have e := List.take_append_drop (l.takeWhile fun y => lt y x).length l
    constructor
    · rintro (h | h | h)
      · exact .inr (List.mem_of_mem_take h)
      · exact .inl h
      · exact .inr (List.mem_of_mem_drop h)
    · rintro (h | h)
      · exact .inr (.inl h)
      · rw [← e, List.mem_append] at h
        rcases h with h | h
        · exact .inl h
        · exact .inr (.inr h)
theorem ins_sorted {x : ByteArray} {l : List ByteArray} (hl : l.Pairwise (fun x y => lt x y = true)) : (ins x l).Pairwise (fun x y => lt x y = true) := by
  unfold ins
  split
  · exact hl
  · rename_i hne
    obtain ⟨h1, h2⟩ := tw_take l (fun y => lt y x)
    rw [h1, h2, List.append_assoc, List.pairwise_append]
    have htw : ∀ y ∈ l.takeWhile (fun y => lt y x), lt y x = true := fun y hy => by
      have := List.all_takeWhile (l := l) (p := fun y => lt y x)
      exact List.all_eq_true.1 this y hy
    have hsub1 := hl.sublist (List.takeWhile_sublist (fun y => lt y x))
    have hsub2 := hl.sublist (List.dropWhile_sublist (fun y => lt y x))
    have hdw : ∀ y ∈ l.dropWhile (fun y => lt y x), lt x y = true := by
      cases hd : l.dropWhile (fun y => lt y x) with
      | nil => intro y hy; cases hy
      | cons z zs =>
        have hz : lt z x = false := by
          have := List.head?_dropWhile_not (fun y => lt y x) l
          rw [hd] at this
          simpa using this
        have hzx : z ≠ x := by
          rintro rfl
          apply hne
          have : (l.drop (l.takeWhile fun y => lt y z).length)[0]? = some z := by rw [h2, hd]; rfl
          rw [List.getElem?_drop, Nat.add_zero] at this
          exact this
        have hxz : lt x z = true := by
          cases g : lt x z with
          | true => rfl
          | false => exact absurd (lt_total g hz).symm hzx
        intro y hy
        rw [hd, List.pairwise_cons] at hsub2
        rcases List.mem_cons.1 hy with rfl | hy
        · exact hxz
        · exact lt_trans hxz (hsub2.1 y hy)
    refine ⟨hsub1, ?_, ?_⟩
    · rw [List.singleton_append, List.pairwise_cons]
      exact ⟨hdw, hsub2⟩
    · intro a ha b hb
      rw [List.singleton_append, List.mem_cons] at hb
      rcases hb with rfl | hb
      · exact htw a ha
      · exact lt_trans (htw a ha) (hdw b hb)
theorem ins_len (x : ByteArray) (l : List ByteArray) : (ins x l).length ≤ l.length + 1 := by
  unfold ins
  split
  · omega
  · simp only [List.length_append, List.length_take, List.length_drop, List.length_singleton]
    have := tw_le l (fun y => lt y x)
    omega
noncomputable def ks (l : List ByteArray) : List ByteArray := l.foldl (fun o x => ins x o) []
theorem ks_snoc (l : List ByteArray) (x : ByteArray) : ks (l ++ [x]) = ins x (ks l) := by unfold ks; rw [List.foldl_append]; rfl
theorem ks_all : ∀ (l : List ByteArray), (ks l).Pairwise (fun x y => lt x y = true) ∧ (∀ x, x ∈ ks l ↔ x ∈ l) ∧ (ks l).length ≤ l.length := by
  intro l
  have key : ∀ (n : Nat), n ≤ l.length → (ks (l.take n)).Pairwise (fun x y => lt x y = true) ∧ (∀ x, x ∈ ks (l.take n) ↔ x ∈ l.take n) ∧ (ks (l.take n)).length ≤ n := by
    intro n
    induction n with
    | zero => intro _; exact ⟨.nil, fun x => Iff.rfl, Nat.le_refl _⟩
    | succ n ih =>
      intro hn
      obtain ⟨h1, h2, h3⟩ := ih (by omega)
      rw [take_one (by omega : n < l.length), ks_snoc]
      refine ⟨ins_sorted h1, fun x => ?_, by have := ins_len l[n] (ks (l.take n)); omega⟩
      rw [ins_mem, h2, List.mem_append, List.mem_singleton]
      exact Or.comm
  have := key l.length (Nat.le_refl _)
  rwa [List.take_length] at this
theorem ks_eq (l : List ByteArray) : ks l = srt l := sorted_uniq (ks_all l).1 (srt_sorted l) fun x => by rw [(ks_all l).2.1, srt_mem]
end Go.Proofs.YtobfoiomjfdjjaaDoor.PSorted
