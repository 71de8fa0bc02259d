/- The reference's map beside the map. -/
import Derived.Test.YtfdglmgblmoakaaDoorPAtomKeys
namespace Go.Proofs.YtfdglmgblmoakaaDoor.PAtomRef
open Go.RowKit Go.Proofs.YtfdglmgblmoakaaDoor.Mc Go.Proofs.YtfdglmgblmoakaaDoor.N Go.Proofs.YtfdglmgblmoakaaDoor.Plain Go.Proofs.YtfdglmgblmoakaaDoor.PureKeys Go.Proofs.YtfdglmgblmoakaaDoor.PSort Go.Proofs.YtfdglmgblmoakaaDoor.PSorted Go.Proofs.YtfdglmgblmoakaaDoor.PFd Go.Proofs.YtfdglmgblmoakaaDoor.PAssoc Go.Proofs.YtfdglmgblmoakaaDoor.PAtom Go.Proofs.YtfdglmgblmoakaaDoor.PAtomKeys
set_option linter.unusedSimpArgs false
set_option linter.unusedVariables false
abbrev As := List Aw
def wo (k : ByteArray) (L : As) : As := L.filter fun a => !decide (a.1 = k)
theorem without_run (K : Nat) (k : ByteArray) (L : As) (hl : L.length ≤ 100000) (hK : 200000 ≤ K) : F29 K k L = some (wo k L) := by
  unfold F29
  rw [loop_go (r := wo k L) (fun i => ((i : Int), wo k (L.take i))) L.length (by rfl) (by omega) ?_ ?_]; rfl
  · intro i hi
    have h1 : (wo k (L.take i)).length ≤ i := by
      refine Nat.le_trans (List.length_filter_le _ _) ?_
      rw [List.length_take]; omega
    unfold L29_8
    simp only [ixn, List.getElem?_eq_getElem hi, Option.bind_some, beq_ba]
    rw [condT (by omega), take_snoc1 hi]
    unfold wo
    rw [List.filter_append]
    by_cases h : L[i].1 = k
    · rw [decide_eq_true h, Bool.not_true, cond_false, Option.bind_some, w64 (by omega) (by omega)]
      simp [h]
    · rw [decide_eq_false h, Bool.not_false, cond_true, grdD (by unfold wo at h1; simp only [List.length_singleton]; omega), Option.bind_some, w64 (by omega) (by omega)]
      simp [h]
  · unfold L29_8
    rw [condF (by omega), List.take_length]
theorem wo_mem (k : ByteArray) (L : As) (a : Aw) : a ∈ wo k L ↔ a ∈ L ∧ a.1 ≠ k := by unfold wo; simp
theorem wo_len (k : ByteArray) (L : As) : (wo k L).length ≤ L.length := List.length_filter_le _ _
/-- keys ascend -/
def Asc (L : As) : Prop := L.Pairwise fun a b => lt a.1 b.1 = true
theorem wo_asc {k : ByteArray} {L : As} (h : Asc L) : Asc (wo k L) := List.Pairwise.filter _ h
/-- where a key goes -/
noncomputable def at_ (k : ByteArray) (L : As) : Nat := (L.takeWhile fun a => lt a.1 k).length
noncomputable def put (a : Aw) (L : As) : As := L.take (at_ a.1 L) ++ [a] ++ L.drop (at_ a.1 L)
theorem tw_le (L : As) (p : Aw → Bool) : (L.takeWhile p).length ≤ L.length := (List.takeWhile_sublist p).length_le
theorem tw_take : ∀ (l : As) (p : Aw → Bool), l.take (l.takeWhile p).length = l.takeWhile p ∧ l.drop (l.takeWhile p).length = l.dropWhile p
  | [], p => ⟨rfl, rfl⟩
  | x :: l, p => by
    obtain ⟨h1, h2⟩ := tw_take l p
    by_cases h : p x = true
    · rw [List.takeWhile_cons_of_pos h, List.dropWhile_cons_of_pos h]
      exact ⟨by simp [h1], by simpa using h2⟩
    · rw [List.takeWhile_cons_of_neg h, List.dropWhile_cons_of_neg h]
      exact ⟨rfl, rfl⟩
theorem tw_all {L : As} {p : Aw → Bool} {y : Aw} (h : y ∈ L.takeWhile p) : p y = true := List.all_eq_true.1 List.all_takeWhile y h
theorem put_mem (a : Aw) (L : As) (b : Aw) : b ∈ put a L ↔ b = a ∨ b ∈ L := by
  unfold put
  have e := List.take_append_drop (at_ a.1 L) L
  rw [List.append_assoc, List.mem_append, List.mem_append, List.mem_singleton]
  constructor
  · rintro (h | h | h)
    · exact .inr (List.mem_of_mem_take h)
    · exact .inl h
    · exact .inr (List.mem_of_mem_drop h)
  · rintro (h | h)
    · exact .inr (.inl h)
    · rw [← e, List.mem_append] at h
      rcases h with h | h
      · exact .inl h
      · exact .inr (.inr h)
theorem put_len (a : Aw) (L : As) : (put a L).length = L.length + 1 := by
  unfold put at_
  have := tw_le L (fun b => lt b.1 a.1)
  simp only [List.length_append, List.length_take, List.length_drop, List.length_singleton]
  omega
theorem put_asc {a : Aw} {L : As} (h : Asc L) (hn : ∀ b ∈ L, b.1 ≠ a.1) : Asc (put a L) := by
  unfold put at_ Asc
  obtain ⟨h1, h2⟩ := tw_take L (fun b => lt b.1 a.1)
  rw [h1, h2, List.append_assoc, List.pairwise_append]
  have htw : ∀ y ∈ L.takeWhile (fun b => lt b.1 a.1), lt y.1 a.1 = true := fun y hy => tw_all (p := fun b => lt b.1 a.1) hy
  have hsub1 := h.sublist (List.takeWhile_sublist (fun b => lt b.1 a.1))
  have hsub2 := h.sublist (List.dropWhile_sublist (fun b => lt b.1 a.1))
  have hdw : ∀ y ∈ L.dropWhile (fun b => lt b.1 a.1), lt a.1 y.1 = true := by
    cases hd : L.dropWhile (fun b => lt b.1 a.1) with
    | nil => intro y hy; cases hy
    | cons z zs =>
      have hz : lt z.1 a.1 = false := by
        have := List.head?_dropWhile_not (fun b => lt b.1 a.1) L
        rw [hd] at this
        simpa using this
      have hzm : z ∈ L := (List.dropWhile_sublist (fun b => lt b.1 a.1)).subset (by rw [hd]; simp)
      have hxz : lt a.1 z.1 = true := by
        cases g : lt a.1 z.1 with
        | true => rfl
        | false => exact absurd (lt_total g hz).symm (hn z hzm)
      intro y hy
      rw [hd, List.pairwise_cons] at hsub2
      rcases List.mem_cons.1 hy with rfl | hy
      · exact hxz
      · exact lt_trans hxz (hsub2.1 y hy)
  refine ⟨hsub1, ?_, ?_⟩
  · rw [List.singleton_append, List.pairwise_cons]
    exact ⟨hdw, hsub2⟩
  · intro b hb c hc
    rw [List.singleton_append, List.mem_cons] at hc
    rcases hc with rfl | hc
    · exact htw b hb
    · exact lt_trans (htw b hb) (hdw c hc)
def SmallA (L : As) : Prop := ∀ a ∈ L, a.1.size ≤ 1000000
noncomputable def rc1 (seq : Int) (L : As) (w : Wr) : As := if w.2.1 then wo w.1 L else put (w.1, true, w.2.2, seq) (wo w.1 L)
noncomputable def rc (seq : Int) (L : As) (l : List Wr) : As := l.foldl (rc1 seq) L
theorem rc_snoc (seq : Int) (L : As) (l : List Wr) (w : Wr) : rc seq L (l ++ [w]) = rc1 seq (rc seq L l) w := by unfold rc; rw [List.foldl_append]; rfl
theorem rc1_len (seq : Int) (L : As) (w : Wr) : (rc1 seq L w).length ≤ L.length + 1 := by
  unfold rc1
  have := wo_len w.1 L
  split
  · omega
  · rw [put_len]; omega
theorem rc_len (seq : Int) : ∀ (l : List Wr) (L : As), (rc seq L l).length ≤ L.length + l.length
  | [], L => by simp [rc]
  | w :: l, L => by
    have h1 := rc_len seq l (rc1 seq L w)
    have h2 := rc1_len seq L w
    show (rc seq (rc1 seq L w) l).length ≤ _
    rw [List.length_cons]; omega
theorem rc1_small {seq : Int} {L : As} {w : Wr} (h : SmallA L) (hw : w.1.size ≤ 1000000) : SmallA (rc1 seq L w) := by
  unfold rc1
  intro a ha
  split at ha
  · exact h a ((wo_mem _ _ _).1 ha).1
  · rcases (put_mem _ _ _).1 ha with rfl | ha
    · exact hw
    · exact h a ((wo_mem _ _ _).1 ha).1
theorem rc_small {seq : Int} : ∀ {l : List Wr} {L : As}, SmallA L → (∀ w ∈ l, w.1.size ≤ 1000000) → SmallA (rc seq L l)
  | [], _, h, _ => h
  | w :: l, L, h, hw => rc_small (l := l) (rc1_small (w := w) h (hw w (by simp))) fun v hv => hw v (by simp [hv])
theorem at_run (K : Nat) (hK : 2000000 ≤ K) (l : List Wr) (i : Nat) (hi : i < l.length) (hw : l[i].1.size ≤ 1000000) (o L0 : As) (ho : SmallA o) (hn : o.length ≤ 1000000) :
    loopN (L21_26 K l o ((i : Int), L0)) K 0 = some ((at_ l[i].1 o : Nat) : Int) := by
  have tw := tw_take o (fun a => lt a.1 l[i].1)
  refine loop_go (fun j => (j : Int)) (at_ l[i].1 o) rfl (by unfold at_; have := tw_le o (fun a => lt a.1 l[i].1); omega) (fun j hj => ?_) ?_
  · unfold at_ at hj
    have hjo : j < o.length := by have := tw_le o (fun a => lt a.1 l[i].1); omega
    have hmem : (o.takeWhile fun a => lt a.1 l[i].1)[j] ∈ o.takeWhile fun a => lt a.1 l[i].1 := List.getElem_mem _
    have hlt : lt (o.takeWhile fun a => lt a.1 l[i].1)[j].1 l[i].1 = true := tw_all (p := fun a => lt a.1 l[i].1) hmem
    have hoj : o[j]? = some (o.takeWhile fun a => lt a.1 l[i].1)[j] := by
      have : (o.take (o.takeWhile fun a => lt a.1 l[i].1).length)[j]? = some (o.takeWhile fun a => lt a.1 l[i].1)[j] := by rw [tw.1]; exact List.getElem?_eq_getElem hj
      rwa [List.getElem?_take, if_pos hj] at this
    have hs := ho _ (List.mem_of_getElem? hoj)
    unfold L21_26
    simp only [ixn, Int.toNat_natCast, hoj, List.getElem?_eq_getElem hi, Option.bind_some, PSorted.ahead K hs hw hK, hlt]
    rw [condT (by omega), Option.bind_some, cond_true, w64 (by omega) (by omega)]; rfl
  · unfold L21_26 at_
    by_cases he : (o.takeWhile fun a => lt a.1 l[i].1).length < o.length
    · have hdw : (o.drop (o.takeWhile fun a => lt a.1 l[i].1).length)[0]? = some o[(o.takeWhile fun a => lt a.1 l[i].1).length] := by
        rw [List.getElem?_drop, Nat.add_zero]; exact List.getElem?_eq_getElem he
      have hz : lt o[(o.takeWhile fun a => lt a.1 l[i].1).length].1 l[i].1 = false := by
        have := List.head?_dropWhile_not (fun a => lt a.1 l[i].1) o
        rw [tw.2] at hdw
        rw [List.head?_eq_getElem?, hdw] at this
        simpa using this
      have hs := ho _ (List.getElem_mem he)
      simp only [ixn, Int.toNat_natCast, List.getElem?_eq_getElem he, List.getElem?_eq_getElem hi, Option.bind_some, PSorted.ahead K hs hw hK, hz]
      rw [condT (by omega)]; rfl
    · rw [condF (by omega)]; rfl
theorem refcommit_run (K : Nat) (hK : 2000000 ≤ K) (seq : Int) (L : As) (l : List Wr) (hl : l.length ≤ 10000) (hL : L.length ≤ 10000) (hs : SmallA L) (hw : ∀ w ∈ l, w.1.size ≤ 1000000) : F21 K seq L l = some (rc seq L l) := by
  unfold F21
  rw [loop_go (r := rc seq L l) (fun i => ((i : Int), rc seq L (l.take i))) l.length (by rfl) (by omega) ?_ ?_]; rfl
  · intro i hi
    have h1 := rc_len seq (l.take i) L
    rw [List.length_take] at h1
    have hso : SmallA (rc seq L (l.take i)) := rc_small hs fun w hm => hw w (List.mem_of_mem_take hm)
    have hwi := hw _ (List.getElem_mem hi)
    generalize hS : rc seq L (l.take i) = S at *
    have h2 := wo_len l[i].1 S
    have hsw : SmallA (wo l[i].1 S) := fun a ha => hso a ((wo_mem _ _ _).1 ha).1
    unfold L21_3
    simp only [ixn, Int.toNat_natCast, List.getElem?_eq_getElem hi, Option.bind_some]
    rw [condT (by omega), without_run K _ _ (by omega) (by omega), Option.bind_some, take_snoc1 hi, rc_snoc, hS, w64 (by omega) (by omega)]
    unfold rc1
    cases hd : l[i].2.1 with
    | true => rfl
    | false =>
      have ha : at_ l[i].1 (wo l[i].1 S) ≤ (wo l[i].1 S).length := tw_le _ _
      rw [cond_false, at_run K hK l i hi hwi _ _ hsw (by omega), Option.bind_some]
      rw [grdT (by unfold bnds; exact decide_eq_true (by omega)), grdD (by simp only [List.length_nil, List.length_take, List.length_drop]; omega), grdD (by simp only [List.length_nil, List.nil_append, List.length_append, List.length_singleton, List.length_take, List.length_drop]; omega), grdT (by unfold bnds; exact decide_eq_true (by omega)), grdD (by simp only [List.length_nil, List.nil_append, List.length_append, List.length_singleton, List.length_take, List.length_drop]; omega), Option.bind_some, List.nil_append]
      rw [Int.toNat_natCast, Nat.sub_zero, List.drop_zero, ← List.length_drop, List.take_length]
      rfl
  · unfold L21_3
    rw [condF (by omega), List.take_length]
def rf (L : As) (l : List ByteArray) : As := l.foldl (fun L k => wo k L) L
theorem rf_snoc (L : As) (l : List ByteArray) (k : ByteArray) : rf L (l ++ [k]) = wo k (rf L l) := by unfold rf; rw [List.foldl_append]; rfl
theorem rf_len : ∀ (l : List ByteArray) (L : As), (rf L l).length ≤ L.length
  | [], L => Nat.le_refl _
  | k :: l, L => Nat.le_trans (rf_len l (wo k L)) (wo_len k L)
theorem refforget_run (K : Nat) (hK : 2000000 ≤ K) (L : As) (l : List ByteArray) (hl : l.length ≤ 100000) (hL : L.length ≤ 100000) : F17 K l L = some (rf L l) := by
  unfold F17
  rw [loop_go (r := rf L l) (fun i => ((i : Int), rf L (l.take i))) l.length (by rfl) (by omega) ?_ ?_]; rfl
  · intro i hi
    have h1 := rf_len (l.take i) L
    unfold L17_3
    simp only [ixn, List.getElem?_eq_getElem hi, Option.bind_some]
    rw [condT (by omega), without_run K _ _ (by omega) (by omega), Option.bind_some, take_snoc1 hi, rf_snoc, w64 (by omega) (by omega)]; rfl
  · unfold L17_3
    rw [condF (by omega), List.take_length]
/-- the last that has the key -/
def lst (k : ByteArray) (L : As) (a0 : Aw) : Aw := L.foldl (fun c a => if a.1 = k then a else c) a0
theorem lst_snoc (k : ByteArray) (L : As) (a a0 : Aw) : lst k (L ++ [a]) a0 = if a.1 = k then a else lst k L a0 := by unfold lst; rw [List.foldl_append]; rfl
def rg (L : As) (k : ByteArray) : Aw := lst k L (k, false, ByteArray.empty, 0)
theorem refget_run (K : Nat) (hK : 2000000 ≤ K) (L : As) (l : List ByteArray) (hl : l.length ≤ 100000) (hL : L.length ≤ 100000) : F19 K L l = some (l.map (rg L)) := by
  unfold F19
  rw [loop_go (r := l.map (rg L)) (fun i => ((i : Int), (l.take i).map (rg L))) l.length (by rfl) (by omega) ?_ ?_]; rfl
  · intro i hi
    have hin : loopN (L19_23 K L l ((i : Int), (l.take i).map (rg L))) K (0, l[i], false, ByteArray.empty, 0) = some (rg L l[i]) := by
      refine loop_go (fun j => ((j : Int), lst l[i] (L.take j) (l[i], false, ByteArray.empty, 0))) L.length (by rfl) (by omega) (fun j hj => ?_) ?_
      · unfold L19_23
        simp only [ixn, Int.toNat_natCast, List.getElem?_eq_getElem hi, List.getElem?_eq_getElem hj, Option.bind_some, beq_ba]
        rw [condT (by omega), take_snoc1 hj, lst_snoc, w64 (by omega) (by omega)]
        by_cases h : L[j].1 = l[i]
        · rw [decide_eq_true h, if_pos h]; rfl
        · rw [decide_eq_false h, if_neg h]; rfl
      · unfold L19_23
        dsimp only
        rw [condF (by omega), List.take_length]; rfl
    unfold L19_8
    simp only [ixn, Int.toNat_natCast, List.getElem?_eq_getElem hi, Option.bind_some, hin]
    rw [condT (by omega), grdD (by simp only [List.length_map, List.length_take, List.length_singleton]; omega), w64 (by omega) (by omega), take_snoc1 hi, List.map_append]; rfl
  · unfold L19_8
    rw [condF (by omega), List.take_length]
theorem refkeysof_run (K : Nat) (hK : 2000000 ≤ K) (L : As) (hL : L.length ≤ 100000) : F24 K L = some (L.map (·.1)) := by
  unfold F24
  rw [loop_go (r := L.map (·.1)) (fun i => ((i : Int), (L.take i).map (·.1))) L.length (by rfl) (by omega) ?_ ?_]; rfl
  · intro i hi
    unfold L24_8
    simp only [ixn, List.getElem?_eq_getElem hi, Option.bind_some]
    rw [condT (by omega), grdD (by simp only [List.length_map, List.length_take, List.length_singleton]; omega), w64 (by omega) (by omega), take_snoc1 hi, List.map_append]; rfl
  · unfold L24_8
    rw [condF (by omega), List.take_length]
/-! the two side by side -/
structure Rel (es : Es) (L : As) : Prop where
  nd : ND es
  asc : Asc L
  own : ∀ k a, mget sEq es k = some a → a.1 = k
  mem : ∀ a, a ∈ L ↔ mget sEq es a.1 = some a
theorem Rel.nil : Rel [] [] := ⟨nd_nil, List.Pairwise.nil, fun k a h => by simp [mget] at h, fun a => by simp [mget]⟩
theorem Rel.wo {es : Es} {L : As} (h : Rel es L) (k : ByteArray) : Rel (mdel sEq es k) (wo k L) where
  nd := nd_del h.nd
  asc := wo_asc h.asc
  own := fun k' a ha => by
    rw [get_del _ _ h.nd] at ha
    split at ha
    · cases ha
    · exact h.own k' a ha
  mem := fun a => by
    rw [wo_mem, h.mem, get_del _ _ h.nd]
    by_cases hk : k = a.1
    · simp [hk]
    · have hk' : ¬ a.1 = k := fun e => hk e.symm
      simp [hk, hk']
theorem Rel.put {es : Es} {L : As} (h : Rel es L) (a : Aw) : Rel (mset sEq es a.1 a) (put a (PAtomRef.wo a.1 L)) where
  nd := nd_set h.nd
  asc := put_asc (wo_asc h.asc) fun b hb => ((wo_mem _ _ _).1 hb).2
  own := fun k' b hb => by
    rw [get_set] at hb
    split at hb
    · rename_i e; cases hb; exact e
    · exact h.own k' b hb
  mem := fun b => by
    rw [put_mem, wo_mem, h.mem, get_set]
    by_cases hk : a.1 = b.1
    · rw [if_pos hk]
      constructor
      · rintro (rfl | ⟨_, h2⟩)
        · rfl
        · exact absurd hk.symm h2
      · intro e
        cases e
        exact .inl rfl
    · rw [if_neg hk]
      constructor
      · rintro (rfl | ⟨h1, _⟩)
        · exact absurd rfl hk
        · exact h1
      · exact fun h1 => .inr ⟨h1, fun e => hk e.symm⟩
theorem Rel.c1 {es : Es} {L : As} (h : Rel es L) (seq : Int) (w : Wr) : Rel (c1 seq es w) (rc1 seq L w) := by
  unfold PAtom.c1 rc1
  split
  · exact h.wo w.1
  · exact h.put (w.1, true, w.2.2, seq)
theorem Rel.cm {seq : Int} : ∀ {l : List Wr} {es : Es} {L : As}, Rel es L → Rel (cm seq es l) (rc seq L l)
  | [], _, _, h => h
  | w :: l, es, L, h => Rel.cm (l := l) (h.c1 seq w)
theorem Rel.fg : ∀ {l : List ByteArray} {es : Es} {L : As}, Rel es L → Rel (fg es l) (rf L l)
  | [], _, _, h => h
  | k :: l, es, L, h => Rel.fg (l := l) (h.wo k)
theorem lst_none {k : ByteArray} : ∀ {L : As} {a0 : Aw}, (∀ a ∈ L, a.1 ≠ k) → lst k L a0 = a0
  | [], _, _ => rfl
  | a :: L, a0, h => by
    show lst k L (if a.1 = k then a else a0) = a0
    rw [if_neg (h a (by simp))]
    exact lst_none fun b hb => h b (by simp [hb])
theorem lst_one {k : ByteArray} {a : Aw} (hk : a.1 = k) : ∀ {L : As} {a0 : Aw}, (a ∈ L ∨ a0 = a) → (∀ b ∈ L, b.1 = k → b = a) → lst k L a0 = a
  | [], a0, h, _ => by
    rcases h with h | h
    · cases h
    · exact h
  | b :: L, a0, h, hu => by
    show lst k L (if b.1 = k then b else a0) = a
    refine lst_one hk ?_ fun c hc => hu c (by simp [hc])
    by_cases hb : b.1 = k
    · rw [if_pos hb]; exact .inr (hu b (by simp) hb)
    · rw [if_neg hb]
      rcases h with h | h
      · rcases List.mem_cons.1 h with rfl | h
        · exact absurd hk hb
        · exact .inl h
      · exact .inr h
theorem Rel.get {es : Es} {L : As} (h : Rel es L) (k : ByteArray) : rg L k = gt es k := by
  unfold rg gt
  cases hg : mget sEq es k with
  | none =>
    rw [lst_none fun a ha e => by
      have := (h.mem a).1 ha
      rw [e, hg] at this
      cases this]
    rfl
  | some a =>
    have hk := h.own k a hg
    rw [lst_one hk (.inl ((h.mem a).2 (by rw [hk]; exact hg))) fun b hb e => by
      have := (h.mem b).1 hb
      rw [e, hg] at this
      exact (Option.some.inj this).symm]
    subst hk; rfl
theorem Rel.keys {es : Es} {L : As} (h : Rel es L) : L.map (·.1) = kys es := by
  refine sorted_uniq (List.pairwise_map.2 h.asc) (srt_sorted _) fun x => ?_
  unfold kys
  rw [srt_mem]
  constructor
  · intro hx
    obtain ⟨a, ha, rfl⟩ := List.mem_map.1 hx
    exact List.mem_map.2 ⟨_, get_some_mem ((h.mem a).1 ha), rfl⟩
  · intro hx
    obtain ⟨⟨k, a⟩, ha, rfl⟩ := List.mem_map.1 hx
    have hg := mem_get h.nd ha
    have hk := h.own k a hg
    exact List.mem_map.2 ⟨a, (h.mem a).2 (by rw [hk]; exact hg), hk⟩
theorem Rel.all {es : Es} {L : As} (h : Rel es L) : (L.map (·.1)).map (gt es) = L := by
  rw [List.map_map]
  conv => rhs; rw [← List.map_id L]
  refine List.map_congr_left fun a ha => ?_
  show gt es a.1 = a
  unfold gt
  rw [(h.mem a).1 ha]; rfl
theorem Rel.len {es : Es} {L : As} (h : Rel es L) : es.length = L.length := by
  have h1 := h.keys
  have hp : (es.map (·.1)).Perm (L.map (·.1)) := by
    rw [List.perm_ext_iff_of_nodup h.nd ?_]
    · intro x; rw [h1]; exact (srt_mem _ _).symm
    · refine (List.pairwise_map.2 h.asc : (L.map (·.1)).Pairwise fun x y => lt x y = true).imp fun {a b} hab => ?_
      rintro rfl
      rw [lt_irrefl] at hab; cases hab
  simpa using hp.length_eq
theorem Rel.small {es : Es} {L : As} (h : Rel es L) (hs : SmallA L) : Small (es.map (·.1)) := by
  intro k hk
  obtain ⟨⟨k, a⟩, ha, rfl⟩ := List.mem_map.1 hk
  have hg := mem_get h.nd ha
  have hk := h.own k a hg
  have := hs a ((h.mem a).2 (by rw [hk]; exact hg))
  rwa [hk] at this
theorem rf_small : ∀ {l : List ByteArray} {L : As}, SmallA L → SmallA (rf L l)
  | [], _, h => h
  | k :: l, L, h => rf_small (l := l) fun a ha => h a ((wo_mem _ _ _).1 ha).1
/-! equal answers -/
theorem same_loop {f : Int → Option (Int ⊕ (Unit ⊕ Unit))} (K n : Nat) (h : ∀ i, i < n → f (i : Int) = some (.inl ((i + 1 : Nat) : Int))) (he : f (n : Int) = some (.inr (.inr ()))) (hK : n < K) : loopN f K 0 = some (.inr ()) :=
  loop_go (fun i => (i : Int)) n rfl hK h he
theorem same0 (K : Nat) (L : As) (hL : L.length ≤ 100000) (hK : 2000000 ≤ K) : F18 K L L = some true := by
  unfold F18
  rw [bne_self_eq_false, cond_false, same_loop K L.length ?_ ?_ (by omega)]
  · rfl
  · intro i hi
    unfold L18_14
    simp only [ixn, Int.toNat_natCast, List.getElem?_eq_getElem hi, Option.bind_some, beq_self_eq_true, Bool.and_self, Bool.not_true, cond_false]
    rw [condT (by omega), w64 (by omega) (by omega)]; rfl
  · unfold L18_14
    rw [condF (by omega)]
theorem same1 (K : Nat) (L : As) (hL : L.length ≤ 100000) (hK : 2000000 ≤ K) : F18_1 K L L = some true := by
  unfold F18_1
  rw [bne_self_eq_false, cond_false, same_loop K L.length ?_ ?_ (by omega)]
  · rfl
  · intro i hi
    unfold L18_1_14
    simp only [ixn, Int.toNat_natCast, List.getElem?_eq_getElem hi, Option.bind_some, beq_self_eq_true, Bool.and_self, Bool.not_true, cond_false]
    rw [condT (by omega), w64 (by omega) (by omega)]; rfl
  · unfold L18_1_14
    rw [condF (by omega)]
theorem same3 (K : Nat) (L : As) (hL : L.length ≤ 100000) (hK : 2000000 ≤ K) : F18_3 K L L = some true := by
  unfold F18_3
  rw [bne_self_eq_false, cond_false, same_loop K L.length ?_ ?_ (by omega)]
  · rfl
  · intro i hi
    unfold L18_3_14
    simp only [ixn, Int.toNat_natCast, List.getElem?_eq_getElem hi, Option.bind_some, beq_self_eq_true, Bool.and_self, Bool.not_true, cond_false]
    rw [condT (by omega), w64 (by omega) (by omega)]; rfl
  · unfold L18_3_14
    rw [condF (by omega)]
end Go.Proofs.YtfdglmgblmoakaaDoor.PAtomRef
