/- The reference's shelf beside the shelf. -/
import Derived.Test.YtnjkfchgakpjgaaDoorPThose
import Derived.Test.YtnjkfchgakpjgaaDoorPRel
namespace Go.Proofs.YtnjkfchgakpjgaaDoor.PShelfRef
open Go.RowKit Go.Proofs.YtnjkfchgakpjgaaDoor.Mc Go.Proofs.YtnjkfchgakpjgaaDoor.N Go.Proofs.YtnjkfchgakpjgaaDoor.Plain Go.Proofs.YtnjkfchgakpjgaaDoor.PureKeys Go.Proofs.YtnjkfchgakpjgaaDoor.PSort Go.Proofs.YtnjkfchgakpjgaaDoor.PSorted Go.Proofs.YtnjkfchgakpjgaaDoor.PFd Go.Proofs.YtnjkfchgakpjgaaDoor.PAssoc Go.Proofs.YtnjkfchgakpjgaaDoor.PShelf Go.Proofs.YtnjkfchgakpjgaaDoor.PShelfD Go.Proofs.YtnjkfchgakpjgaaDoor.PThose Go.Proofs.YtnjkfchgakpjgaaDoor.PRel
set_option linter.unusedSimpArgs false
set_option linter.unusedVariables false
abbrev Ls := List Ln
theorem filt_run {γ : Type} {f : Int × List γ → Option ((Int × List γ) ⊕ List γ)} (K : Nat) (L : Ls) (p : Ln → Bool) (g : Ln → γ) (hK : L.length < K)
    (hf : ∀ (i : Nat) (h : i < L.length) (out : List γ), out.length ≤ i → f ((i : Int), out) = some (.inl (((i + 1 : Nat) : Int), if p L[i] then out ++ [g L[i]] else out))) (he : ∀ out, f ((L.length : Int), out) = some (.inr out)) : loopN f K (0, []) = some ((L.filter p).map g) := by
  refine loop_go (fun i => ((i : Int), ((L.take i).filter p).map g)) L.length (by rfl) hK (fun i hi => ?_) ?_
  · have hl : (((L.take i).filter p).map g).length ≤ i := by
      rw [List.length_map]
      refine Nat.le_trans (List.length_filter_le _ _) ?_
      rw [List.length_take]; omega
    rw [hf i hi _ hl, take_snoc1 hi, List.filter_append, List.map_append]
    by_cases h : p L[i] = true
    · simp [h]
    · rw [Bool.not_eq_true] at h
      simp [h]
  · rw [he, List.take_length]
theorem without_run (K : Nat) (k : ByteArray) (L : Ls) (hl : L.length ≤ 100000) (hK : 200000 ≤ K) : F43 K k L = some (wo k L) := by
  unfold F43
  rw [filt_run K L (fun a => !decide (a.1 = k)) (fun a => a) (by omega) ?_ ?_]
  · rw [List.map_id']; rfl
  · intro i hi out ho
    unfold L43_8
    simp only [ixn, List.getElem?_eq_getElem hi, Option.bind_some, beq_ba]
    rw [condT (by omega)]
    by_cases h : L[i].1 = k
    · rw [decide_eq_true h, Bool.not_true, cond_false, Option.bind_some, w64 (by omega) (by omega)]; rfl
    · rw [decide_eq_false h, Bool.not_false, cond_true, grdD (by simp only [List.length_singleton]; omega), Option.bind_some, w64 (by omega) (by omega)]; rfl
  · intro out
    unfold L43_8
    rw [condF (by omega)]
theorem refkeys_run (K : Nat) (L : Ls) (hl : L.length ≤ 100000) (hK : 200000 ≤ K) : F23 K L = some (L.map (·.1)) := by
  unfold F23
  rw [filt_run K L (fun _ => true) (fun a => a.1) (by omega) ?_ ?_]
  · rw [List.filter_eq_self.2 (fun _ _ => rfl)]; rfl
  · intro i hi out ho
    unfold L23_8
    simp only [ixn, List.getElem?_eq_getElem hi, Option.bind_some]
    rw [condT (by omega), grdD (by simp only [List.length_singleton]; omega), w64 (by omega) (by omega)]; rfl
  · intro out
    unfold L23_8
    rw [condF (by omega)]
theorem reflive_run (K : Nat) (q : Int) (L : Ls) (hl : L.length ≤ 100000) (hK : 200000 ≤ K) : F34 K q L = some ((L.filter (lp q)).map (·.1)) := by
  unfold F34
  rw [filt_run K L (lp q) (fun a => a.1) (by omega) ?_ ?_]
  · rfl
  · intro i hi out ho
    unfold L34_8 lp
    simp only [ixn, List.getElem?_eq_getElem hi, Option.bind_some]
    rw [condT (by omega)]
    by_cases h : L[i].2.1 = q
    · rw [beq_iff_eq.2 h, cond_true, grdD (by simp only [List.length_singleton]; omega), Option.bind_some, w64 (by omega) (by omega)]; rfl
    · rw [beq_eq_false_iff_ne.2 h, cond_false, Option.bind_some, w64 (by omega) (by omega)]; rfl
  · intro out
    unfold L34_8
    rw [condF (by omega)]
theorem refdrop_run (K : Nat) (q t : Int) (L : Ls) (hl : L.length ≤ 100000) (hK : 200000 ≤ K) : F32 K q t L = some ((L.filter (dp q t)).map (·.1), L.filter fun a => !dp q t a) := by
  unfold F32
  rw [loop_go (r := ((L.filter (dp q t)).map (·.1), L.filter fun a => !dp q t a)) (fun i => ((i : Int), ((L.take i).filter (dp q t)).map (·.1), (L.take i).filter fun a => !dp q t a)) L.length (by rfl) (by omega) ?_ ?_]; rfl
  · intro i hi
    have h1 : (((L.take i).filter (dp q t)).map (·.1)).length ≤ i := by
      rw [List.length_map]
      refine Nat.le_trans (List.length_filter_le _ _) ?_
      rw [List.length_take]; omega
    have h2 : ((L.take i).filter fun a => !dp q t a).length ≤ i := by
      refine Nat.le_trans (List.length_filter_le _ _) ?_
      rw [List.length_take]; omega
    unfold L32_10
    simp only [ixn, List.getElem?_eq_getElem hi, Option.bind_some]
    have hd : ((cond (decide (L[i].2.1 ≤ q)) (some true) (some (decide (L[i].2.2 ≤ t)))) : Option Bool) = some (dp q t L[i]) := by
      unfold dp
      cases decide (L[i].2.1 ≤ q) <;> rfl
    rw [condT (by omega), hd, Option.bind_some, take_snoc1 hi, List.filter_append, List.filter_append, List.map_append, w64 (by omega) (by omega)]
    by_cases h : dp q t L[i] = true
    · rw [h, cond_true, grdD (by simp only [List.length_singleton]; omega)]
      simp [h]
    · rw [Bool.not_eq_true] at h
      rw [h, cond_false, grdD (by simp only [List.length_singleton]; omega)]
      simp [h]
  · unfold L32_10
    dsimp only
    rw [condF (by omega), List.take_length]
theorem reftop_run (K : Nat) (q : Int) (L : Ls) (hl : L.length ≤ 100000) (hK : 200000 ≤ K) : F35 K q L = some (tp q 0 L) := by
  unfold F35
  rw [loop_go (r := tp q 0 L) (fun i => (tp q 0 (L.take i), (i : Int))) L.length (by rfl) (by omega) ?_ ?_]; rfl
  · intro i hi
    unfold L35_8
    simp only [ixn, List.getElem?_eq_getElem hi, Option.bind_some]
    have e : tp q 0 (L.take (i + 1)) = ts q (tp q 0 (L.take i)) L[i] := by
      rw [take_snoc1 hi]
      unfold tp
      rw [List.foldl_append]; rfl
    rw [condT (by omega), e, w64 (by omega) (by omega)]
    unfold ts
    by_cases h : L[i].2.1 ≤ q
    · rw [condT h, if_pos h]; rfl
    · rw [condF h, if_neg h]; rfl
  · unfold L35_8
    dsimp only
    rw [condF (by omega), List.take_length]
theorem find_run' {α : Type} {f : Int → Option (Int ⊕ (Int ⊕ Unit))} (l : List α) (p : α → Bool) (hf : ∀ (i : Nat) (h : i < l.length), f (i : Int) = cond (p l[i]) (some (.inr (.inl (i : Int)))) (some (.inl ((i + 1 : Nat) : Int)))) (he : f (l.length : Int) = some (.inr (.inr ()))) :
    ∀ (m i k : Nat), i + m = l.length → m < k → loopN f k (i : Int) = some (match (l.drop i).findIdx? p with | some j => .inl ((i + j : Nat) : Int) | none => .inr ())
  | 0, i, k, hi, hk => by
    obtain ⟨k, rfl⟩ : ∃ q, k = q + 1 := ⟨k - 1, by omega⟩
    have hil : i = l.length := by omega
    subst hil
    rw [loop_end he, List.drop_length]; rfl
  | m + 1, i, k, hi, hk => by
    obtain ⟨k, rfl⟩ : ∃ q, k = q + 1 := ⟨k - 1, by omega⟩
    have hil : i < l.length := by omega
    have h := hf i hil
    rw [List.drop_eq_getElem_cons hil, List.findIdx?_cons]
    cases hp : p l[i] with
    | true =>
      rw [hp] at h
      rw [loop_end (r := .inl (i : Int)) h]; rfl
    | false =>
      rw [hp] at h
      rw [loop_step h, find_run' l p hf he m (i + 1) k (by omega) (by omega)]
      simp only [Bool.false_eq_true, if_false]
      cases (l.drop (i + 1)).findIdx? p with
      | none => rfl
      | some j => simp only [Option.map_some]; rw [show i + 1 + j = i + (j + 1) by omega]
theorem refget_run (K : Nat) (k : ByteArray) (es : Es) (L : Ls) (h : Rel es L) (hl : L.length ≤ 100000) (hK : 200000 ≤ K) : F33 K k L = some (gl es k) := by
  have hat : loopN (L42_6 K k L) K 0 = some (match L.findIdx? (fun a => decide (a.1 = k)) with | some j => .inl (j : Int) | none => .inr ()) := by
    have := find_run' (f := L42_6 K k L) L (fun a => decide (a.1 = k)) (fun i hi => by
      unfold L42_6
      simp only [ixn, List.getElem?_eq_getElem hi, Option.bind_some, beq_ba]
      rw [condT (by omega), w64 (by omega) (by omega)]; rfl) (by
      unfold L42_6
      rw [condF (by omega)]) L.length 0 K (by omega) (by omega)
    rw [show (0 : Int) = ((0 : Nat) : Int) from rfl, this, List.drop_zero]
    cases L.findIdx? (fun a => decide (a.1 = k)) with
    | none => rfl
    | some j => simp only [Nat.zero_add]
  unfold F33 F42
  rw [hat, Option.bind_some]
  cases hf : L.findIdx? (fun a => decide (a.1 = k)) with
  | none =>
    rw [List.findIdx?_eq_none_iff] at hf
    have hg : mget sEq es k = none := by
      cases hg : mget sEq es k with
      | none => rfl
      | some a =>
        obtain ⟨h1, h2⟩ := h.in_of hg
        have := hf a h1
        simp [h2] at this
    unfold gl
    rw [hg]; rfl
  | some j =>
    rw [List.findIdx?_eq_some_iff_getElem] at hf
    obtain ⟨hj, hp, _⟩ := hf
    have hk : L[j].1 = k := of_decide_eq_true hp
    have hg := (h.mem L[j]).1 (List.getElem_mem hj)
    rw [hk] at hg
    unfold gl
    rw [hg]
    simp only [sel, Option.bind_some]
    rw [condT (by omega), ixn, List.getElem?_eq_getElem hj]; rfl
def SmallA (L : Ls) : Prop := ∀ a ∈ L, a.1.size ≤ 1000000
noncomputable def rc1 (sq tq : Int) (L : Ls) (w : Wr) : Ls := if w.2.1 then wo w.1 L else put (w.1, sq, tq) (wo w.1 L)
noncomputable def rc (sq tq : Int) (L : Ls) (l : List Wr) : Ls := l.foldl (rc1 sq tq) L
theorem rc_snoc (sq tq : Int) (L : Ls) (l : List Wr) (w : Wr) : rc sq tq L (l ++ [w]) = rc1 sq tq (rc sq tq L l) w := by unfold rc; rw [List.foldl_append]; rfl
theorem rc1_len (sq tq : Int) (L : Ls) (w : Wr) : (rc1 sq tq L w).length ≤ L.length + 1 := by
  unfold rc1
  have := wo_len w.1 L
  split
  · omega
  · rw [put_len]; omega
theorem rc_len (sq tq : Int) : ∀ (l : List Wr) (L : Ls), (rc sq tq L l).length ≤ L.length + l.length
  | [], L => by simp [rc]
  | w :: l, L => by
    have h1 := rc_len sq tq l (rc1 sq tq L w)
    have h2 := rc1_len sq tq L w
    show (rc sq tq (rc1 sq tq L w) l).length ≤ _
    rw [List.length_cons]; omega
theorem rc1_small {sq tq : Int} {L : Ls} {w : Wr} (h : SmallA L) (hw : w.1.size ≤ 1000000) : SmallA (rc1 sq tq L w) := by
  unfold rc1
  intro a ha
  split at ha
  · exact h a ((wo_mem _ _ _).1 ha).1
  · rcases (put_mem _ _ _).1 ha with rfl | ha
    · exact hw
    · exact h a ((wo_mem _ _ _).1 ha).1
theorem rc_small {sq tq : Int} : ∀ {l : List Wr} {L : Ls}, SmallA L → (∀ w ∈ l, w.1.size ≤ 1000000) → SmallA (rc sq tq L l)
  | [], _, h, _ => h
  | w :: l, L, h, hw => rc_small (l := l) (rc1_small (w := w) h (hw w (by simp))) fun v hv => hw v (by simp [hv])
theorem at_run (K : Nat) (hK : 2000000 ≤ K) (w : Wr) (hw : w.1.size ≤ 1000000) (o : Ls) (ho : SmallA o) (hn : o.length ≤ 1000000) :
    loopN (L36_30 K w o) K 0 = some ((at_ w.1 o : Nat) : Int) := by
  have tw := tw_take o (fun a => lt a.1 w.1)
  refine loop_go (fun j => (j : Int)) (at_ w.1 o) rfl (by unfold at_; have := tw_le o (fun a => lt a.1 w.1); omega) (fun j hj => ?_) ?_
  · unfold at_ at hj
    have hjo : j < o.length := by have := tw_le o (fun a => lt a.1 w.1); omega
    have hmem : (o.takeWhile fun a => lt a.1 w.1)[j] ∈ o.takeWhile fun a => lt a.1 w.1 := List.getElem_mem _
    have hlt : lt (o.takeWhile fun a => lt a.1 w.1)[j].1 w.1 = true := tw_all (p := fun a : Ln => lt a.1 w.1) hmem
    have hoj : o[j]? = some (o.takeWhile fun a => lt a.1 w.1)[j] := by
      have : (o.take (o.takeWhile fun a => lt a.1 w.1).length)[j]? = some (o.takeWhile fun a => lt a.1 w.1)[j] := by rw [tw.1]; exact List.getElem?_eq_getElem hj
      rwa [List.getElem?_take, if_pos hj] at this
    have hs := ho _ (List.mem_of_getElem? hoj)
    unfold L36_30
    simp only [ixn, Int.toNat_natCast, hoj, Option.bind_some, PSorted.ahead K hs hw hK, hlt]
    rw [condT (by omega), Option.bind_some, cond_true, w64 (by omega) (by omega)]; rfl
  · unfold L36_30 at_
    by_cases he : (o.takeWhile fun a => lt a.1 w.1).length < o.length
    · have hdw : (o.drop (o.takeWhile fun a => lt a.1 w.1).length)[0]? = some o[(o.takeWhile fun a => lt a.1 w.1).length] := by
        rw [List.getElem?_drop, Nat.add_zero]; exact List.getElem?_eq_getElem he
      have hz : lt o[(o.takeWhile fun a => lt a.1 w.1).length].1 w.1 = false := by
        have := List.head?_dropWhile_not (fun a : Ln => lt a.1 w.1) o
        rw [tw.2] at hdw
        rw [List.head?_eq_getElem?, hdw] at this
        simpa using this
      have hs := ho _ (List.getElem_mem he)
      simp only [ixn, Int.toNat_natCast, List.getElem?_eq_getElem he, Option.bind_some, PSorted.ahead K hs hw hK, hz]
      rw [condT (Int.ofNat_lt.2 he)]; rfl
    · rw [condF (fun h => he (Int.ofNat_lt.1 h))]; rfl
theorem refapply_run (K : Nat) (hK : 2000000 ≤ K) (sq u tq : Int) (L : Ls) (l : List Wr) (hl : l.length ≤ 10000) (hL : L.length ≤ 10000) (hs : SmallA L) (hw : ∀ w ∈ l, w.1.size ≤ 1000000) : F36 K sq u tq l L = some (rc sq tq L l) := by
  unfold F36
  rw [loop_go (r := rc sq tq L l) (fun i => ((i : Int), rc sq tq L (l.take i))) l.length (by rfl) (by omega) ?_ ?_]; rfl
  · intro i hi
    have h1 := rc_len sq tq (l.take i) L
    rw [List.length_take] at h1
    have hso : SmallA (rc sq tq L (l.take i)) := rc_small hs fun w hm => hw w (List.mem_of_mem_take hm)
    have hwi := hw _ (List.getElem_mem hi)
    generalize hS : rc sq tq L (l.take i) = S at *
    have h2 := wo_len l[i].1 S
    have hsw : SmallA (wo l[i].1 S) := fun a ha => hso a ((wo_mem _ _ _).1 ha).1
    unfold L36_5
    simp only [ixn, List.getElem?_eq_getElem hi, Option.bind_some]
    rw [condT (by omega), without_run K _ _ (by omega) (by omega), Option.bind_some, take_snoc1 hi, rc_snoc, hS, w64 (by omega) (by omega)]
    unfold rc1
    cases hd : l[i].2.1 with
    | true => rfl
    | false =>
      have ha : at_ l[i].1 (wo l[i].1 S) ≤ (wo l[i].1 S).length := tw_le _ _
      rw [cond_false, at_run K hK l[i] hwi _ hsw (by omega), Option.bind_some]
      rw [grdT (by unfold bnds; exact decide_eq_true (by omega)), grdD (by simp only [List.length_nil, List.length_take, List.length_drop]; omega), grdD (by simp only [List.length_nil, List.nil_append, List.length_append, List.length_singleton, List.length_take, List.length_drop]; omega), grdT (by unfold bnds; exact decide_eq_true (by omega)), grdD (by simp only [List.length_nil, List.nil_append, List.length_append, List.length_singleton, List.length_take, List.length_drop]; omega), Option.bind_some, List.nil_append]
      rw [Int.toNat_natCast, Int.toNat_natCast, Nat.sub_zero, List.drop_zero, ← List.length_drop, List.take_length]
      rfl
  · unfold L36_5
    rw [condF (by omega), List.take_length]
/-! side by side -/
theorem rel_c1 {es : Es} {L : Ls} (h : Rel es L) (sq tq : Int) (w : Wr) : Rel (c1 sq tq es w) (rc1 sq tq L w) := by
  unfold c1 rc1
  split
  · exact h.wo w.1
  · exact h.put (w.1, sq, tq)
theorem rel_cm {sq tq : Int} : ∀ {l : List Wr} {es : Es} {L : Ls}, Rel es L → Rel (cm sq tq es l) (rc sq tq L l)
  | [], _, _, h => h
  | w :: l, es, L, h => rel_cm (l := l) (rel_c1 h sq tq w)
theorem rel_th {es : Es} {L : Ls} (h : Rel es L) (p : Ln → Bool) : (L.filter p).map (·.1) = th p es := by
  refine sorted_uniq (List.pairwise_map.2 (h.asc.sublist List.filter_sublist)) (srt_sorted _) fun x => ?_
  show _ ↔ x ∈ th p es
  rw [th_mem h.nd, List.mem_map]
  constructor
  · rintro ⟨a, ha, rfl⟩
    rw [List.mem_filter] at ha
    exact ⟨a, (h.mem a).1 ha.1, ha.2⟩
  · rintro ⟨a, ha, hp⟩
    obtain ⟨h1, h2⟩ := h.in_of ha
    exact ⟨a, List.mem_filter.2 ⟨h1, hp⟩, h2⟩
theorem rel_dr {es : Es} {L : Ls} (h : Rel es L) (q t : Int) : Rel (dr q t es) (L.filter fun a => !dp q t a) where
  nd := nd_dr h.nd
  asc := h.asc.sublist List.filter_sublist
  own := fun k a ha => by
    rw [get_dr h.nd] at ha
    cases hg : mget sEq es k with
    | none => rw [hg] at ha; cases ha
    | some b =>
      rw [hg] at ha
      dsimp only at ha
      split at ha
      · cases ha
      · cases ha
        exact h.own k a hg
  mem := fun a => by
    rw [List.mem_filter, h.mem, get_dr h.nd]
    cases hg : mget sEq es a.1 with
    | none => simp
    | some b =>
      dsimp only
      constructor
      · rintro ⟨h1, h2⟩
        cases h1
        rw [if_neg (by simpa using h2)]
      · intro h1
        split at h1
        · cases h1
        · cases h1
          rename_i hne
          exact ⟨rfl, by simpa using hne⟩
theorem rel_top {es : Es} {L : Ls} (h : Rel es L) (q : Int) : tp q 0 L = tpe q es := by
  unfold tpe
  refine tp_perm ?_
  have hnl : L.Nodup := h.asc.imp fun {a b} hab => by
    rintro rfl
    rw [lt_irrefl] at hab; cases hab
  have hne : (es.map (·.2)).Nodup := by
    have h1 : es.Pairwise fun x y => x.1 ≠ y.1 := List.pairwise_map.1 h.nd
    rw [List.Nodup, List.pairwise_map]
    refine h1.imp_of_mem fun {x y} hx hy hxy e => hxy ?_
    have e1 := h.own x.1 x.2 (mem_get h.nd hx)
    have e2 := h.own y.1 y.2 (mem_get h.nd hy)
    rw [← e1, ← e2, e]
  rw [List.perm_ext_iff_of_nodup hnl hne]
  intro a
  rw [h.mem, List.mem_map]
  constructor
  · intro hg
    exact ⟨(a.1, a), get_some_mem hg, rfl⟩
  · rintro ⟨⟨k, b⟩, hm, rfl⟩
    have hg := mem_get h.nd hm
    rw [h.own k b hg]
    exact hg
theorem rel_small {es : Es} {L : Ls} (h : Rel es L) (hs : SmallA L) : Small (es.map (·.1)) := by
  intro k hk
  obtain ⟨⟨k, a⟩, ha, rfl⟩ := List.mem_map.1 hk
  obtain ⟨h1, h2⟩ := h.in_of (mem_get h.nd ha)
  have := hs a h1
  rwa [h2] at this
end Go.Proofs.YtnjkfchgakpjgaaDoor.PShelfRef
