/- A map and a list in the keys' order, side by side. -/
import Derived.Test.YtnjkfchgakpjgaaDoorPAssoc
import Derived.Test.YtnjkfchgakpjgaaDoorPSorted
namespace Go.Proofs.YtnjkfchgakpjgaaDoor.PRel
open Go.RowKit Go.Proofs.YtnjkfchgakpjgaaDoor.Mc Go.Proofs.YtnjkfchgakpjgaaDoor.N Go.Proofs.YtnjkfchgakpjgaaDoor.Plain Go.Proofs.YtnjkfchgakpjgaaDoor.PureKeys Go.Proofs.YtnjkfchgakpjgaaDoor.PSort Go.Proofs.YtnjkfchgakpjgaaDoor.PSorted Go.Proofs.YtnjkfchgakpjgaaDoor.PFd Go.Proofs.YtnjkfchgakpjgaaDoor.PAssoc
set_option linter.unusedSimpArgs false
set_option linter.unusedVariables false
variable {β : Type}
def wo (k : ByteArray) (L : List (ByteArray × β)) : List (ByteArray × β) := L.filter fun a => !decide (a.1 = k)
theorem wo_mem (k : ByteArray) (L : List (ByteArray × β)) (a : (ByteArray × β)) : a ∈ wo k L ↔ a ∈ L ∧ a.1 ≠ k := by unfold wo; simp
theorem wo_len (k : ByteArray) (L : List (ByteArray × β)) : (wo k L).length ≤ L.length := List.length_filter_le _ _
/-- keys ascend -/
def Asc (L : List (ByteArray × β)) : Prop := L.Pairwise fun a b => lt a.1 b.1 = true
theorem wo_asc {k : ByteArray} {L : List (ByteArray × β)} (h : Asc L) : Asc (wo k L) := List.Pairwise.filter _ h
/-- where a key goes -/
noncomputable def at_ (k : ByteArray) (L : List (ByteArray × β)) : Nat := (L.takeWhile fun a => lt a.1 k).length
noncomputable def put (a : (ByteArray × β)) (L : List (ByteArray × β)) : List (ByteArray × β) := L.take (at_ a.1 L) ++ [a] ++ L.drop (at_ a.1 L)
theorem tw_le (L : List (ByteArray × β)) (p : (ByteArray × β) → Bool) : (L.takeWhile p).length ≤ L.length := (List.takeWhile_sublist p).length_le
theorem tw_take : ∀ (l : List (ByteArray × β)) (p : (ByteArray × β) → Bool), l.take (l.takeWhile p).length = l.takeWhile p ∧ l.drop (l.takeWhile p).length = l.dropWhile p
  | [], p => ⟨rfl, rfl⟩
  | x :: l, p => by
    obtain ⟨h1, h2⟩ := tw_take l p
    by_cases h : p x = true
    · rw [List.takeWhile_cons_of_pos h, List.dropWhile_cons_of_pos h]
      exact ⟨by simp [h1], by simpa using h2⟩
    · rw [List.takeWhile_cons_of_neg h, List.dropWhile_cons_of_neg h]
      exact ⟨rfl, rfl⟩
theorem tw_all {L : List (ByteArray × β)} {p : (ByteArray × β) → Bool} {y : (ByteArray × β)} (h : y ∈ L.takeWhile p) : p y = true := List.all_eq_true.1 List.all_takeWhile y h
theorem put_mem (a : (ByteArray × β)) (L : List (ByteArray × β)) (b : (ByteArray × β)) : b ∈ put a L ↔ b = a ∨ b ∈ L := by
  unfold put
  have e := List.take_append_drop (at_ a.1 L) L
  rw [List.append_assoc, List.mem_append, List.mem_append, List.mem_singleton]
  constructor
  · rintro (h | h | h)
    · exact .inr (List.mem_of_mem_take h)
    · exact .inl h
    · exact .inr (List.mem_of_mem_drop h)
  · rintro (h | h)
    · exact .inr (.inl h)
    · rw [← e, List.mem_append] at h
      rcases h with h | h
      · exact .inl h
      · exact .inr (.inr h)
theorem put_len (a : (ByteArray × β)) (L : List (ByteArray × β)) : (put a L).length = L.length + 1 := by
  unfold put at_
  have := tw_le L (fun b => lt b.1 a.1)
  simp only [List.length_append, List.length_take, List.length_drop, List.length_singleton]
  omega
theorem put_asc {a : (ByteArray × β)} {L : List (ByteArray × β)} (h : Asc L) (hn : ∀ b ∈ L, b.1 ≠ a.1) : Asc (put a L) := by
  unfold put at_ Asc
  obtain ⟨h1, h2⟩ := tw_take L (fun b => lt b.1 a.1)
  rw [h1, h2, List.append_assoc, List.pairwise_append]
  have htw : ∀ y ∈ L.takeWhile (fun b => lt b.1 a.1), lt y.1 a.1 = true := fun y hy => tw_all (p := fun b => lt b.1 a.1) hy
  have hsub1 := h.sublist (List.takeWhile_sublist (fun b => lt b.1 a.1))
  have hsub2 := h.sublist (List.dropWhile_sublist (fun b => lt b.1 a.1))
  have hdw : ∀ y ∈ L.dropWhile (fun b => lt b.1 a.1), lt a.1 y.1 = true := by
    cases hd : L.dropWhile (fun b => lt b.1 a.1) with
    | nil => intro y hy; cases hy
    | cons z zs =>
      have hz : lt z.1 a.1 = false := by
        have := List.head?_dropWhile_not (fun b => lt b.1 a.1) L
        rw [hd] at this
        simpa using this
      have hzm : z ∈ L := (List.dropWhile_sublist (fun b => lt b.1 a.1)).subset (by rw [hd]; simp)
      have hxz : lt a.1 z.1 = true := by
        cases g : lt a.1 z.1 with
        | true => rfl
        | false => exact absurd (lt_total g hz).symm (hn z hzm)
      intro y hy
      rw [hd, List.pairwise_cons] at hsub2
      rcases List.mem_cons.1 hy with rfl | hy
      · exact hxz
      · exact lt_trans hxz (hsub2.1 y hy)
  refine ⟨hsub1, ?_, ?_⟩
  · rw [List.singleton_append, List.pairwise_cons]
    exact ⟨hdw, hsub2⟩
  · intro b hb c hc
    rw [List.singleton_append, List.mem_cons] at hc
    rcases hc with rfl | hc
    · exact htw b hb
    · exact lt_trans (htw b hb) (hdw c hc)
/-! the two side by side -/
structure Rel (es : List (ByteArray × (ByteArray × β))) (L : List (ByteArray × β)) : Prop where
  nd : ND es
  asc : Asc L
  own : ∀ k a, mget sEq es k = some a → a.1 = k
  mem : ∀ a, a ∈ L ↔ mget sEq es a.1 = some a
theorem Rel.nil : Rel ([] : List (ByteArray × (ByteArray × β))) [] := ⟨nd_nil, List.Pairwise.nil, fun k a h => by simp [mget] at h, fun a => by simp [mget]⟩
theorem Rel.wo {es : List (ByteArray × (ByteArray × β))} {L : List (ByteArray × β)} (h : Rel es L) (k : ByteArray) : Rel (mdel sEq es k) (wo k L) where
  nd := nd_del h.nd
  asc := wo_asc h.asc
  own := fun k' a ha => by
    rw [get_del _ _ h.nd] at ha
    split at ha
    · cases ha
    · exact h.own k' a ha
  mem := fun a => by
    rw [wo_mem, h.mem, get_del _ _ h.nd]
    by_cases hk : k = a.1
    · simp [hk]
    · have hk' : ¬ a.1 = k := fun e => hk e.symm
      simp [hk, hk']
theorem Rel.put {es : List (ByteArray × (ByteArray × β))} {L : List (ByteArray × β)} (h : Rel es L) (a : (ByteArray × β)) : Rel (mset sEq es a.1 a) (put a (PRel.wo a.1 L)) where
  nd := nd_set h.nd
  asc := put_asc (wo_asc h.asc) fun b hb => ((wo_mem _ _ _).1 hb).2
  own := fun k' b hb => by
    rw [get_set] at hb
    split at hb
    · rename_i e; cases hb; exact e
    · exact h.own k' b hb
  mem := fun b => by
    rw [put_mem, wo_mem, h.mem, get_set]
    by_cases hk : a.1 = b.1
    · rw [if_pos hk]
      constructor
      · rintro (rfl | ⟨_, h2⟩)
        · rfl
        · exact absurd hk.symm h2
      · intro e
        cases e
        exact .inl rfl
    · rw [if_neg hk]
      constructor
      · rintro (rfl | ⟨h1, _⟩)
        · exact absurd rfl hk
        · exact h1
      · exact fun h1 => .inr ⟨h1, fun e => hk e.symm⟩
theorem Rel.in_of {es : List (ByteArray × (ByteArray × β))} {L : List (ByteArray × β)} (h : Rel es L) {k : ByteArray} {a : ByteArray × β} (hg : mget sEq es k = some a) : a ∈ L ∧ a.1 = k := by
  have hk := h.own k a hg
  exact ⟨(h.mem a).2 (by rw [hk]; exact hg), hk⟩
theorem Rel.keys {es : List (ByteArray × (ByteArray × β))} {L : List (ByteArray × β)} (h : Rel es L) : L.map (·.1) = srt (es.map (·.1)) := by
  refine sorted_uniq (List.pairwise_map.2 h.asc) (srt_sorted _) fun x => ?_
  rw [srt_mem]
  constructor
  · intro hx
    obtain ⟨a, ha, rfl⟩ := List.mem_map.1 hx
    exact List.mem_map.2 ⟨_, get_some_mem ((h.mem a).1 ha), rfl⟩
  · intro hx
    obtain ⟨⟨k, a⟩, ha, rfl⟩ := List.mem_map.1 hx
    obtain ⟨h1, h2⟩ := h.in_of (mem_get h.nd ha)
    exact List.mem_map.2 ⟨a, h1, h2⟩
theorem asc_nodup {L : List (ByteArray × β)} (h : Asc L) : (L.map (·.1)).Nodup := (List.pairwise_map.2 h : (L.map (·.1)).Pairwise fun x y => lt x y = true).imp fun {a b} hab => by
  rintro rfl
  rw [lt_irrefl] at hab; cases hab
theorem Rel.len {es : List (ByteArray × (ByteArray × β))} {L : List (ByteArray × β)} (h : Rel es L) : es.length = L.length := by
  have h1 := h.keys
  have hp : (es.map (·.1)).Perm (L.map (·.1)) := by
    rw [List.perm_ext_iff_of_nodup h.nd ?_]
    · intro x; rw [h1]; exact (srt_mem _ _).symm
    · refine (List.pairwise_map.2 h.asc : (L.map (·.1)).Pairwise fun x y => lt x y = true).imp fun {a b} hab => ?_
      rintro rfl
      rw [lt_irrefl] at hab; cases hab
  simpa using hp.length_eq
end Go.Proofs.YtnjkfchgakpjgaaDoor.PRel
