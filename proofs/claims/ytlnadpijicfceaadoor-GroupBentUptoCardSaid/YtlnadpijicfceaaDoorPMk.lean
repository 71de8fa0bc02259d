/- What Find, Keys and Make are, without code. -/
import Derived.Test.YtlnadpijicfceaaDoorPBatch1
import Derived.Test.YtlnadpijicfceaaDoorPFd
namespace Go.Proofs.YtlnadpijicfceaaDoor.PMk
open Go.RowKit Go.Proofs.YtlnadpijicfceaaDoor.Mc Go.Proofs.YtlnadpijicfceaaDoor.N Go.Proofs.YtlnadpijicfceaaDoor.Plain Go.Proofs.YtlnadpijicfceaaDoor.PureRune Go.Proofs.YtlnadpijicfceaaDoor.PureKeys Go.Proofs.YtlnadpijicfceaaDoor.PSort Go.Proofs.YtlnadpijicfceaaDoor.PSorted Go.Proofs.YtlnadpijicfceaaDoor.PBatch1
open Go.Proofs.YtlnadpijicfceaaDoor.PFd (fdn fo fdn_some)
set_option linter.unusedSimpArgs false
set_option linter.unusedVariables false
def Small2 (l : List Wr) : Prop := ∀ w ∈ l, w.1.size ≤ 1000000 ∧ w.2.2.size ≤ 1000000
/-! Find -/
/-! Keys -/
def kl (l : List Wr) : List ByteArray := l.map (·.1)
noncomputable def ks (l : List Wr) : List ByteArray := srt (kl l)
theorem kl_len (l : List Wr) : (kl l).length = l.length := List.length_map _
theorem kl_small {l : List Wr} (h : Small2 l) : Small (kl l) := fun a ha => by
  obtain ⟨w, hw, rfl⟩ := List.mem_map.1 ha
  exact (h w hw).1
theorem ks_len (l : List Wr) : (ks l).length ≤ l.length := by have := srt_len (kl l); rw [kl_len] at this; exact this
/-! Make -/
def mw (l : List Wr) (key : ByteArray) : Wr :=
  let f := fo (fdn l key l.length)
  (f.1, f.2.1, cond f.2.1 (⟨#[]⟩ : ByteArray) f.2.2.1)
noncomputable def mk (l : List Wr) : List Wr := (ks l).map (mw l)
theorem mk_len (l : List Wr) : (mk l).length ≤ l.length := by unfold mk; rw [List.length_map]; exact ks_len l
/-- what is found -/
theorem fdn_ex (l : List Wr) (key : ByteArray) : ∀ (i : Nat), (∃ j w, j < i ∧ l[j]? = some w ∧ w.1 = key) → i ≤ l.length → ∃ w, fdn l key i = some w
  | 0, ⟨j, w, h, _⟩, _ => by omega
  | i + 1, ⟨j, w, h1, h2, h3⟩, hi => by
    rw [fdn]
    have hli : l[i]? = some l[i] := List.getElem?_eq_getElem (by omega)
    rw [hli]
    simp only
    cases hb : l[i].1.toList == key.toList with
    | true => exact ⟨_, rfl⟩
    | false =>
      refine fdn_ex l key i ⟨j, w, ?_, h2, h3⟩ (by omega)
      rcases Nat.lt_succ_iff_lt_or_eq.1 h1 with h | rfl
      · exact h
      · rw [hli] at h2
        cases h2
        rw [h3] at hb
        simp at hb
theorem mw_of {l : List Wr} {key : ByteArray} (h : key ∈ kl l) : ∃ w, w ∈ l ∧ w.1 = key ∧ mw l key = (key, w.2.1, cond w.2.1 (⟨#[]⟩ : ByteArray) w.2.2) := by
  obtain ⟨v, hv, rfl⟩ := List.mem_map.1 h
  obtain ⟨j, hj, e⟩ := List.getElem_of_mem hv
  obtain ⟨w, hw⟩ := fdn_ex l v.1 l.length ⟨j, v, hj, by rw [List.getElem?_eq_getElem hj, e], rfl⟩ (Nat.le_refl _)
  obtain ⟨h1, h2⟩ := fdn_some l v.1 l.length hw
  refine ⟨w, h1, h2, ?_⟩
  unfold mw
  rw [hw, ← h2]
  rfl
theorem mk_mem {l : List Wr} {w : Wr} (h : w ∈ mk l) : ∃ v ∈ l, w = (v.1, v.2.1, cond v.2.1 (⟨#[]⟩ : ByteArray) v.2.2) := by
  obtain ⟨k, hk, rfl⟩ := List.mem_map.1 h
  obtain ⟨v, h1, h2, h3⟩ := mw_of ((srt_mem _ _).1 hk)
  exact ⟨v, h1, by rw [h3, h2]⟩
theorem mk_keys (l : List Wr) : kl (mk l) = ks l := by
  unfold kl mk
  rw [List.map_map]
  have : ∀ k ∈ ks l, ((fun w : Wr => w.1) ∘ mw l) k = k := by
    intro k hk
    obtain ⟨w, _, _, h⟩ := mw_of ((srt_mem _ _).1 hk)
    simp only [Function.comp, h]
  rw [List.map_congr_left this, List.map_id']
theorem cond_size {b : Bool} {s : ByteArray} {n : Nat} (h : s.size ≤ n) : (cond b (⟨#[]⟩ : ByteArray) s).size ≤ n := by
  cases b
  · exact h
  · exact Nat.zero_le _
theorem mk_small {l : List Wr} (h : Small2 l) : Small2 (mk l) := by
  intro w hw
  obtain ⟨v, hv, rfl⟩ := mk_mem hw
  exact ⟨(h v hv).1, cond_size (h v hv).2⟩
/-- a batch -/
structure Bat (l : List Wr) : Prop where
  ofParts ::
  sorted : (kl l).Pairwise (fun x y => lt x y = true)
  keys : ∀ w ∈ l, kr w.1 = true
  vals : ∀ w ∈ l, w.2.2.size ≤ 48
  dels : ∀ w ∈ l, w.2.1 = true → w.2.2 = ⟨#[]⟩
  one : 1 ≤ l.length
  most : l.length ≤ 8
theorem Bat.bright {l : List Wr} (h : Bat l) : bright l = 0 := by
  unfold PBatch1.bright
  rw [if_neg (by have := h.one; have := h.most; omega)]
  refine firstBad_zero _ _ _ fun j _ hj => ?_
  have hj : j < l.length := by omega
  have hlj : l[j]? = some l[j] := List.getElem?_eq_getElem hj
  have hm := List.getElem_mem hj
  rw [wcode_at hlj, h.keys _ hm, decide_eq_false (by have := h.vals _ hm; omega)]
  have hah : (!decide (0 < j) || (l[j - 1]?.map fun v => lt v.1 l[j].1).getD true) = true := by
    by_cases h0 : 0 < j
    · rw [List.getElem?_eq_getElem (by omega), Option.map_some, Option.getD_some]
      have := List.pairwise_iff_getElem.1 h.sorted (j - 1) j (by rw [kl_len]; omega) (by rw [kl_len]; omega) (by omega)
      unfold kl at this
      rw [List.getElem_map, List.getElem_map] at this
      rw [this, Bool.or_true]
    · rw [decide_eq_false h0]; rfl
  rw [hah]
  cases hd : l[j].2.1 with
  | false => rfl
  | true =>
    have := h.dels _ hm hd
    rw [this]
    simp [wcd]
/-- found in a row without doubles -/
theorem fdn_self {l : List Wr} (hs : (kl l).Pairwise (fun x y => lt x y = true)) {w : Wr} (hw : w ∈ l) : fdn l w.1 l.length = some w := by
  obtain ⟨j, hj, e⟩ := List.getElem_of_mem hw
  obtain ⟨v, hv⟩ := fdn_ex l w.1 l.length ⟨j, w, hj, by rw [List.getElem?_eq_getElem hj, e], rfl⟩ (Nat.le_refl _)
  obtain ⟨h1, h2⟩ := fdn_some l w.1 l.length hv
  obtain ⟨i, hi, e2⟩ := List.getElem_of_mem h1
  rw [hv]
  congr 1
  have key : ∀ a b : Nat, (ha : a < l.length) → (hb : b < l.length) → a < b → l[a].1 ≠ l[b].1 := by
    intro a b ha hb hab h
    have := List.pairwise_iff_getElem.1 hs a b (by rw [kl_len]; exact ha) (by rw [kl_len]; exact hb) hab
    unfold kl at this
    rw [List.getElem_map, List.getElem_map, h, lt_irrefl] at this
    cases this
  rcases Nat.lt_trichotomy i j with h | h | h
  · exact absurd (by rw [e2, e, h2]) (key i j hi hj h)
  · subst h; rw [← e2, ← e]
  · exact absurd (by rw [e2, e, h2]) (key j i hj hi h)
theorem ks_self {l : List Wr} (hs : (kl l).Pairwise (fun x y => lt x y = true)) : ks l = kl l :=
  sorted_uniq (srt_sorted _) hs fun x => srt_mem _ x
theorem Bat.again {l : List Wr} (h : Bat l) : mk l = l := by
  unfold mk
  rw [ks_self h.sorted]
  unfold kl
  rw [List.map_map]
  have : ∀ w ∈ l, (mw l ∘ fun w : Wr => w.1) w = w := by
    intro w hw
    simp only [Function.comp, mw, fdn_self h.sorted hw, fo]
    cases hd : w.2.1 with
    | false => rw [cond_false, ← hd]
    | true => rw [cond_true, ← h.dels w hw hd, ← hd]
  rw [List.map_congr_left this, List.map_id']
theorem made {l : List Wr} (hk : ∀ w ∈ l, kr w.1 = true) (hv : ∀ w ∈ l, w.2.2.size ≤ 48) (h1 : 1 ≤ l.length) (h8 : l.length ≤ 8) : Bat (mk l) where
  sorted := by rw [mk_keys]; exact srt_sorted _
  keys w hw := by
    obtain ⟨v, hv, rfl⟩ := mk_mem hw
    exact hk v hv
  vals w hw := by
    obtain ⟨v, hm, rfl⟩ := mk_mem hw
    exact cond_size (hv v hm)
  dels w hw hd := by
    obtain ⟨v, hv, rfl⟩ := mk_mem hw
    dsimp only at hd ⊢
    rw [hd]; rfl
  one := by
    cases l with
    | nil => simp at h1
    | cons w l =>
      have : w.1 ∈ ks (w :: l) := (srt_mem _ _).2 (by simp [kl])
      have := List.length_pos_of_mem this
      unfold mk
      rw [List.length_map]; exact this
  most := Nat.le_trans (mk_len l) h8
end Go.Proofs.YtlnadpijicfceaaDoor.PMk
