/- The reference's view beside the view. -/
import Derived.Test.YtnpgfcedmdnemaaDoorPView
import Derived.Test.YtnpgfcedmdnemaaDoorPNote
import Derived.Test.YtnpgfcedmdnemaaDoorPHand
namespace Go.Proofs.YtnpgfcedmdnemaaDoor.PViewRef
open Go.RowKit Go.Proofs.YtnpgfcedmdnemaaDoor.Mc Go.Proofs.YtnpgfcedmdnemaaDoor.N Go.Proofs.YtnpgfcedmdnemaaDoor.Plain Go.Proofs.YtnpgfcedmdnemaaDoor.PureRune Go.Proofs.YtnpgfcedmdnemaaDoor.PureKeys Go.Proofs.YtnpgfcedmdnemaaDoor.PSort Go.Proofs.YtnpgfcedmdnemaaDoor.PBatch1 Go.Proofs.YtnpgfcedmdnemaaDoor.PMk Go.Proofs.YtnpgfcedmdnemaaDoor.PView
open Go.Proofs.YtnpgfcedmdnemaaDoor.PFd (fdn fo fdn_some fdn_snoc beq_ba)
open Go.Proofs.YtnpgfcedmdnemaaDoor.PSorted (srt srt_mem srt_sorted srt_uniq)
set_option linter.unusedSimpArgs false
set_option linter.unusedVariables false
/-- first or last of its key makes no odds where keys are single -/
theorem fdn_none {l : List Wr} {key : ByteArray} : ∀ (i : Nat), i ≤ l.length → (fdn l key i = none ↔ ∀ j (h : j < i) (h2 : j < l.length), l[j].1 ≠ key)
  | 0, _ => ⟨fun _ j h => absurd h (by omega), fun _ => rfl⟩
  | i + 1, hi => by
    have ih := fdn_none (l := l) (key := key) i (by omega)
    have hli : l[i]? = some l[i] := List.getElem?_eq_getElem (by omega)
    rw [fdn, hli]
    simp only [beq_ba]
    by_cases h : l[i].1 = key
    · rw [decide_eq_true h]
      simp only
      refine ⟨fun e => (by cases e), fun e => absurd h (e i (by omega) (by omega))⟩
    · rw [decide_eq_false h]
      show fdn l key i = none ↔ _
      rw [ih]
      constructor
      · intro g j hj h2
        rcases Nat.lt_succ_iff_lt_or_eq.1 hj with hj | rfl
        · exact g j hj h2
        · exact h
      · intro g j hj h2
        exact g j (by omega) h2
theorem fdn_none' {l : List Wr} {key : ByteArray} : fdn l key l.length = none ↔ ∀ w ∈ l, w.1 ≠ key := by
  rw [fdn_none _ (Nat.le_refl _)]
  constructor
  · intro h w hw
    obtain ⟨j, hj, rfl⟩ := List.getElem_of_mem hw
    exact h j hj hj
  · intro h j _ h2
    exact h _ (List.getElem_mem h2)
theorem fdn_one {l : List Wr} {key : ByteArray} (hn : (kl l).Nodup) {w : Wr} (hw : w ∈ l) (hk : w.1 = key) : fdn l key l.length = some w := by
  cases hf : fdn l key l.length with
  | none => exact absurd hk (fdn_none'.1 hf w hw)
  | some v =>
    obtain ⟨hv, hvk⟩ := fdn_some _ _ _ hf
    congr 1
    obtain ⟨i, hi, rfl⟩ := List.getElem_of_mem hw
    obtain ⟨j, hj, rfl⟩ := List.getElem_of_mem hv
    have hp := List.pairwise_iff_getElem.1 hn
    rcases Nat.lt_trichotomy i j with h | h | h
    · exact absurd (by simp [kl, hk, hvk]) (hp i j (by simpa [kl] using hi) (by simpa [kl] using hj) h)
    · subst h; rfl
    · exact absurd (by simp [kl, hk, hvk]) (hp j i (by simpa [kl] using hj) (by simpa [kl] using hi) h)
/-- two lists say the same of each key -/
def Says (l m : List Wr) : Prop := ∀ key, fdn l key l.length = fdn m key m.length
theorem Says.kl {l m : List Wr} (h : Says l m) (key : ByteArray) : key ∈ kl l ↔ key ∈ kl m := by
  have e : ∀ (l : List Wr), key ∈ PMk.kl l ↔ fdn l key l.length ≠ none := fun l => by
    rw [Ne, fdn_none']
    constructor
    · intro h g
      obtain ⟨w, hw, e⟩ := List.mem_map.1 h
      exact g w hw e
    · intro h
      false_or_by_contra
      rename_i g
      exact h fun w hw e => g (List.mem_map.2 ⟨w, hw, e⟩)
  rw [e l, e m, h key]
theorem Says.mk {l m : List Wr} (h : Says l m) : mk l = mk m := by
  unfold PMk.mk
  have hk : PMk.ks l = PMk.ks m := srt_uniq fun x => h.kl x
  rw [hk]
  refine List.map_congr_left fun key _ => ?_
  unfold mw
  rw [h key]
theorem Says.snoc {l m : List Wr} (h : Says l m) (w : Wr) : Says (l ++ [w]) (m ++ [w]) := fun key => by
  rw [fdn_snoc, fdn_snoc, h key]
/-- a batch that is made says what the list says, but that a deletion has no text -/
def cl (w : Wr) : Wr := (w.1, w.2.1, cond w.2.1 (⟨#[]⟩ : ByteArray) w.2.2)
/-- deletions have no text -/
def Clr (l : List Wr) : Prop := ∀ w ∈ l, w.2.1 = true → w.2.2 = (⟨#[]⟩ : ByteArray)
theorem mk_says {l : List Wr} (hc : Clr l) : Says (mk l) l := fun key => by
  have hks : kl (mk l) = ks l := mk_keys l
  have hnd : (kl (mk l)).Nodup := by
    rw [hks]
    exact (srt_sorted _).imp fun {a b} hab => by
      rintro rfl
      rw [lt_irrefl] at hab; cases hab
  cases hf : fdn l key l.length with
  | none =>
    rw [fdn_none']
    intro w hw e
    have : w.1 ∈ kl (mk l) := List.mem_map.2 ⟨w, hw, rfl⟩
    rw [hks] at this
    have h2 := (srt_mem _ _).1 this
    obtain ⟨v, hv, hve⟩ := List.mem_map.1 h2
    exact fdn_none'.1 hf v hv (hve.trans e)
  | some w =>
    obtain ⟨hw, hwk⟩ := fdn_some _ _ _ hf
    have hkey : key ∈ ks l := (srt_mem _ _).2 (List.mem_map.2 ⟨w, hw, hwk⟩)
    have hm : mw l key ∈ mk l := List.mem_map.2 ⟨key, hkey, rfl⟩
    have e : mw l key = w := by
      unfold mw
      rw [hf]
      unfold fo
      dsimp only
      cases hd : w.2.1 with
      | true =>
        have := hc w hw hd
        obtain ⟨a, b, c⟩ := w
        dsimp only at hd this ⊢
        subst hd this; rfl
      | false =>
        obtain ⟨a, b, c⟩ := w
        dsimp only at hd ⊢
        subst hd; rfl
    rw [e] at hm
    exact fdn_one hnd hm hwk
/-- what a view stages says what the list of all calls says -/
theorem idx_find {W : List Wr} {key : ByteArray} : (W.findIdx? fun v => v.1.toList == key.toList) = none ↔ ∀ w ∈ W, w.1 ≠ key := by
  rw [List.findIdx?_eq_none_iff]
  constructor
  · intro h w hw e
    have := h w hw
    rw [beq_ba, decide_eq_false_iff_not] at this
    exact this e
  · intro h w hw
    rw [beq_ba, decide_eq_false_iff_not]
    exact h w hw
theorem stg_says {W V l : List Wr} {w : Wr} (hn : (kl W).Nodup) (hs : Says W l) (h : stg W w = some V) : (kl V).Nodup ∧ Says V (l ++ [w]) := by
  unfold stg at h
  cases hx : W.findIdx? fun v => v.1.toList == w.1.toList with
  | some i =>
    rw [hx] at h
    cases h
    obtain ⟨hi, hp⟩ := idx_lt hx
    rw [beq_ba, decide_eq_true_eq] at hp
    have hk : kl (W.set i w) = kl W := by
      unfold kl
      apply List.ext_getElem?
      intro j
      rw [List.map_set, List.getElem?_set]
      by_cases hj : i = j
      · subst hj; simp [hi, hp]
      · simp [hj]
    refine ⟨by rw [hk]; exact hn, fun key => ?_⟩
    rw [fdn_snoc]
    by_cases hkey : w.1 = key
    · rw [if_pos hkey]
      exact fdn_one (by rw [hk]; exact hn) (List.mem_set (h := hi) (a := w)) hkey
    · rw [if_neg hkey, ← hs key]
      cases hf : fdn W key W.length with
      | none =>
        rw [fdn_none'] at hf ⊢
        intro v hv e
        have : v.1 ∈ kl (W.set i w) := List.mem_map.2 ⟨v, hv, rfl⟩
        rw [hk] at this
        obtain ⟨u, hu, hue⟩ := List.mem_map.1 this
        exact hf u hu (hue.trans e)
      | some v =>
        obtain ⟨hv, hvk⟩ := fdn_some _ _ _ hf
        refine fdn_one (by rw [hk]; exact hn) ?_ hvk
        obtain ⟨j, hj, rfl⟩ := List.getElem_of_mem hv
        have hij : i ≠ j := by
          rintro rfl
          exact hkey (hp.symm.trans hvk)
        rw [List.mem_iff_getElem?]
        exact ⟨j, by rw [List.getElem?_set_ne hij, List.getElem?_eq_getElem hj]⟩
  | none =>
    rw [hx] at h
    dsimp only at h
    split at h
    · cases h
    · cases h
      rw [idx_find] at hx
      refine ⟨?_, fun key => by rw [fdn_snoc, fdn_snoc, hs key]⟩
      unfold kl at hn ⊢
      rw [List.map_append, List.nodup_append]
      refine ⟨hn, by simp, fun a ha b hb => ?_⟩
      rw [List.map_singleton, List.mem_singleton] at hb
      subst hb
      obtain ⟨v, hv, rfl⟩ := List.mem_map.1 ha
      exact hx v hv
theorem stg_len {W V : List Wr} {w : Wr} (h : stg W w = some V) (h8 : W.length ≤ 8) : V.length ≤ 8 := by
  unfold stg at h
  cases hx : W.findIdx? fun v => v.1.toList == w.1.toList with
  | some i => rw [hx] at h; cases h; simpa using h8
  | none =>
    rw [hx] at h
    dsimp only at h
    split at h
    · cases h
    · cases h; simp; omega
theorem stg_mem {W V : List Wr} {w v : Wr} (h : stg W w = some V) (hv : v ∈ V) : v = w ∨ v ∈ W := by
  unfold stg at h
  cases hx : W.findIdx? fun v => v.1.toList == w.1.toList with
  | some i =>
    rw [hx] at h; cases h
    exact (List.mem_or_eq_of_mem_set hv).symm
  | none =>
    rw [hx] at h
    dsimp only at h
    split at h
    · cases h
    · cases h
      rcases List.mem_append.1 hv with h | h
      · exact .inr h
      · exact .inl (by simpa using h)
/-- is there room -/
theorem stg_none {W l : List Wr} {w : Wr} (hn : (kl W).Nodup) (hs : Says W l) : stg W w = none ↔ fdn l w.1 l.length = none ∧ 8 ≤ (ks l).length := by
  have hlen : (ks l).length = W.length := by
    have h1 : ks l = ks W := srt_uniq fun x => (hs.kl x).symm
    have hp : (ks W).Perm (kl W) := by
      rw [List.perm_ext_iff_of_nodup ?_ hn]
      · exact fun x => srt_mem _ _
      · exact (srt_sorted _).imp fun {a b} hab => by
          rintro rfl
          rw [lt_irrefl] at hab; cases hab
    rw [h1, hp.length_eq, kl_len]
  rw [hlen, ← hs w.1, fdn_none']
  unfold stg
  cases hx : W.findIdx? fun v => v.1.toList == w.1.toList with
  | some i =>
    obtain ⟨hi, hp⟩ := idx_lt hx
    rw [beq_ba, decide_eq_true_eq] at hp
    refine ⟨fun h => (by cases h), fun h => absurd hp (h.1 _ (List.getElem_mem hi))⟩
  | none =>
    rw [idx_find] at hx
    dsimp only
    by_cases h8 : 8 ≤ W.length
    · rw [if_pos h8]; exact ⟨fun _ => ⟨hx, h8⟩, fun _ => rfl⟩
    · rw [if_neg h8]; exact ⟨fun h => (by cases h), fun h => absurd h.2 h8⟩
end Go.Proofs.YtnpgfcedmdnemaaDoor.PViewRef
