/- What a map's functions compute. -/
import Derived.Test.YtfdglmgblmoakaaDoorPAssoc
namespace Go.Proofs.YtfdglmgblmoakaaDoor.PAtom
open Go.RowKit Go.Proofs.YtfdglmgblmoakaaDoor.Mc Go.Proofs.YtfdglmgblmoakaaDoor.N Go.Proofs.YtfdglmgblmoakaaDoor.Plain Go.Proofs.YtfdglmgblmoakaaDoor.PureKeys Go.Proofs.YtfdglmgblmoakaaDoor.PFd Go.Proofs.YtfdglmgblmoakaaDoor.PAssoc
set_option linter.unusedSimpArgs false
set_option linter.unusedVariables false
abbrev Aw : Type := ByteArray × Bool × ByteArray × Int
abbrev Es : Type := List (ByteArray × Aw)
theorem take_snoc1 {α : Type} {l : List α} {j : Nat} (h : j < l.length) : l.take (j + 1) = l.take j ++ [l[j]] := by
  rw [List.take_add_one, List.getElem?_eq_getElem h]; rfl
def c1 (seq : Int) (es : Es) (w : Wr) : Es := if w.2.1 then mdel sEq es w.1 else mset sEq es w.1 (w.1, true, w.2.2, seq)
def cm (seq : Int) (es : Es) (l : List Wr) : Es := l.foldl (c1 seq) es
theorem cm_snoc (seq : Int) (es : Es) (l : List Wr) (w : Wr) : cm seq es (l ++ [w]) = c1 seq (cm seq es l) w := by unfold cm; rw [List.foldl_append]; rfl
theorem commit_run (K : Nat) (seq : Int) (l : List Wr) (es : Es) (hl : l.length ≤ 1000000) (hK : l.length < K) : F8 K seq l es = some (cm seq es l) := by
  unfold F8
  rw [loop_go (r := cm seq es l) (fun i => ((i : Int), cm seq es (l.take i))) l.length (by rfl) hK ?_ ?_]; rfl
  · intro i hi
    unfold L8_15
    rw [condT (by omega), ixn, List.getElem?_eq_getElem hi, Option.bind_some, w64 (by omega) (by omega), take_snoc1 hi, cm_snoc]
    unfold c1
    cases l[i].2.1 <;> rfl
  · unfold L8_15
    rw [condF (by omega), List.take_length]
def fg (es : Es) (l : List ByteArray) : Es := l.foldl (mdel sEq) es
theorem fg_snoc (es : Es) (l : List ByteArray) (k : ByteArray) : fg es (l ++ [k]) = mdel sEq (fg es l) k := by unfold fg; rw [List.foldl_append]; rfl
theorem forget_run (K : Nat) (l : List ByteArray) (es : Es) (hl : l.length ≤ 1000000) (hK : l.length < K) : F13 K l es = some (fg es l) := by
  unfold F13
  rw [loop_go (r := fg es l) (fun i => ((i : Int), fg es (l.take i))) l.length (by rfl) hK ?_ ?_]; rfl
  · intro i hi
    unfold L13_6
    rw [condT (by omega), ixn, List.getElem?_eq_getElem hi, Option.bind_some, w64 (by omega) (by omega), take_snoc1 hi, fg_snoc]; rfl
  · unfold L13_6
    rw [condF (by omega), List.take_length]
/-- what a key has -/
def gt (es : Es) (k : ByteArray) : Aw :=
  let a := (mget sEq es k).getD (ByteArray.empty, false, ByteArray.empty, 0)
  (k, a.2.1, a.2.2.1, a.2.2.2)
theorem get_run (K : Nat) (l : List ByteArray) (es : Es) (hl : l.length ≤ 1000000) (hK : l.length < K) : F11 K l es = some (l.map (gt es)) := by
  unfold F11
  rw [loop_go (r := l.map (gt es)) (fun i => ((i : Int), (l.take i).map (gt es))) l.length (by rfl) hK ?_ ?_]; rfl
  · intro i hi
    unfold L11_16
    rw [condT (by omega), ixn, List.getElem?_eq_getElem hi, Option.bind_some, Option.bind_some, grdD (by simp only [List.length_map, List.length_take, List.length_singleton]; omega), w64 (by omega) (by omega), take_snoc1 hi, List.map_append]; rfl
  · unfold L11_16
    rw [condF (by omega), List.take_length]
theorem commit1_run (K : Nat) (seq : Int) (l : List Wr) (es : Es) (hl : l.length ≤ 1000000) (hK : l.length < K) : F8_1 K seq l es = some (cm seq es l) := by
  unfold F8_1
  rw [loop_go (r := cm seq es l) (fun i => ((i : Int), cm seq es (l.take i))) l.length (by rfl) hK ?_ ?_]; rfl
  · intro i hi
    unfold L8_1_15
    simp only [ixn, Int.toNat_natCast, List.getElem?_eq_getElem hi, Option.bind_some]
    rw [condT (by omega), w64 (by omega) (by omega), take_snoc1 hi, cm_snoc]
    unfold c1
    cases l[i].2.1 <;> rfl
  · unfold L8_1_15
    rw [condF (by omega), List.take_length]
theorem get1_run (K : Nat) (l : List ByteArray) (es : Es) (hl : l.length ≤ 1000000) (hK : l.length < K) : F11_1 K l es = some (l.map (gt es)) := by
  unfold F11_1
  rw [loop_go (r := l.map (gt es)) (fun i => ((i : Int), (l.take i).map (gt es))) l.length (by rfl) hK ?_ ?_]; rfl
  · intro i hi
    unfold L11_1_16
    simp only [ixn, Int.toNat_natCast, List.getElem?_eq_getElem hi, Option.bind_some]
    rw [condT (by omega), grdD (by simp only [List.length_map, List.length_take, List.length_singleton]; omega), w64 (by omega) (by omega), take_snoc1 hi, List.map_append]; rfl
  · unfold L11_1_16
    rw [condF (by omega), List.take_length]
theorem nd_c1 {seq : Int} {es : Es} {w : Wr} (h : ND es) : ND (c1 seq es w) := by
  unfold c1
  split
  · exact nd_del h
  · exact nd_set h
theorem nd_cm {seq : Int} : ∀ {l : List Wr} {es : Es}, ND es → ND (cm seq es l)
  | [], _, h => h
  | w :: l, es, h => nd_cm (l := l) (nd_c1 (w := w) h)
theorem nd_fg : ∀ {l : List ByteArray} {es : Es}, ND es → ND (fg es l)
  | [], _, h => h
  | k :: l, es, h => nd_fg (l := l) (nd_del (k := k) h)
theorem get_c1 {seq : Int} {es : Es} {w : Wr} (h : ND es) (k : ByteArray) : mget sEq (c1 seq es w) k = if w.1 = k then (if w.2.1 then none else some (w.1, true, w.2.2, seq)) else mget sEq es k := by
  unfold c1
  cases w.2.1 with
  | true => rw [if_pos rfl, get_del _ _ h]; by_cases hk : w.1 = k <;> simp [hk]
  | false => rw [if_neg (by decide), get_set]; by_cases hk : w.1 = k <;> simp [hk]
/-- behind a batch a key has what its last write says -/
theorem get_cm {seq : Int} {es : Es} (h : ND es) (k : ByteArray) : ∀ (n : Nat) (l : List Wr), l.length = n → mget sEq (cm seq es l) k = match fdn l k l.length with
    | some w => if w.2.1 then none else some (w.1, true, w.2.2, seq)
    | none => mget sEq es k
  | 0, l, hl => by
    have : l = [] := List.eq_nil_of_length_eq_zero hl
    subst this; rfl
  | n + 1, l, hl => by
    have hne : l ≠ [] := by rintro rfl; simp at hl
    obtain ⟨m, w, rfl⟩ : ∃ m w, l = m ++ [w] := ⟨l.dropLast, l.getLast hne, (List.dropLast_concat_getLast hne).symm⟩
    have ih := get_cm (seq := seq) h k n m (by simpa using hl)
    rw [cm_snoc, get_c1 (nd_cm h), fdn_snoc, ih]
    by_cases hw : w.1 = k
    · rw [if_pos hw, if_pos hw]
    · rw [if_neg hw, if_neg hw]
theorem gt_cm {seq : Int} {es : Es} (h : ND es) (k : ByteArray) (l : List Wr) : gt (cm seq es l) k = match fdn l k l.length with
    | some w => if w.2.1 then (k, false, ByteArray.empty, 0) else (k, true, w.2.2, seq)
    | none => gt es k := by
  unfold gt
  rw [get_cm h k _ l rfl]
  cases fdn l k l.length with
  | none => rfl
  | some w =>
    dsimp only
    cases w.2.1 <;> rfl
theorem get_fg (k : ByteArray) : ∀ (l : List ByteArray) (es : Es), ND es → mget sEq (fg es l) k = if k ∈ l then none else mget sEq es k
  | [], es, h => by simp [fg]
  | x :: l, es, h => by
    have ih := get_fg k l (mdel sEq es x) (nd_del h)
    show mget sEq (fg (mdel sEq es x) l) k = _
    rw [ih, get_del _ _ h]
    by_cases h1 : k ∈ l
    · simp [h1]
    · by_cases h2 : x = k
      · simp [h2]
      · have h3 : ¬ k = x := fun e => h2 e.symm
        simp [h1, h2, h3]
theorem gt_fg (k : ByteArray) (l : List ByteArray) (es : Es) (h : ND es) : gt (fg es l) k = if k ∈ l then (k, false, ByteArray.empty, 0) else gt es k := by
  unfold gt
  rw [get_fg k l es h]
  by_cases hk : k ∈ l
  · rw [if_pos hk, if_pos hk]; rfl
  · rw [if_neg hk, if_neg hk]
theorem gt_key (es : Es) (k : ByteArray) : (gt es k).1 = k := rfl
theorem alive (K : Nat) (hK : 2000000 ≤ K) : F7 K = some true := by
  unfold F7 F6
  rw [Option.bind_some, commit_run _ _ _ _ (by simp) (by simp; omega), Option.bind_some, forget_run _ _ _ (by simp) (by simp; omega), Option.bind_some, get_run _ _ _ (by simp) (by simp; omega), Option.bind_some]
  have hab : ¬ (⟨#[97]⟩ : ByteArray) = ⟨#[98]⟩ := by decide
  have e1 := gt_fg (⟨#[97]⟩ : ByteArray) [(⟨#[98]⟩ : ByteArray)] (cm 3 [] [((⟨#[97]⟩ : ByteArray), false, (⟨#[49]⟩ : ByteArray)), ((⟨#[98]⟩ : ByteArray), false, ByteArray.empty)]) (nd_cm nd_nil)
  have e2 := gt_fg (⟨#[98]⟩ : ByteArray) [(⟨#[98]⟩ : ByteArray)] (cm 3 [] [((⟨#[97]⟩ : ByteArray), false, (⟨#[49]⟩ : ByteArray)), ((⟨#[98]⟩ : ByteArray), false, ByteArray.empty)]) (nd_cm nd_nil)
  rw [if_neg (by simp [hab]), gt_cm nd_nil] at e1
  rw [if_pos (by simp)] at e2
  have hba : ¬ (⟨#[98]⟩ : ByteArray) = ⟨#[97]⟩ := by decide
  have e3 : fdn [((⟨#[97]⟩ : ByteArray), false, (⟨#[49]⟩ : ByteArray)), ((⟨#[98]⟩ : ByteArray), false, ByteArray.empty)] (⟨#[97]⟩ : ByteArray) 2 = some ((⟨#[97]⟩ : ByteArray), false, (⟨#[49]⟩ : ByteArray)) := by
    simp [fdn, beq_ba, hba]
  rw [show [((⟨#[97]⟩ : ByteArray), false, (⟨#[49]⟩ : ByteArray)), ((⟨#[98]⟩ : ByteArray), false, ByteArray.empty)].length = 2 from rfl, e3] at e1
  simp only [List.map_cons, List.map_nil, e1, e2]
  simp [ix]
end Go.Proofs.YtfdglmgblmoakaaDoor.PAtom
