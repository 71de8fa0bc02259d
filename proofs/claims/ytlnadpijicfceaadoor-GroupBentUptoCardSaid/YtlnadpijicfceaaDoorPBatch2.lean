/- What the functions that lay batches as bytes compute. -/
import Derived.Test.YtlnadpijicfceaaDoorPBatch1
import Derived.Test.YtlnadpijicfceaaDoorPBook
import Derived.Test.YtlnadpijicfceaaDoorPLay
namespace Go.Proofs.YtlnadpijicfceaaDoor.PBatch2
open Go.RowKit Go.Proofs.YtlnadpijicfceaaDoor.Mc Go.Proofs.YtlnadpijicfceaaDoor.N Go.Proofs.YtlnadpijicfceaaDoor.Plain Go.Proofs.YtlnadpijicfceaaDoor.PureRune Go.Proofs.YtlnadpijicfceaaDoor.PureKeys Go.Proofs.YtlnadpijicfceaaDoor.PBatch1 Go.Proofs.YtlnadpijicfceaaDoor.PLay
open Go.Proofs.YtlnadpijicfceaaDoor.PBook (short sw take_snoc1)
set_option linter.unusedSimpArgs false
set_option linter.unusedVariables false
/-! bytes in a row -/
theorem strNums_append (a b : ByteArray) : strNums (a ++ b) = strNums a ++ strNums b := by
  unfold strNums
  rw [ByteArray.data_append, Array.toList_append, List.map_append]
theorem son_nums (s : ByteArray) : strOfNums (strNums s) = s := by
  apply ByteArray.ext
  apply Array.ext'
  simp only [strOfNums, strNums, List.map_map]
  have : ∀ l : List UInt8, l.map ((fun n : Int => UInt8.ofNat n.toNat) ∘ fun b : UInt8 => ((b.toNat : Nat) : Int)) = l := by
    intro l
    induction l with
    | nil => rfl
    | cons x l ih => rw [List.map_cons, ih]; congr 1; simp
  rw [this]
theorem byteB_nums (s : ByteArray) : byteB (strNums s) = true := by
  unfold byteB strNums
  rw [List.all_map, List.all_eq_true]
  intro b _
  have := b.toNat_lt
  simp only [Function.comp, Bool.and_eq_true, decide_eq_true_eq]
  omega
theorem write_run (K : Nat) (s : ByteArray) (x : List Int) (h : x.length + s.size ≤ 140737488355328) : F41 K s x = some ((s.size : Int), x ++ strNums s) := by
  unfold F41 F63
  rw [Option.bind_some, grdD h]
theorem string_run (K : Nat) (s : ByteArray) : F43 K (strNums s) = some (s, strNums s) := by
  unfold F43
  rw [grdT (byteB_nums s), son_nums]
/-! a batch's bytes -/
def wb (w : Wr) : ByteArray := cond w.2.1 ((⟨#[1]⟩ : ByteArray) ++ tx w.1) ((⟨#[0]⟩ : ByteArray) ++ tx w.1 ++ tx w.2.2)
def cat : List Wr → ByteArray
  | [] => ⟨#[]⟩
  | w :: l => wb w ++ cat l
theorem ba_nil (a : ByteArray) : a ++ (⟨#[]⟩ : ByteArray) = a := by apply ByteArray.ext; simp
theorem nil_ba (a : ByteArray) : (⟨#[]⟩ : ByteArray) ++ a = a := by apply ByteArray.ext; simp
theorem cat_snoc : ∀ (l : List Wr) (w : Wr), cat (l ++ [w]) = cat l ++ wb w
  | [], w => by simp only [List.nil_append, cat, ba_nil, nil_ba]
  | v :: l, w => by simp only [List.cons_append, cat, cat_snoc l w, ByteArray.append_assoc]
def bb (l : List Wr) : ByteArray := strOfNums (nI l.length) ++ cat l
def Small2 (l : List Wr) : Prop := ∀ w ∈ l, w.1.size ≤ 1000000 ∧ w.2.2.size ≤ 1000000
theorem wb_size {w : Wr} (h : w.1.size ≤ 1000000 ∧ w.2.2.size ≤ 1000000) : (wb w).size ≤ 3000000 := by
  have h1 := (nI_length _ (ln_lt w.1)).2
  have h2 := (nI_length _ (ln_lt w.2.2)).2
  unfold wb
  cases w.2.1 with
  | true => rw [cond_true, ByteArray.size_append, tx_size]; show 1 + _ ≤ _; omega
  | false => rw [cond_false, ByteArray.size_append, ByteArray.size_append, tx_size, tx_size]; show 1 + _ + _ ≤ _; omega
theorem cat_size : ∀ {l : List Wr}, Small2 l → (cat l).size ≤ 3000000 * l.length
  | [], _ => Nat.le_refl _
  | w :: l, h => by
    have h1 := wb_size (h w (List.mem_cons_self ..))
    have h2 := cat_size (l := l) (fun v hv => h v (List.mem_cons_of_mem _ hv))
    rw [cat, ByteArray.size_append, List.length_cons]; omega
theorem small_take {l : List Wr} (h : Small2 l) (i : Nat) : Small2 (l.take i) := fun w hw => h w (List.mem_of_mem_take hw)
theorem refbytes_step (K : Nat) (l : List Wr) (hl : Small2 l) (hn : l.length ≤ 1000) (hK : 5 ≤ K) (A : ByteArray) (hA : A.size ≤ 1000) (i : Nat) (hi : i < l.length) :
    L22_18 K l (A ++ cat (l.take i), (i : Int)) = some (.inl (A ++ cat (l.take (i + 1)), ((i + 1 : Nat) : Int))) := by
  have hli : l[i]? = some l[i] := List.getElem?_eq_getElem hi
  have hs := hl _ (List.getElem_mem hi)
  have hc := cat_size (small_take hl i)
  rw [List.length_take] at hc
  have e1 := reftext_run hK l[i].1 (by omega)
  have e2 := reftext_run hK l[i].2.2 (by omega)
  have s1 := tx_size l[i].1
  have s2 := tx_size l[i].2.2
  have h1 := (nI_length _ (ln_lt l[i].1)).2
  have h2 := (nI_length _ (ln_lt l[i].2.2)).2
  unfold L22_18
  simp only [ixn, hli, Option.bind_some, e1, e2]
  rw [condT (by omega), w64 (by omega) (by omega), take_snoc1 hi, cat_snoc, wb]
  cases l[i].2.1 with
  | true =>
    rw [cond_true, cond_true, grdD (by show 1 + _ ≤ _; omega), grdD (by rw [ByteArray.size_append, ByteArray.size_append]; show _ + _ + (1 + _) ≤ _; omega), Option.bind_some, ByteArray.append_assoc]; rfl
  | false =>
    rw [cond_false, cond_false, grdD (by show 1 + _ ≤ _; omega), grdD (by rw [ByteArray.size_append]; show 1 + _ + _ ≤ _; omega), grdD (by rw [ByteArray.size_append, ByteArray.size_append, ByteArray.size_append]; show _ + _ + (1 + _ + _) ≤ _; omega), Option.bind_some, ByteArray.append_assoc]; rfl
theorem bytes_step (K : Nat) (l : List Wr) (hl : Small2 l) (hn : l.length ≤ 1000) (hK : 5 ≤ K) (A : ByteArray) (hA : A.size ≤ 1000) (i : Nat) (hi : i < l.length) :
    L29_20 K l ((i : Int), strNums (A ++ cat (l.take i))) = some (.inl (((i + 1 : Nat) : Int), strNums (A ++ cat (l.take (i + 1))))) := by
  have hli : l[i]? = some l[i] := List.getElem?_eq_getElem hi
  have hs := hl _ (List.getElem_mem hi)
  have hc := cat_size (small_take hl i)
  rw [List.length_take] at hc
  have e1 := text_run hK l[i].1 (by omega)
  have e2 := text_run hK l[i].2.2 (by omega)
  have s1 := tx_size l[i].1
  have s2 := tx_size l[i].2.2
  have h1 := (nI_length _ (ln_lt l[i].1)).2
  have h2 := (nI_length _ (ln_lt l[i].2.2)).2
  unfold L29_20
  simp only [ixn, hli, Option.bind_some, e1, e2]
  rw [condT (by omega), w64 (by omega) (by omega), take_snoc1 hi, cat_snoc, wb, ← ByteArray.append_assoc, strNums_append (A ++ cat (l.take i))]
  have hsz : (strNums (A ++ cat (l.take i))).length = A.size + (cat (l.take i)).size := by rw [strNums_length, ByteArray.size_append]
  cases l[i].2.1 with
  | true =>
    rw [cond_true, cond_true, grdD (by show 1 + _ ≤ _; omega), write_run _ _ _ (by rw [hsz, ByteArray.size_append]; show _ + _ + (1 + _) ≤ _; omega)]; rfl
  | false =>
    rw [cond_false, cond_false, grdD (by show 1 + _ ≤ _; omega), grdD (by rw [ByteArray.size_append]; show 1 + _ + _ ≤ _; omega), write_run _ _ _ (by rw [hsz, ByteArray.size_append, ByteArray.size_append]; show _ + _ + (1 + _ + _) ≤ _; omega)]; rfl
theorem bright_len {l : List Wr} (h : bright l = 0) : 1 ≤ l.length ∧ l.length ≤ 8 := by
  unfold bright at h
  split at h
  · omega
  · omega
noncomputable def bout (l : List Wr) : ByteArray × Int := if bright l = 0 then (bb l, 0) else (⟨#[]⟩, bright l)
theorem numsize (n : Nat) (hn : n ≤ 8) : (strOfNums (nI n)).size ≤ 5 := by
  rw [strOfNums_size]; exact (nI_length n (by omega)).2
theorem refbytes_run (K : Nat) (l : List Wr) (hl : Small2 l) (hK : 2000000 ≤ K) : F22 K l = some (bout l) := by
  unfold F22 bout
  rw [ref_run K l (fun w hw => by have := hl w hw; omega) hK, Option.bind_some]
  by_cases h : bright l = 0
  · have hn := bright_len h
    have hz := numsize l.length hn.2
    rw [h, show ((0 : Int) != 0) = false from rfl, cond_false, if_pos rfl, w32 (by omega) (by omega), refnum_run (by omega) l.length (by omega), Option.bind_some]
    rw [loop_go (r := bb l) (fun i => (strOfNums (nI l.length) ++ cat (l.take i), (i : Int))) l.length (by simp only [List.take_zero, cat, ba_nil]; rfl) (by omega) (fun i hi => refbytes_step K l hl (by omega) (by omega) _ (by omega) i hi) (by unfold L22_18; rw [condF (by omega), List.take_length]; rfl)]
    rfl
  · rw [bne_iff_ne.2 h, cond_true, if_neg h]
theorem bytes_run (K : Nat) (l : List Wr) (hl : Small2 l) (hK : 2000000 ≤ K) : F29 K l = some (bout l) := by
  unfold F29 bout
  rw [right_run K l hK, Option.bind_some]
  by_cases h : bright l = 0
  · have hn := bright_len h
    have hz := numsize l.length hn.2
    rw [h, show ((0 : Int) != 0) = false from rfl, cond_false, if_pos rfl, w32 (by omega) (by omega), num_run (by omega) l.length (by omega), Option.bind_some, write_run _ _ _ (by simp only [List.length_nil]; omega), Option.bind_some, List.nil_append]
    rw [loop_go (r := strNums (bb l)) (fun i => ((i : Int), strNums (strOfNums (nI l.length) ++ cat (l.take i)))) l.length (by simp only [List.take_zero, cat, ba_nil]; rfl) (by omega) (fun i hi => bytes_step K l hl (by omega) (by omega) _ (by omega) i hi) (by unfold L29_20; rw [condF (by omega), List.take_length]; rfl)]
    rw [Option.bind_some, string_run]; rfl
  · rw [bne_iff_ne.2 h, cond_true, if_neg h]
theorem sw_small (l : List Wr) (m : Nat) : Small2 ((l.take m).map sw) := by
  intro w hw
  obtain ⟨v, _, rfl⟩ := List.mem_map.1 hw
  have h1 := Go.Proofs.YtlnadpijicfceaaDoor.PBook.short_size v.1 60
  have h2 := Go.Proofs.YtlnadpijicfceaaDoor.PBook.short_size v.2.2 60
  exact ⟨by show (short v.1 60).size ≤ _; omega, by show (short v.2.2 60).size ≤ _; omega⟩
end Go.Proofs.YtlnadpijicfceaaDoor.PBatch2
