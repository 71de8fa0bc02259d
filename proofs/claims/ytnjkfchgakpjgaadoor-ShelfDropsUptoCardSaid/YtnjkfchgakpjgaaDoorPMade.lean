/- A shelf that rounds have made, and counts over the few keys. -/
import Derived.Test.YtnjkfchgakpjgaaDoorPThose
import Derived.Test.YtnjkfchgakpjgaaDoorPHand
namespace Go.Proofs.YtnjkfchgakpjgaaDoor.PMade
open Go.RowKit Go.Proofs.YtnjkfchgakpjgaaDoor.Mc Go.Proofs.YtnjkfchgakpjgaaDoor.N Go.Proofs.YtnjkfchgakpjgaaDoor.Plain Go.Proofs.YtnjkfchgakpjgaaDoor.PureKeys Go.Proofs.YtnjkfchgakpjgaaDoor.PSorted Go.Proofs.YtnjkfchgakpjgaaDoor.PFd Go.Proofs.YtnjkfchgakpjgaaDoor.PAssoc Go.Proofs.YtnjkfchgakpjgaaDoor.PShelf Go.Proofs.YtnjkfchgakpjgaaDoor.PShelfD Go.Proofs.YtnjkfchgakpjgaaDoor.PThose
open Go.Proofs.YtnjkfchgakpjgaaDoor.PHand (Sm hk hk_mem hk_size names_small hw1 hwl hws hws_len hws_small key_run)
open Go.Proofs.YtnjkfchgakpjgaaDoor.PMk (mk_mem)
set_option linter.unusedSimpArgs false
set_option linter.unusedVariables false
theorem hws_names (l : List Sm) (m : Nat) : ∀ w ∈ hws l m, w.1 ∈ namesT := by
  intro w hw
  obtain ⟨v, hv, rfl⟩ := mk_mem hw
  show v.1 ∈ namesT
  unfold hwl at hv
  split at hv
  · rw [List.mem_singleton] at hv
    subst hv
    decide +kernel
  · obtain ⟨x, _, rfl⟩ := List.mem_map.1 hv
    exact hk_mem _
theorem hk_inj : ∀ i, i < 12 → ∀ j, j < 12 → hk ((i : Nat) : Int) = hk ((j : Nat) : Int) → i = j := by decide +kernel
theorem names_at : ∀ s ∈ namesT, ∃ i, i < 12 ∧ hk ((i : Nat) : Int) = s := by decide +kernel
/-- how many of the first keys -/
def cnt (c : Nat → Bool) (n : Nat) : Nat := ((List.range n).filter c).length
theorem cnt_succ (c : Nat → Bool) (n : Nat) : cnt c (n + 1) = cnt c n + if c n then 1 else 0 := by
  unfold cnt
  rw [List.range_succ, List.filter_append, List.length_append]
  cases h : c n <;> simp [h]
theorem cnt_le (c : Nat → Bool) (n : Nat) : cnt c n ≤ n := by
  unfold cnt
  refine Nat.le_trans (List.length_filter_le _ _) ?_
  rw [List.length_range]; omega
theorem count {D : List ByteArray} (hn : D.Nodup) (hm : ∀ k ∈ D, k ∈ namesT) (c : Nat → Bool) (hc : ∀ i, i < 12 → (c i = true ↔ hk ((i : Nat) : Int) ∈ D)) : D.length = cnt c 12 := by
  have hp : D.Perm (((List.range 12).filter c).map fun i => hk ((i : Nat) : Int)) := by
    rw [List.perm_ext_iff_of_nodup hn ?_]
    · intro k
      rw [List.mem_map]
      constructor
      · intro hk
        obtain ⟨i, hi, rfl⟩ := names_at k (hm k hk)
        exact ⟨i, List.mem_filter.2 ⟨List.mem_range.2 hi, (hc i hi).2 hk⟩, rfl⟩
      · rintro ⟨i, hi, rfl⟩
        rw [List.mem_filter, List.mem_range] at hi
        exact (hc i hi.1).1 hi.2
    · have h0 : ((List.range 12).filter c).Nodup := List.nodup_range.sublist List.filter_sublist
      rw [List.Nodup, List.pairwise_map]
      refine h0.imp_of_mem fun {a b} ha hb hne e => hne ?_
      rw [List.mem_filter, List.mem_range] at ha hb
      exact hk_inj a ha.1 b hb.1 e
  rw [hp.length_eq, List.length_map]; rfl
/-- the rounds -/
noncomputable def mkE (x : List (List Sm)) : Nat → Es
  | 0 => []
  | i + 1 => cm ((i + 1 : Nat) : Int) ((i + 1 : Nat) : Int) (mkE x i) (hws (x.getD i []) 5)
def Pm (n : Nat) (k : ByteArray) (s t : Int) : Prop := k ∈ namesT ∧ s = t ∧ 1 ≤ s ∧ s ≤ n
theorem mkE_ok (x : List (List Sm)) : ∀ n, ND (mkE x n) ∧ Own (Pm n) (mkE x n) ∧ (mkE x n).length ≤ n * 5
  | 0 => ⟨nd_nil, fun x hx => by simp [mkE] at hx, Nat.zero_le _⟩
  | n + 1 => by
    obtain ⟨h1, h2, h3⟩ := mkE_ok x n
    refine ⟨nd_cm h1, own_cm (fun y hy => ?_) fun w hw => ⟨hws_names _ _ w hw, rfl, by omega, by omega⟩, ?_⟩
    · obtain ⟨ha, hb, hc, hd, he⟩ := h2 y hy
      exact ⟨ha, hb, hc, hd, by omega⟩
    · have := len_cm ((n + 1 : Nat) : Int) ((n + 1 : Nat) : Int) (hws (x.getD n []) 5) (mkE x n)
      have := hws_len (x.getD n []) 5 (by omega)
      show (cm _ _ _ _).length ≤ _
      omega
theorem own_small {n : Nat} {es : Es} (h : Own (Pm n) es) : Small (es.map (·.1)) := by
  intro k hk
  obtain ⟨x, hx, rfl⟩ := List.mem_map.1 hk
  have := names_small _ (h x hx).2.1
  omega
theorem round (i : Nat) (hi : i < 1000) : IntKind.wrap .u32 (IntKind.wrap .i64 ((i : Int) + 1)) = ((i + 1 : Nat) : Int) := by
  rw [w64 (by omega) (by omega), w32 (by omega) (by omega)]; rfl
theorem made_run (K : Nat) (hK : 2000000 ≤ K) (x : List (List Sm)) (hx : ∀ l ∈ x, ∀ s ∈ l, s.2.2.size ≤ 1000000000) : F7 K x = some (mkE x (min 20 x.length)) := by
  unfold F7 F17
  rw [Option.bind_some, loop_go (r := mkE x (min 20 x.length)) (fun i => ((i : Int), mkE x i)) (min 20 x.length) (by rfl) (by omega) ?_ ?_]; rfl
  · intro i hi
    have hil : i < x.length := by omega
    have hw := PHand.writes_run K hK x[i] 5 (by omega) (by omega) (hx _ (List.getElem_mem hil))
    have hl := hws_len x[i] 5 (by omega)
    have e : x.getD i [] = x[i] := by rw [List.getD_eq_getElem?_getD, List.getElem?_eq_getElem hil]; rfl
    unfold L7_16
    dsimp only
    rw [condT (by omega), decide_eq_true (by omega : (i : Int) < 20), Option.bind_some, cond_true, ixn, List.getElem?_eq_getElem hil, Option.bind_some, show F11 K x[i] 5 = _ from hw, Option.bind_some, round i (by omega), apply_run _ _ _ _ _ _ (by omega) (by omega), Option.bind_some, w64 (by omega) (by omega)]
    show _ = some (Sum.inl (((i + 1 : Nat) : Int), cm ((i + 1 : Nat) : Int) ((i + 1 : Nat) : Int) (mkE x i) (hws (x.getD i []) 5)))
    rw [e]; rfl
  · unfold L7_16
    dsimp only
    by_cases h : min 20 x.length < x.length
    · rw [condT (by omega), decide_eq_false (by omega)]; rfl
    · rw [condF (by omega)]; rfl
theorem sum_mem : ∀ (ns : List Nat) (n : Nat), n ∈ ns → n ≤ ns.sum
  | [], _, h => by simp at h
  | m :: ns, n, h => by
    rw [List.sum_cons]
    rcases List.mem_cons.1 h with rfl | h
    · omega
    · have := sum_mem ns n h; omega
theorem small_rows {x : List (List Sm)} {m : Nat} (h : (x.map fun z : List Sm => ((z.map fun y : Sm => (y.2.2.size + 0) + 1).sum + 0) + 1).sum ≤ m) : ∀ l ∈ x, ∀ s ∈ l, s.2.2.size ≤ m := fun z hz s hs => by
  have h1 := sum_mem _ _ (List.mem_map.2 ⟨z, hz, rfl⟩ : _ ∈ x.map fun z : List Sm => ((z.map fun y : Sm => (y.2.2.size + 0) + 1).sum + 0) + 1)
  have h2 := sum_mem _ _ (List.mem_map.2 ⟨s, hs, rfl⟩ : _ ∈ z.map fun y : Sm => (y.2.2.size + 0) + 1)
  omega
end Go.Proofs.YtnjkfchgakpjgaaDoor.PMade
