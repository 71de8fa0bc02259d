/- ShelfPlays' plain law. -/
import Derived.Test.YtnjkfchgakpjgaaDoorPShelfRef
import Derived.Test.YtnjkfchgakpjgaaDoorPHand
namespace Go.Proofs.YtnjkfchgakpjgaaDoor.PureShelfPlays
open Go.RowKit Go.Proofs.YtnjkfchgakpjgaaDoor.Mc Go.Proofs.YtnjkfchgakpjgaaDoor.N Go.Proofs.YtnjkfchgakpjgaaDoor.Plain Go.Proofs.YtnjkfchgakpjgaaDoor.PureKeys Go.Proofs.YtnjkfchgakpjgaaDoor.PSorted Go.Proofs.YtnjkfchgakpjgaaDoor.PFd Go.Proofs.YtnjkfchgakpjgaaDoor.PAssoc Go.Proofs.YtnjkfchgakpjgaaDoor.PShelf Go.Proofs.YtnjkfchgakpjgaaDoor.PShelfD Go.Proofs.YtnjkfchgakpjgaaDoor.PThose Go.Proofs.YtnjkfchgakpjgaaDoor.PRel Go.Proofs.YtnjkfchgakpjgaaDoor.PShelfRef
open Go.Proofs.YtnjkfchgakpjgaaDoor.PHand (Sm hk hws hws_len hws_small key_run pick_run)
set_option linter.unusedSimpArgs false
set_option linter.unusedVariables false
/-- a step, raw -/
abbrev Sp : Type := Int × Int × Int × List Sm × List Wr × Bool
theorem group_run (K : Nat) (hK : 2000000 ≤ K) (n a t : Int) (l : List Sm) (ws : List Wr) (b : Bool) (hl : ∀ s ∈ l, s.2.2.size ≤ 1000000000) : ∃ m : List Wr, F19 K n a t l ws b = some (a, 0, t, m) ∧ m.length ≤ 8 ∧ ∀ w ∈ m, w.1.size ≤ 1000000 := by
  unfold F19
  rw [show F11 K l 6 = _ from PHand.writes_run K hK l 6 (by omega) (by omega) hl, Option.bind_some]
  cases b with
  | false =>
    refine ⟨hws l 6, rfl, Nat.le_trans (hws_len l 6 (by omega)) (by omega), fun w hw => ?_⟩
    have := (hws_small _ _ w hw).1; omega
  | true =>
    rw [cond_true, show F31 K ws 8 = _ from PBook.writes_run K ws 8 (by omega) (by omega)]
    refine ⟨(ws.take 8).map PBook.sw, rfl, by rw [List.length_map, List.length_take]; omega, fun w hw => ?_⟩
    obtain ⟨v, _, rfl⟩ := List.mem_map.1 hw
    have := PBook.short_size v.1 60
    show (PBook.short v.1 60).size ≤ _
    omega
/-- what holds between steps -/
structure Ok (i : Nat) (L : Ls) (es : Es) : Prop where
  rel : Rel es L
  small : SmallA L
  len : L.length ≤ i * 8
theorem Ok.esLen {i : Nat} {L : Ls} {es : Es} (h : Ok i L es) : es.length = L.length := by
  have hp : (es.map (·.1)).Perm (L.map (·.1)) := by
    rw [List.perm_ext_iff_of_nodup h.rel.nd (PRel.asc_nodup h.rel.asc)]
    intro x
    rw [h.rel.keys]
    exact (srt_mem _ _).symm
  simpa using hp.length_eq
theorem Ok.next {i : Nat} {L : Ls} {es : Es} (h : Ok i L es) : Ok (i + 1) L es := ⟨h.rel, h.small, by have := h.len; omega⟩
theorem texts_same (K : Nat) (hK : 2000000 ≤ K) (l : List ByteArray) (hl : l.length ≤ 100000) : F21 K l l = some true := PBook.same_run K l (by omega) (by omega)
theorem run_run (K : Nat) (hK : 2000000 ≤ K) (x : Sp) (hx : ∀ s ∈ x.2.2.2.1, s.2.2.size ≤ 1000000000) (i : Nat) (hi : i ≤ 1000) (L : Ls) (es : Es) (h : Ok i L es) :
    ∃ L2 es2, F20 K x.1 x.2.1 x.2.2.1 x.2.2.2.1 x.2.2.2.2.1 x.2.2.2.2.2 L es = some (true, L2, es2) ∧ Ok (i + 1) L2 es2 := by
  have hlen := h.len
  have hel := h.esLen
  have hs := rel_small h.rel h.small
  unfold F20
  obtain ⟨y, hy, hy1, hy4⟩ : ∃ y : Sp, ((cond (!x.2.2.2.2.2) (some (x.1, (x.2.1.tmod 20), (x.2.2.1.tmod 20), x.2.2.2.1, x.2.2.2.2.1, x.2.2.2.2.2)) (some (x.1, x.2.1, x.2.2.1, x.2.2.2.1, x.2.2.2.2.1, x.2.2.2.2.2))) : Option Sp) = some y ∧ y.1 = x.1 ∧ y.2.2.2.1 = x.2.2.2.1 := by
    cases x.2.2.2.2.2 with
    | true => exact ⟨_, rfl, rfl, rfl⟩
    | false => exact ⟨_, rfl, rfl, rfl⟩
  have hyx : ∀ s ∈ y.2.2.2.1, s.2.2.size ≤ 1000000000 := by rw [hy4]; exact hx
  rw [hy, Option.bind_some, key_run, Option.bind_some, pick_run _ _ 9 (by omega) (by omega), Option.bind_some]
  by_cases h5 : y.1 % 9 = 5
  · rw [beq_iff_eq.2 h5, cond_true]
    obtain ⟨z, hz⟩ : ∃ z : Sp, ((cond (!y.2.2.2.2.2) (some (y.1, (y.2.1.tmod 5), (y.2.2.1.tmod 5), y.2.2.2.1, y.2.2.2.2.1, y.2.2.2.2.2)) (some (y.1, y.2.1, y.2.2.1, y.2.2.2.1, y.2.2.2.2.1, y.2.2.2.2.2))) : Option Sp) = some z := by
      cases y.2.2.2.2.2 with
      | true => exact ⟨_, rfl⟩
      | false => exact ⟨_, rfl⟩
    rw [hz, Option.bind_some, drop_run K hK _ _ es hs (by omega), Option.bind_some, refdrop_run K _ _ L (by omega) (by omega), Option.bind_some, rel_th h.rel]
    have hl := th_len (dp z.2.1 z.2.2.1) es
    dsimp only
    rw [texts_same K hK _ (by omega), Option.bind_some]
    refine ⟨L.filter fun a => !dp z.2.1 z.2.2.1 a, dr z.2.1 z.2.2.1 es, rfl, rel_dr h.rel _ _, fun a ha => h.small a (List.mem_filter.1 ha).1, ?_⟩
    exact Nat.le_trans (List.length_filter_le _ _) (by omega)
  · rw [beq_eq_false_iff_ne.2 h5, cond_false]
    by_cases h6 : y.1 % 9 = 6
    · rw [beq_iff_eq.2 h6, cond_true, get_run, Option.bind_some, refget_run K _ es L h.rel (by omega) (by omega), Option.bind_some]
      refine ⟨L, es, ?_, h.next⟩
      simp
    · rw [beq_eq_false_iff_ne.2 h6, cond_false]
      by_cases h7 : y.1 % 9 = 7
      · rw [beq_iff_eq.2 h7, cond_true, live_run K hK _ es hs (by omega), Option.bind_some, reflive_run K _ L (by omega) (by omega), Option.bind_some, rel_th h.rel]
        have hl := th_len (lp y.2.1) es
        dsimp only
        rw [texts_same K hK _ (by omega), Option.bind_some]
        exact ⟨L, es, rfl, h.next⟩
      · rw [beq_eq_false_iff_ne.2 h7, cond_false]
        by_cases h8 : y.1 % 9 = 8
        · rw [beq_iff_eq.2 h8, cond_true, top_run K _ es (by omega), Option.bind_some, reftop_run K _ L (by omega) (by omega), Option.bind_some, rel_top h.rel, beq_self_eq_true]
          exact ⟨L, es, rfl, h.next⟩
        · rw [beq_eq_false_iff_ne.2 h8, cond_false]
          obtain ⟨m, hm, hml, hms⟩ := group_run K hK y.1 y.2.1 y.2.2.1 y.2.2.2.1 y.2.2.2.2.1 y.2.2.2.2.2 hyx
          rw [hm, Option.bind_some, apply_run _ _ _ _ _ _ (by dsimp only; omega) (by dsimp only; omega), Option.bind_some, Option.bind_some, refapply_run K hK _ _ _ L m (by omega) (by omega) h.small hms, Option.bind_some]
          have hrl := rc_len y.2.1 y.2.2.1 m L
          exact ⟨rc y.2.1 y.2.2.1 L m, cm y.2.1 y.2.2.1 es m, rfl, rel_cm h.rel, rc_small h.small hms, by omega⟩
def Inv (i : Nat) (s : Int × Ls × Es) : Prop := s.1 = (i : Int) ∧ Ok i s.2.1 s.2.2
theorem sum_mem : ∀ (ns : List Nat) (n : Nat), n ∈ ns → n ≤ ns.sum
  | [], _, h => by simp at h
  | m :: ns, n, h => by
    rw [List.sum_cons]
    rcases List.mem_cons.1 h with rfl | h
    · omega
    · have := sum_mem ns n h; omega
theorem law (x1 : List Sp) (g : gdT [.sl (.int .i64 (.int .u32 (.int .u32 (.sl (.int .i64 (.bool (.str .nil))) (.sl (.str (.bool (.str .nil))) (.bool .nil))))))] x1) (b : blkT [.sl (.int .i64 (.int .u32 (.int .u32 (.sl (.int .i64 (.bool (.str .nil))) (.sl (.str (.bool (.str .nil))) (.bool .nil))))))] x1 ≤ 1048576) : ∃ k, F6 k x1 = some true := by
  refine ⟨2000000, ?_⟩
  have hK : 2000000 ≤ 2000000 := Nat.le_refl _
  have b' : (x1.map fun z : Sp => ((z.2.2.2.1.map fun y : Sm => (y.2.2.size + 0) + 1).sum + ((z.2.2.2.2.1.map fun y : Wr => (y.1.size + (y.2.2.size + 0)) + 1).sum + 0)) + 1).sum ≤ 1048576 := b
  have hx : ∀ z ∈ x1, ∀ s ∈ z.2.2.2.1, s.2.2.size ≤ 1000000000 := fun z hz s hs => by
    have h1 := sum_mem _ _ (List.mem_map.2 ⟨z, hz, rfl⟩ : _ ∈ x1.map fun z : Sp => ((z.2.2.2.1.map fun y : Sm => (y.2.2.size + 0) + 1).sum + ((z.2.2.2.2.1.map fun y : Wr => (y.1.size + (y.2.2.size + 0)) + 1).sum + 0)) + 1)
    have h2 := sum_mem _ _ (List.mem_map.2 ⟨s, hs, rfl⟩ : _ ∈ z.2.2.2.1.map fun y : Sm => (y.2.2.size + 0) + 1)
    omega
  have hloop : ∃ r, loopN (L6_18 2000000 x1) 2000000 (0, ([] : Ls), ([] : Es)) = some r ∧ ∃ q, r = .inr q := by
    refine loop_inv (f := L6_18 2000000 x1) (a := (0, ([] : Ls), ([] : Es))) (k := 2000000) Inv (fun r => ∃ q, r = .inr q) (min 40 x1.length) ⟨rfl, Rel.nil, fun a ha => by simp at ha, Nat.zero_le _⟩ (by omega) (fun i s hi hs => ?_) (fun s hs => ?_)
    · obtain ⟨n, L, es⟩ := s
      obtain ⟨rfl, hok⟩ := hs
      dsimp only at hok
      have hil : i < x1.length := by omega
      obtain ⟨L2, es2, hrun, hok2⟩ := run_run 2000000 hK x1[i] (hx _ (List.getElem_mem hil)) i (by omega) L es hok
      have hel := hok2.esLen
      have hlen := hok2.len
      have hs := rel_small hok2.rel hok2.small
      refine ⟨(((i + 1 : Nat) : Int), L2, es2), ?_, rfl, hok2⟩
      unfold L6_18 F15
      dsimp only
      have hkeys : L2.map (·.1) = th (fun _ => true) es2 := by
        have := rel_th hok2.rel (fun _ => true)
        rwa [List.filter_eq_self.2 (fun _ _ => rfl)] at this
      have hl := th_len (fun _ => true) es2
      rw [condT (by omega), decide_eq_true (by omega : (i : Int) < 40), Option.bind_some, cond_true, ixn, List.getElem?_eq_getElem hil, Option.bind_some, hrun, Option.bind_some]
      simp only [Bool.not_true, cond_false, Option.bind_some]
      rw [show ((es2.length : Int) != (L2.length : Int)) = false by rw [bne_eq_false_iff_eq]; omega, cond_false, keysOf_run _ hK _ hs (by omega), Option.bind_some, refkeys_run _ _ (by omega) (by omega), Option.bind_some, hkeys]
      dsimp only
      rw [texts_same _ hK _ (by omega), Option.bind_some, Option.bind_some, w64 (by omega) (by omega)]; rfl
    · obtain ⟨n, L, es⟩ := s
      obtain ⟨rfl, _⟩ := hs
      refine ⟨.inr (L, es), ?_, _, rfl⟩
      unfold L6_18
      dsimp only
      by_cases h : min 40 x1.length < x1.length
      · rw [condT (by omega), decide_eq_false (by omega)]; rfl
      · rw [condF (by omega)]; rfl
  obtain ⟨r, h1, q, rfl⟩ := hloop
  unfold F6 F17
  rw [Option.bind_some, alive _ hK, Option.bind_some, Bool.not_true, cond_false, Option.bind_some, cond_false, h1]; rfl
end Go.Proofs.YtnjkfchgakpjgaaDoor.PureShelfPlays
