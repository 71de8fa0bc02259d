/- ShelfTop's plain law. -/
import Derived.Test.YtnjkfchgakpjgaaDoorPMade
namespace Go.Proofs.YtnjkfchgakpjgaaDoor.PureShelfTop
open Go.RowKit Go.Proofs.YtnjkfchgakpjgaaDoor.Mc Go.Proofs.YtnjkfchgakpjgaaDoor.N Go.Proofs.YtnjkfchgakpjgaaDoor.Plain Go.Proofs.YtnjkfchgakpjgaaDoor.PureKeys Go.Proofs.YtnjkfchgakpjgaaDoor.PSorted Go.Proofs.YtnjkfchgakpjgaaDoor.PFd Go.Proofs.YtnjkfchgakpjgaaDoor.PAssoc Go.Proofs.YtnjkfchgakpjgaaDoor.PShelf Go.Proofs.YtnjkfchgakpjgaaDoor.PShelfD Go.Proofs.YtnjkfchgakpjgaaDoor.PThose Go.Proofs.YtnjkfchgakpjgaaDoor.PMade
open Go.Proofs.YtnjkfchgakpjgaaDoor.PHand (Sm hk hws hws_len hws_small key_run names_small)
set_option linter.unusedSimpArgs false
set_option linter.unusedVariables false
/-- a step, raw -/
abbrev Sp : Type := Int × Int × Int × List Sm × List Wr × Bool
def Pt (k : ByteArray) (s t : Int) : Prop := k ∈ namesT ∧ t ≤ s
def Inv (i : Nat) (s : Int × Es) : Prop := s.1 = (i : Int) ∧ ND s.2 ∧ Own Pt s.2 ∧ s.2.length ≤ i * 6
theorem group_run (K : Nat) (hK : 2000000 ≤ K) (n a t : Int) (l : List Sm) (ws : List Wr) (hl : ∀ s ∈ l, s.2.2.size ≤ 1000000000) : F19 K n a t l ws false = some (a, 0, t, hws l 6) := by
  unfold F19
  rw [show F11 K l 6 = _ from PHand.writes_run K hK l 6 (by omega) (by omega) hl]; rfl
theorem law (x1 : List Sp) (x2 : Int) (g : gdT [.sl (.int .i64 (.int .u32 (.int .u32 (.sl (.int .i64 (.bool (.str .nil))) (.sl (.str (.bool (.str .nil))) (.bool .nil)))))), .int .u32] (x1, x2)) (b : blkT [.sl (.int .i64 (.int .u32 (.int .u32 (.sl (.int .i64 (.bool (.str .nil))) (.sl (.str (.bool (.str .nil))) (.bool .nil)))))), .int .u32] (x1, x2) ≤ 1048576) : ∃ k, F5 k x1 x2 = some true := by
  refine ⟨2000000, ?_⟩
  have hK : 2000000 ≤ 2000000 := Nat.le_refl _
  have h2 := u32_wf (x := x2) g.2
  have b' : (x1.map fun z : Sp => ((z.2.2.2.1.map fun y : Sm => (y.2.2.size + 0) + 1).sum + ((z.2.2.2.2.1.map fun y : Wr => (y.1.size + (y.2.2.size + 0)) + 1).sum + 0)) + 1).sum + 0 ≤ 1048576 := b
  have hx : ∀ z ∈ x1, ∀ s ∈ z.2.2.2.1, s.2.2.size ≤ 1000000000 := fun z hz s hs => by
    have h1 := sum_mem _ _ (List.mem_map.2 ⟨z, hz, rfl⟩ : _ ∈ x1.map fun z : Sp => ((z.2.2.2.1.map fun y : Sm => (y.2.2.size + 0) + 1).sum + ((z.2.2.2.2.1.map fun y : Wr => (y.1.size + (y.2.2.size + 0)) + 1).sum + 0)) + 1)
    have h2 := sum_mem _ _ (List.mem_map.2 ⟨s, hs, rfl⟩ : _ ∈ z.2.2.2.1.map fun y : Sm => (y.2.2.size + 0) + 1)
    omega
  have hp : ∀ z ∈ x1, 0 ≤ z.2.2.1 := fun z hz => by
    have h1 := g.1.2 z hz
    exact (u32_wf (x := z.2.2.1) h1.2.2.1).1
  have hloop : ∃ es, loopN (L5_16 2000000 x1) 2000000 (0, ([] : Es)) = some es ∧ ND es ∧ Own Pt es ∧ es.length ≤ 1000 := by
    have := loop_inv (f := L5_16 2000000 x1) (a := (0, ([] : Es))) (k := 2000000) Inv (fun es => ND es ∧ Own Pt es ∧ es.length ≤ 1000) (min 20 x1.length) ⟨rfl, nd_nil, fun a ha => by simp at ha, Nat.zero_le _⟩ (by omega) (fun i s hi hs => ?_) (fun s hs => ?_)
    · exact this
    · obtain ⟨n, es⟩ := s
      obtain ⟨rfl, hn, ho, hlen⟩ := hs
      dsimp only at hn ho hlen
      have hil : i < x1.length := by omega
      have hl := hws_len x1[i].2.2.2.1 6 (by omega)
      have h0 := hp _ (List.getElem_mem hil)
      have hm := Int.tmod_lt_of_pos x1[i].2.2.1 (show (0 : Int) < ((i + 1 : Nat) : Int) by omega)
      have hm0 := Int.tmod_nonneg ((i + 1 : Nat) : Int) h0
      have ht : IntKind.wrap .u32 (1 + x1[i].2.2.1.tmod ((i + 1 : Nat) : Int)) = 1 + x1[i].2.2.1.tmod ((i + 1 : Nat) : Int) := w32 (by omega) (by omega)
      have hcl := len_cm ((i + 1 : Nat) : Int) (1 + x1[i].2.2.1.tmod ((i + 1 : Nat) : Int)) (hws x1[i].2.2.2.1 6) es
      refine ⟨(((i + 1 : Nat) : Int), cm ((i + 1 : Nat) : Int) (1 + x1[i].2.2.1.tmod ((i + 1 : Nat) : Int)) es (hws x1[i].2.2.2.1 6)), ?_, rfl, nd_cm hn, own_cm ho fun w hw => ⟨hws_names _ _ w hw, by omega⟩, by show (cm _ _ _ _).length ≤ _; omega⟩
      unfold L5_16
      dsimp only
      rw [condT (by omega), decide_eq_true (by omega : (i : Int) < 20), Option.bind_some, cond_true, ixn, List.getElem?_eq_getElem hil, Option.bind_some, round i (by omega), grdT (by rw [bne_iff_ne]; omega), ht, group_run _ hK _ _ _ _ _ (hx _ (List.getElem_mem hil)), Option.bind_some, apply_run _ _ _ _ _ _ (by dsimp only; omega) (by dsimp only; omega), Option.bind_some, w64 (by omega) (by omega)]; rfl
    · obtain ⟨n, es⟩ := s
      obtain ⟨rfl, hn, ho, hlen⟩ := hs
      dsimp only at hn ho hlen
      refine ⟨es, ?_, hn, ho, by omega⟩
      unfold L5_16
      dsimp only
      by_cases h : min 20 x1.length < x1.length
      · rw [condT (by omega), decide_eq_false (by omega)]; rfl
      · rw [condF (by omega)]; rfl
  obtain ⟨es, hl, hn, ho, hlen⟩ := hloop
  have hs : Small (es.map (·.1)) := fun k hk => by
    obtain ⟨x, hx, rfl⟩ := List.mem_map.1 hk
    have := names_small _ (ho x hx).2.1
    omega
  have hq := Int.tmod_nonneg 22 h2.1
  unfold F5 F17
  rw [Option.bind_some, alive _ hK, Option.bind_some, Bool.not_true, cond_false, Option.bind_some, cond_false, hl, Option.bind_some, top_run _ _ _ (by omega), Option.bind_some]
  generalize htp : tpe (x2.tmod 22) es = t
  have htq : t ≤ x2.tmod 22 := by
    rw [← htp]
    unfold tpe
    refine tp_le _ _ _ _ hq fun a ha haq => ?_
    obtain ⟨x, hx, rfl⟩ := List.mem_map.1 ha
    have := (ho x hx).2.2
    omega
  dsimp only
  rw [drop_run _ hK _ _ _ hs (by omega), Option.bind_some]
  have hstay : ∀ x ∈ dr (x2.tmod 22) t es, x ∈ es ∧ dp (x2.tmod 22) t x.2 = false := fun x hx => stay hn hx
  have hlen2 := len_dr (q := x2.tmod 22) (t := t) hn
  have hno : ∀ D : List ByteArray, loopN (L5_43 2000000 x2 (t, es) (D, dr (x2.tmod 22) t es)) 2000000 0 = some (.inr ()) := by
    intro D
    refine loop_go (fun i => (i : Int)) 12 rfl (by omega) (fun i hi => ?_) ?_
    · unfold L5_43
      dsimp only
      rw [condT (by omega), key_run, Option.bind_some, get_run, Option.bind_some, w64 (by omega) (by omega)]
      unfold gl
      cases hg : mget sEq (dr (x2.tmod 22) t es) (hk (i : Int)) with
      | none => rfl
      | some a =>
        have hd := (hstay _ (get_some_mem hg)).2
        unfold dp at hd
        rw [Bool.or_eq_false_iff] at hd
        dsimp only at hd ⊢
        rw [hd.1, hd.2]; rfl
    · unfold L5_43
      rw [condF (by omega)]
  rw [hno, Option.bind_some]
  simp only [sel]
  rw [condT htq, top_run _ _ _ (by omega), Option.bind_some]
  have ht : tpe (x2.tmod 22) (dr (x2.tmod 22) t es) = 0 := by
    unfold tpe
    refine tp_none _ _ _ fun a ha => ?_
    obtain ⟨x, hx, rfl⟩ := List.mem_map.1 ha
    obtain ⟨_, hxp⟩ := hstay x hx
    unfold dp at hxp
    rw [Bool.or_eq_false_iff, decide_eq_false_iff_not] at hxp
    exact hxp.1
  rw [ht]; rfl
end Go.Proofs.YtnjkfchgakpjgaaDoor.PureShelfTop
