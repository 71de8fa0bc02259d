/- AtomApart's plain law. -/
import Derived.Test.YtfdglmgblmoakaaDoorPAtomStep
namespace Go.Proofs.YtfdglmgblmoakaaDoor.PureAtomApart
open Go.RowKit Go.Proofs.YtfdglmgblmoakaaDoor.Mc Go.Proofs.YtfdglmgblmoakaaDoor.N Go.Proofs.YtfdglmgblmoakaaDoor.Plain Go.Proofs.YtfdglmgblmoakaaDoor.PureKeys Go.Proofs.YtfdglmgblmoakaaDoor.PSorted Go.Proofs.YtfdglmgblmoakaaDoor.PFd Go.Proofs.YtfdglmgblmoakaaDoor.PAssoc Go.Proofs.YtfdglmgblmoakaaDoor.PAtom Go.Proofs.YtfdglmgblmoakaaDoor.PAtomKeys Go.Proofs.YtfdglmgblmoakaaDoor.PAtomRef Go.Proofs.YtfdglmgblmoakaaDoor.PAtomStep
open Go.Proofs.YtfdglmgblmoakaaDoor.PHand (Sm hk hws hws_len)
set_option linter.unusedSimpArgs false
set_option linter.unusedVariables false
def SmallE (es : Es) : Prop := Small (es.map (·.1))
theorem c1_small {seq : Int} {es : Es} {w : Wr} (h : SmallE es) (hw : w.1.size ≤ 1000000) : SmallE (c1 seq es w) := by
  unfold c1 SmallE
  intro k hk
  split at hk
  · rw [keys_del] at hk
    exact h k (List.mem_of_mem_erase hk)
  · rw [keys_set] at hk
    split at hk
    · exact h k hk
    · rcases List.mem_append.1 hk with hk | hk
      · exact h k hk
      · rw [List.mem_singleton] at hk
        subst hk; exact hw
theorem cm_small {seq : Int} : ∀ {l : List Wr} {es : Es}, SmallE es → (∀ w ∈ l, w.1.size ≤ 1000000) → SmallE (cm seq es l)
  | [], _, h, _ => h
  | w :: l, es, h, hw => cm_small (l := l) (c1_small (w := w) h (hw w (by simp))) fun v hv => hw v (by simp [hv])
theorem c1_len (seq : Int) (es : Es) (w : Wr) : (c1 seq es w).length ≤ es.length + 1 := by
  unfold c1
  split
  · have := len_del w.1 es; omega
  · exact len_set _ _ _
theorem cm_len (seq : Int) : ∀ (l : List Wr) (es : Es), (cm seq es l).length ≤ es.length + l.length
  | [], es => by simp [cm]
  | w :: l, es => by
    have h1 := cm_len seq l (c1 seq es w)
    have h2 := c1_len seq es w
    show (cm seq (c1 seq es w) l).length ≤ _
    rw [List.length_cons]; omega
def Inv (i : Nat) (s : Int × Es × Es × Es) : Prop := s.1 = (i : Int) ∧ s.2.1 = s.2.2.1 ∧ SmallE s.2.1 ∧ s.2.1.length ≤ i * 12
theorem law (x1 : List Stp) (x2 : List Int) (g : gdT [.sl (.int .i64 (.int .u32 (.sl (.int .i64 (.bool (.str .nil))) (.sl (.str (.bool (.str .nil))) (.sl (.str .nil) (.bool .nil)))))), .sl (.int .i64 .nil)] (x1, x2)) (b : blkT [.sl (.int .i64 (.int .u32 (.sl (.int .i64 (.bool (.str .nil))) (.sl (.str (.bool (.str .nil))) (.sl (.str .nil) (.bool .nil)))))), .sl (.int .i64 .nil)] (x1, x2) ≤ 1048576) : ∃ k, F5 k x1 x2 = some true := by
  refine ⟨2000000, ?_⟩
  have hK : 2000000 ≤ 2000000 := Nat.le_refl _
  have b' : (x1.map fun z : Stp => ((z.2.2.1.map fun y : Sm => (y.2.2.size + 0) + 1).sum + ((z.2.2.2.1.map fun y : Wr => (y.1.size + (y.2.2.size + 0)) + 1).sum + ((z.2.2.2.2.1.map fun y : ByteArray => (y.size + 0) + 1).sum + 0))) + 1).sum + (x2.map fun _ => 0 + 1).sum ≤ 1048576 := b
  have hx : ∀ z ∈ x1, ∀ s ∈ z.2.2.1, s.2.2.size ≤ 1000000000 := fun z hz s hs => by
    have h1 := sum_mem _ _ (List.mem_map.2 ⟨z, hz, rfl⟩ : _ ∈ x1.map fun z : Stp => ((z.2.2.1.map fun y : Sm => (y.2.2.size + 0) + 1).sum + ((z.2.2.2.1.map fun y : Wr => (y.1.size + (y.2.2.size + 0)) + 1).sum + ((z.2.2.2.2.1.map fun y : ByteArray => (y.size + 0) + 1).sum + 0))) + 1)
    have h2 := sum_mem _ _ (List.mem_map.2 ⟨s, hs, rfl⟩ : _ ∈ z.2.2.1.map fun y : Sm => (y.2.2.size + 0) + 1)
    omega
  have hw0 := PHand.writes_run 2000000 hK ([] : List Sm) 1 (by omega) (by omega) (fun s hs => by simp at hs)
  have hl0 := hws_len ([] : List Sm) 1 (by omega)
  have hk2 := PHand.keys_run 2000000 x2 5 (by omega) (by omega)
  have hk2l : ((x2.take 5).map hk).length ≤ 5 := by rw [List.length_map, List.length_take]; omega
  have hloop : ∃ es e3, loopN (L5_16 2000000 x1 x2) 2000000 (0, ([] : Es), ([] : Es), ([] : Es)) = some (es, es, e3) ∧ SmallE es ∧ es.length ≤ 1000 := by
    have := loop_inv (f := L5_16 2000000 x1 x2) (a := (0, ([] : Es), ([] : Es), ([] : Es))) (k := 2000000) Inv (fun r => ∃ es e3, r = (es, es, e3) ∧ SmallE es ∧ es.length ≤ 1000) (min 20 x1.length) ⟨rfl, rfl, fun a ha => by simp at ha, Nat.zero_le _⟩ (by omega) (fun i s hi hs => ?_) (fun s hs => ?_)
    · obtain ⟨r, h1, es, e3, rfl, h2, h3⟩ := this
      exact ⟨es, e3, h1, h2, h3⟩
    · obtain ⟨n, es, e2, e3⟩ := s
      obtain ⟨rfl, he, hsm, hlen⟩ := hs
      dsimp only at he hsm hlen
      subst he
      have hil : i < x1.length := by omega
      have hwr := PAtomStep.writes_run 2000000 hK x1[i] (hx _ (List.getElem_mem hil))
      have hswl := swr_len x1[i]
      have hcl := cm_len x1[i].2.1 (swr x1[i]) es
      refine ⟨(((i + 1 : Nat) : Int), cm x1[i].2.1 es (swr x1[i]), cm x1[i].2.1 es (swr x1[i]), fg (cm (IntKind.wrap .u32 (x1[i].2.1.tdiv 2)) e3 (hws [] 1)) ((x2.take 5).map hk)), ?_, rfl, rfl, cm_small hsm (swr_small _), by show (cm x1[i].2.1 es (swr x1[i])).length ≤ _; omega⟩
      unfold L5_16
      simp only [ixn, List.getElem?_eq_getElem hil, Option.bind_some]
      rw [condT (by omega), decide_eq_true (by omega : (i : Int) < 20), Option.bind_some, cond_true, hwr, Option.bind_some, commit1_run _ _ _ _ (by omega) (by omega), Option.bind_some, show F9 2000000 ([] : List Sm) 1 = _ from hw0, Option.bind_some, commit1_run _ _ _ _ (by omega) (by omega), Option.bind_some,
        show F12 2000000 x2 5 = _ from hk2, Option.bind_some, forget_run _ _ _ (by omega) (by omega), Option.bind_some, Option.bind_some, commit1_run _ _ _ _ (by omega) (by omega), Option.bind_some, w64 (by omega) (by omega)]; rfl
    · obtain ⟨n, es, e2, e3⟩ := s
      obtain ⟨rfl, he, hsm, hlen⟩ := hs
      dsimp only at he hsm hlen
      subst he
      refine ⟨(es, es, e3), ?_, es, e3, rfl, hsm, by omega⟩
      unfold L5_16
      dsimp only
      by_cases h : min 20 x1.length < x1.length
      · rw [condT (by omega), decide_eq_false (by omega)]; rfl
      · rw [condF (by omega)]; rfl
  obtain ⟨es, e3, h1, h2, h3⟩ := hloop
  have hkl : (kys es).length ≤ es.length := by
    unfold kys
    have := srt_len (es.map (·.1))
    rwa [List.length_map] at this
  have hks : Small (kys es) := fun k hk => h2 k ((srt_mem _ _).1 hk)
  have hid : srt (kys es) = kys es := PSort.sorted_uniq (srt_sorted _) (srt_sorted _) fun x => srt_mem _ _
  unfold F5 F6
  rw [Option.bind_some, Option.bind_some, Option.bind_some, alive _ hK, Option.bind_some, Bool.not_true, cond_false, Option.bind_some, cond_false, h1, Option.bind_some]
  dsimp only
  rw [PAtomKeys.keys_run _ hK es h2 (by omega), Option.bind_some, Option.bind_some]
  dsimp only
  rw [PBook.same_run _ _ (by omega) (by omega), Option.bind_some, cond_true]
  rw [get_run _ _ _ (by omega) (by omega), Option.bind_some, Option.bind_some, same3 _ _ (by rw [List.length_map]; omega) hK, Option.bind_some, cond_true]
  rw [ks_run _ hK hks (by omega), Option.bind_some, hid, PBook.same_run _ _ (by omega) (by omega)]; rfl
end Go.Proofs.YtfdglmgblmoakaaDoor.PureAtomApart
