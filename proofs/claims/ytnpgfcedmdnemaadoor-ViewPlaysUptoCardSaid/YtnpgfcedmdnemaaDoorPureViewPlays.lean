/- ViewPlays' plain law. -/
import Derived.Test.YtnpgfcedmdnemaaDoorPViewRun
namespace Go.Proofs.YtnpgfcedmdnemaaDoor.PureViewPlays
open Go.RowKit Go.Proofs.YtnpgfcedmdnemaaDoor.Mc Go.Proofs.YtnpgfcedmdnemaaDoor.N Go.Proofs.YtnpgfcedmdnemaaDoor.Plain Go.Proofs.YtnpgfcedmdnemaaDoor.PureRune Go.Proofs.YtnpgfcedmdnemaaDoor.PureKeys Go.Proofs.YtnpgfcedmdnemaaDoor.PBatch1 Go.Proofs.YtnpgfcedmdnemaaDoor.PMk Go.Proofs.YtnpgfcedmdnemaaDoor.PView Go.Proofs.YtnpgfcedmdnemaaDoor.PViewRef Go.Proofs.YtnpgfcedmdnemaaDoor.PNote Go.Proofs.YtnpgfcedmdnemaaDoor.PViewRun
open Go.Proofs.YtnpgfcedmdnemaaDoor.PFd (fdn fo reffind_run)
open Go.Proofs.YtnpgfcedmdnemaaDoor.PHand (hk hk_size key_run pick_run)
open Go.Proofs.YtnpgfcedmdnemaaDoor.PBook (short short_run)
set_option linter.unusedSimpArgs false
set_option linter.unusedVariables false
/-- a step, raw -/
abbrev Stp : Type := Int × Int × ByteArray × ByteArray × List Aw × Int × Bool
theorem key_ex (K : Nat) (x : Stp) (hx : x.2.2.1.size ≤ 1048576) : ∃ key, F26 K x.1 x.2.1 x.2.2.1 x.2.2.2.1 x.2.2.2.2.1 x.2.2.2.2.2.1 x.2.2.2.2.2.2 = some key ∧ key.size ≤ 1048576 := by
  unfold F26
  cases x.2.2.2.2.2.2 with
  | false => exact ⟨x.2.2.1, rfl, hx⟩
  | true =>
    rw [Bool.not_true, cond_false]
    cases x.2.1.tmod 5 == 0 with
    | true =>
      rw [cond_true, pick_run K _ 26 (by omega) (by omega), Option.bind_some]
      exact ⟨_, rfl, by show ([_] : List UInt8).toArray.size ≤ _; simp⟩
    | false =>
      rw [cond_false, key_run, Option.bind_some]
      exact ⟨_, rfl, by have := hk_size x.2.1; omega⟩
theorem answers_ex (K : Nat) (hK : 2000000 ≤ K) (x : Stp) : ∃ l, F28 K x.1 x.2.1 x.2.2.1 x.2.2.2.1 x.2.2.2.2.1 x.2.2.2.2.2.1 x.2.2.2.2.2.2 = some l ∧ l.length ≤ 12 := by
  obtain ⟨l, h1, h2⟩ : ∃ l, loopN (L28_8 K x.2.1 x.2.2.2.2.1 x.2.2.2.2.2.2) K (0, ([] : List Aw)) = some l ∧ l.length ≤ 12 := by
    refine loop_inv (f := L28_8 K x.2.1 x.2.2.2.2.1 x.2.2.2.2.2.2) (a := (0, ([] : List Aw))) (k := K) (fun i s => s.1 = (i : Int) ∧ s.2.length = i) (fun l => l.length ≤ 12) (min 12 x.2.2.2.2.1.length) ⟨rfl, rfl⟩ (by omega) (fun i s hi hs => ?_) (fun s hs => ?_)
    · obtain ⟨n, S⟩ := s
      obtain ⟨rfl, hS⟩ := hs
      dsimp only at hS
      have hil : i < x.2.2.2.2.1.length := by omega
      obtain ⟨a, ha⟩ : ∃ a : Aw, ((cond x.2.2.2.2.2.2 ((F24 K (IntKind.wrap .i64 (x.2.1 + (IntKind.wrap .i64 (7 * (i : Int))))) 26).bind fun y44 => some ((strOfNums [(IntKind.wrap .u8 (97 + (IntKind.wrap .u8 y44))), (IntKind.wrap .u8 (IntKind.wrap .i64 (48 + ((i : Int).tmod 4))))]), x.2.2.2.2.1[i].2.1, short x.2.2.2.2.1[i].2.2.1 30, x.2.2.2.2.1[i].2.2.2)) (some (short x.2.2.2.2.1[i].1 30, x.2.2.2.2.1[i].2.1, short x.2.2.2.2.1[i].2.2.1 30, x.2.2.2.2.1[i].2.2.2))) : Option Aw) = some a := by
        cases x.2.2.2.2.2.2 with
        | true => rw [cond_true, pick_run K _ 26 (by omega) (by omega)]; exact ⟨_, rfl⟩
        | false => exact ⟨_, rfl⟩
      refine ⟨(((i + 1 : Nat) : Int), S ++ [a]), ?_, rfl, by simp [hS]⟩
      unfold L28_8
      dsimp only
      simp only [ixn, List.getElem?_eq_getElem hil, Option.bind_some]
      rw [condT (by omega), decide_eq_true (by omega : (i : Int) < 12), Option.bind_some, cond_true, show F33 K x.2.2.2.2.1[i].1 30 = _ from short_run K _ 30, Option.bind_some, show F33 K x.2.2.2.2.1[i].2.2.1 30 = _ from short_run K _ 30, Option.bind_some, ha, Option.bind_some, grdD (by simp only [List.length_singleton]; omega), w64 (by omega) (by omega)]; rfl
    · obtain ⟨n, S⟩ := s
      obtain ⟨rfl, hS⟩ := hs
      dsimp only at hS
      refine ⟨S, ?_, by omega⟩
      unfold L28_8
      dsimp only
      by_cases h : min 12 x.2.2.2.2.1.length < x.2.2.2.2.1.length
      · rw [condT (by omega), decide_eq_false (by omega)]; rfl
      · rw [condF (by omega)]; rfl
  unfold F28
  rw [h1]
  exact ⟨l, rfl, h2⟩
theorem sameReads_run (K : Nat) (R : List Rd) (hR : R.length ≤ 1000) (hK : 300000 ≤ K) : F23 K R R = some true := by
  unfold F23
  rw [bne_self_eq_false, cond_false, loop_go (r := .inr ()) (fun i => (i : Int)) R.length (by rfl) (by omega) ?_ ?_]
  · rfl
  · intro i hi
    unfold L23_14
    rw [condT (by omega)]
    simp only [ixn, Int.toNat_natCast, List.getElem?_eq_getElem hi, Option.bind_some, beq_self_eq_true, Bool.and_self, Bool.not_true, cond_false]
    rw [w64 (by omega) (by omega)]; rfl
  · unfold L23_14
    rw [condF (by omega)]
def Inv (i : Nat) (s : Int × List Rd × List Wr × List Rd × List Wr) : Prop := s.1 = (i : Int) ∧ s.2.2.2.1 = s.2.1 ∧ s.2.2.1 = mk s.2.2.2.2 ∧ Ok s.2.2.2.2 ∧ (s.2.1.map (·.1)).Nodup ∧ s.2.1.length ≤ 48
theorem law (x1 : List Stp) (g : gdT [.sl (.int .i64 (.int .i64 (.str (.str (.sl (.str (.bool (.str (.int .u32 .nil)))) (.int .u32 (.bool .nil)))))))] x1) (b : blkT [.sl (.int .i64 (.int .i64 (.str (.str (.sl (.str (.bool (.str (.int .u32 .nil)))) (.int .u32 (.bool .nil)))))))] x1 ≤ 1048576) : ∃ k, F7 k x1 = some true := by
  refine ⟨2000000, ?_⟩
  have hK : 2000000 ≤ 2000000 := Nat.le_refl _
  have b' : (x1.map fun z : Stp => (z.2.2.1.size + (z.2.2.2.1.size + ((z.2.2.2.2.1.map fun y : Aw => (y.1.size + (y.2.2.1.size + 0)) + 1).sum + 0))) + 1).sum ≤ 1048576 := b
  have sum_mem : ∀ (ns : List Nat) (n : Nat), n ∈ ns → n ≤ ns.sum := fun ns => by
    induction ns with
    | nil => intro n h; simp at h
    | cons m ns ih =>
      intro n h
      rw [List.sum_cons]
      rcases List.mem_cons.1 h with rfl | h
      · omega
      · have := ih n h; omega
  have hx : ∀ x ∈ x1, x.2.2.1.size ≤ 1048576 := fun x hx => by
    have := sum_mem _ _ (List.mem_map.2 ⟨x, hx, rfl⟩ : _ ∈ x1.map fun z : Stp => (z.2.2.1.size + (z.2.2.2.1.size + ((z.2.2.2.2.1.map fun y : Aw => (y.1.size + (y.2.2.1.size + 0)) + 1).sum + 0))) + 1)
    omega
  have hloop : ∃ r, loopN (L7_18 2000000 x1) 2000000 (0, ([] : List Rd), ([] : List Wr), ([] : List Rd), ([] : List Wr)) = some r ∧ ∃ q, r = .inr q := by
    refine loop_inv (f := L7_18 2000000 x1) (a := (0, ([] : List Rd), ([] : List Wr), ([] : List Rd), ([] : List Wr))) (k := 2000000) Inv (fun r => ∃ q, r = .inr q) (min 60 x1.length) ⟨rfl, rfl, (List.eq_nil_of_length_eq_zero (Nat.le_zero.1 (mk_len []))).symm, ⟨List.nodup_nil, fun w hw => by simp at hw, fun w hw => by simp at hw, Nat.zero_le _⟩, List.nodup_nil, Nat.zero_le _⟩ (by omega) (fun i s hi hs => ?_) (fun s hs => ?_)
    · obtain ⟨n, R0, RW, R, W⟩ := s
      obtain ⟨rfl, hRR, hRW, hok, hnd, hlen⟩ := hs
      dsimp only at hRR hRW hok hnd hlen
      subst hRR hRW
      have hil : i < x1.length := by omega
      obtain ⟨key, hkey, hks⟩ := key_ex 2000000 x1[i] (hx _ (List.getElem_mem hil))
      obtain ⟨an, has, hal⟩ := answers_ex 2000000 hK x1[i]
      have h8 := hok.len
      -- the round's end, whatever the call
      have fin : ∀ (e : Int) (R2 : List Rd) (W2 : List Wr), Ok W2 → (R2.map (·.1)).Nodup → R2.length ≤ 48 →
          ∃ b, (((cond (e != e) (some true) ((F18 2000000 R2 W2).bind fun y282 => (F17_2 2000000 (mk W2) y282).bind fun y283 => cond (!y283) (some true) ((F22 2000000 R2 W2).bind fun y284 => (F23 2000000 R2 y284).bind fun y285 => some (!y285))) : Option Bool)).bind fun y286 =>
            cond y286 (some (.inr (.inl (R2, mk W2, R2, W2)))) (some (.inl ((IntKind.wrap .i64 ((i : Int) + 1)), R2, mk W2, R2, W2))) : Option ((Int × List Rd × List Wr × List Rd × List Wr) ⊕ ((List Rd × List Wr × List Rd × List Wr) ⊕ (List Rd × List Wr × List Rd × List Wr)))) = some (.inl b) ∧ Inv (i + 1) b := by
        intro e R2 W2 ho hn hl
        have hml := mk_len W2
        have hl8 := ho.len
        refine ⟨(((i + 1 : Nat) : Int), R2, mk W2, R2, W2), ?_, rfl, rfl, rfl, ho, hn, hl⟩
        rw [bne_self_eq_false, cond_false, staged_run _ hK _ _ ho.small (by omega), Option.bind_some, PBook.sameW2_run _ _ (by omega) (by omega), Option.bind_some, Bool.not_true, cond_false, readsOf_run _ _ _ (by omega), Option.bind_some, sameReads_run _ _ (by omega) (by omega), Option.bind_some, Option.bind_some, Bool.not_true, cond_false, w64 (by omega) (by omega)]; rfl
      unfold L7_18
      dsimp only
      rw [condT (by omega), decide_eq_true (by omega : (i : Int) < 60), Option.bind_some, cond_true, ixn, List.getElem?_eq_getElem hil, Option.bind_some, pick_run _ _ 9 (by omega) (by omega), Option.bind_some]
      by_cases h45 : x1[i].1 % 9 = 4 ∨ x1[i].1 % 9 = 5
      · have e45 : ((cond (x1[i].1 % 9 == 4) (some (x1[i].1 % 9 == 4)) (some (x1[i].1 % 9 == 5))) : Option Bool) = some true := by
          rcases h45 with h | h <;> rw [h] <;> rfl
        rw [e45, Option.bind_some, cond_true, hkey, Option.bind_some, del_run _ hK _ _ _ (by omega), Option.bind_some, Option.bind_some, refdel_run _ hK _ _ _ hks hok.nd hok.clean hok.small h8, Option.bind_some, Option.bind_some]
        exact fin (stage W (key, true, ByteArray.empty)).1 R (stage W (key, true, ByteArray.empty)).2 (ok_stage hok fun _ => rfl) hnd hlen
      · have e45 : ((cond (x1[i].1 % 9 == 4) (some (x1[i].1 % 9 == 4)) (some (x1[i].1 % 9 == 5))) : Option Bool) = some false := by
          rw [beq_eq_false_iff_ne.2 (fun e => h45 (.inl e)), cond_false, beq_eq_false_iff_ne.2 (fun e => h45 (.inr e))]
        rw [e45, Option.bind_some, cond_false]
        by_cases h67 : x1[i].1 % 9 = 6 ∨ x1[i].1 % 9 = 7
        · have e67 : ((cond (x1[i].1 % 9 == 6) (some (x1[i].1 % 9 == 6)) (some (x1[i].1 % 9 == 7))) : Option Bool) = some true := by
            rcases h67 with h | h <;> rw [h] <;> rfl
          rw [e67, Option.bind_some, cond_true, has, Option.bind_some, note_run _ (by omega) _ _ _ _ (by omega) (by omega), Option.bind_some, Option.bind_some, refnote_run _ (by omega) _ _ _ _ (by omega) (by omega) hnd, Option.bind_some, Option.bind_some]
          by_cases hbig : 48 < (nt x1[i].2.2.2.2.2.1 R an).length
          · rw [if_pos hbig, if_pos hbig]
            exact fin 12 R W hok hnd hlen
          · rw [if_neg hbig, if_neg hbig]
            exact fin 0 (nt x1[i].2.2.2.2.2.1 R an) W hok (nt_keys _ _ _ hnd) (by omega)
        · have e67 : ((cond (x1[i].1 % 9 == 6) (some (x1[i].1 % 9 == 6)) (some (x1[i].1 % 9 == 7))) : Option Bool) = some false := by
            rw [beq_eq_false_iff_ne.2 (fun e => h67 (.inl e)), cond_false, beq_eq_false_iff_ne.2 (fun e => h67 (.inr e))]
          rw [e67, Option.bind_some, cond_false]
          by_cases h8' : x1[i].1 % 9 = 8
          · rw [beq_iff_eq.2 h8', cond_true, hkey, Option.bind_some, look_run _ hK _ _ _ (by omega), Option.bind_some, Option.bind_some]
            have hml := mk_len W
            rw [reffind_run _ _ _ (by omega) hK, Option.bind_some, mk_says hok.clean key]
            have e : ∀ q : ByteArray × Bool × ByteArray × Bool, ((cond (!((q.1.toList == q.1.toList) && ((q.2.1 == q.2.1) && ((q.2.2.1.toList == q.2.2.1.toList) && true)))) (some true) (some (!(q.2.2.2 == q.2.2.2)))) : Option Bool) = some false := fun q => by simp
            rw [e, Option.bind_some, cond_false, Option.bind_some]
            exact fin 0 R W hok hnd hlen
          · rw [beq_eq_false_iff_ne.2 h8', cond_false, hkey, Option.bind_some, put_run _ hK _ _ _ _ (by omega), Option.bind_some, Option.bind_some, refput_run _ hK _ _ _ _ hks hok.nd hok.clean hok.small h8, Option.bind_some, Option.bind_some]
            exact fin (stage W (key, false, x1[i].2.2.2.1)).1 R (stage W (key, false, x1[i].2.2.2.1)).2 (ok_stage hok fun h => by cases h) hnd hlen
    · obtain ⟨n, R, RW, RR, W⟩ := s
      obtain ⟨rfl, _⟩ := hs
      refine ⟨.inr (R, RW, RR, W), ?_, _, rfl⟩
      unfold L7_18
      dsimp only
      by_cases h : min 60 x1.length < x1.length
      · rw [condT (by omega), decide_eq_false (by omega)]; rfl
      · rw [condF (by omega)]; rfl
  obtain ⟨r, h1, q, rfl⟩ := hloop
  unfold F7 F9
  rw [Option.bind_some, PView.alive _ hK, Option.bind_some]
  simp only [Bool.not_true, cond_false, Option.bind_some]
  rw [h1]; rfl
end Go.Proofs.YtnpgfcedmdnemaaDoor.PureViewPlays
