/- What a view's Note and Reads compute, and the reference's calls. -/
import Derived.Test.YtnpgfcedmdnemaaDoorPViewRef
import Derived.Test.YtnpgfcedmdnemaaDoorPMkR1
namespace Go.Proofs.YtnpgfcedmdnemaaDoor.PViewRun
open Go.RowKit Go.Proofs.YtnpgfcedmdnemaaDoor.Mc Go.Proofs.YtnpgfcedmdnemaaDoor.N Go.Proofs.YtnpgfcedmdnemaaDoor.Plain Go.Proofs.YtnpgfcedmdnemaaDoor.PureRune Go.Proofs.YtnpgfcedmdnemaaDoor.PureKeys Go.Proofs.YtnpgfcedmdnemaaDoor.PBatch1 Go.Proofs.YtnpgfcedmdnemaaDoor.PMk Go.Proofs.YtnpgfcedmdnemaaDoor.PMkR Go.Proofs.YtnpgfcedmdnemaaDoor.PMkR1 Go.Proofs.YtnpgfcedmdnemaaDoor.PView Go.Proofs.YtnpgfcedmdnemaaDoor.PViewRef Go.Proofs.YtnpgfcedmdnemaaDoor.PNote
open Go.Proofs.YtnpgfcedmdnemaaDoor.PFd (fdn fo fdn_some fdn_snoc beq_ba reffind_run)
open Go.Proofs.YtnpgfcedmdnemaaDoor.PHand (hk hk_mem hk_size key_run pick_run)
open Go.Proofs.YtnpgfcedmdnemaaDoor.PBook (short short_size short_run)
set_option linter.unusedSimpArgs false
set_option linter.unusedVariables false
theorem note_run (K : Nat) (hK : 300000 ≤ K) (l : List Aw) (fg : Int) (R : List Rd) (W : List PBatch1.Wr) (hl : l.length ≤ 100000) (hR : R.length ≤ 100000) : F21 K fg R l W = some (if 48 < (nt fg R l).length then (12, R) else (0, nt fg R l)) := by
  unfold F21
  rw [clone_run K R (by omega), Option.bind_some, note_run1 K l fg R hl hR hK (fun i hi S hS => ?_) (fun S => ?_), Option.bind_some]
  · by_cases h : 48 < (nt fg R l).length
    · rw [condT (by omega), if_pos h]
    · rw [condF (by omega), if_neg h]
  · unfold L21_16
    dsimp only
    rw [condT (by omega)]
    simp only [ixn, Int.toNat_natCast, List.getElem?_eq_getElem hi, Option.bind_some]
    rw [idxR K S l[i].1 _ _ _ (by omega) (by omega), Option.bind_some, w64 (by omega) (by omega)]
    have := body S l[i] fg i (by omega) hS
    unfold ki at this
    rw [this]; rfl
  · unfold L21_16
    dsimp only
    rw [condF (by omega)]
theorem readsOf_run (K : Nat) (R : List Rd) (W : List PBatch1.Wr) (hR : R.length ≤ 1000000) : F22 K R W = some R := by
  unfold F22
  rw [clone_run K R hR]; rfl
theorem look_run (K : Nat) (hK : 2000000 ≤ K) (key : ByteArray) (R : List Rd) (W : List Wr) (hl : W.length ≤ 1000000) : F30 K key R W = some (fo (fdn W key W.length)) := by
  unfold F30
  rw [PMkO.find_run K W key hl hK]; rfl
/-! the reference's Note -/
theorem inner (K : Nat) (l : List Aw) (i : Nat) (hi : i < l.length) (R0 R : List Rd) (f : Int) (hR : R.length ≤ 200000) (hK : 300000 ≤ K) (hu : (R.map (·.1)).Nodup) :
    loopN (L29_23 K l ((i : Int), R0)) K (false, 0, R) = some (match ki R l[i].1 with | none => (false, R) | some _ => (true, n1 f R l[i])) := by
  have step : ∀ (S : List Rd) (b : Bool) (j : Nat) (hj : j < S.length), S.length ≤ 200000 → L29_23 K l ((i : Int), R0) (b, (j : Int), S) = some (.inl (if S[j].1 = l[i].1 then (true, ((j + 1 : Nat) : Int), if S[j].2.1 = l[i].2.2.2 then S else S.set j (S[j].1, 4294967295, S[j].2.2)) else (b, ((j + 1 : Nat) : Int), S))) := by
    intro S b j hj hS
    unfold L29_23
    dsimp only
    rw [condT (by omega)]
    simp only [ixn, Int.toNat_natCast, List.getElem?_eq_getElem hj, List.getElem?_eq_getElem hi, Option.bind_some, beq_ba]
    rw [w64 (by omega) (by omega)]
    by_cases he : S[j].1 = l[i].1
    · rw [decide_eq_true he, Bool.not_true, cond_false, if_pos he]
      by_cases hv : S[j].2.1 = l[i].2.2.2
      · rw [if_pos hv, bne_eq_false_iff_eq.2 hv]; rfl
      · rw [if_neg hv, bne_iff_ne.2 hv]; rfl
    · rw [decide_eq_false he, Bool.not_false, cond_true, if_neg he]; rfl
  have fin : ∀ (S : List Rd) (b : Bool), L29_23 K l ((i : Int), R0) (b, (S.length : Int), S) = some (.inr (b, S)) := by
    intro S b
    unfold L29_23
    dsimp only
    rw [condF (by omega)]
  cases hk : ki R l[i].1 with
  | none =>
    refine loop_go (fun j => (false, (j : Int), R)) R.length rfl (by omega) (fun j hj => ?_) (fin R false)
    rw [step R false j hj hR, if_neg (ki_none hk _ (List.getElem_mem hj))]
  | some q =>
    obtain ⟨hq, he⟩ := ki_some hk
    have hlen : (n1 f R l[i]).length = R.length := by
      have := congrArg List.length (n1_keys f R l[i])
      rw [hk] at this
      simpa using this
    have hkeys : (n1 f R l[i]).map (·.1) = R.map (·.1) := by rw [n1_keys, hk]; rfl
    have huq : ∀ j (hj : j < R.length), R[j].1 = l[i].1 → j = q := by
      intro j hj h
      have h2 : (R.map (·.1))[j]'(by simpa using hj) = (R.map (·.1))[q]'(by simpa using hq) := by simp [h, he]
      have hh := List.pairwise_iff_getElem.1 hu
      rcases Nat.lt_trichotomy j q with h3 | h3 | h3
      · exact absurd h2 (hh j q _ _ h3)
      · exact h3
      · exact absurd h2.symm (hh q j _ _ h3)
    refine loop_go (fun j => if j ≤ q then (false, (j : Int), R) else (true, (j : Int), n1 f R l[i])) R.length (by simp) (by omega) (fun j hj => ?_) ?_
    · by_cases h1 : j < q
      · rw [if_pos (by omega), if_pos (by omega), step R false j hj hR, if_neg (fun h => by have := huq j hj h; omega)]
      · by_cases h2 : j = q
        · subst h2
          rw [if_pos (by omega), if_neg (by omega), step R false j hj hR, if_pos he]
          unfold n1
          rw [hk]
          dsimp only
          rw [List.getElem?_eq_getElem hj]
        · rw [if_neg (by omega), if_neg (by omega), step _ true j (by omega) (by omega), if_neg (fun h => h2 ?_)]
          refine huq j hj ?_
          rw [← h]
          have e1 : R[j].1 = (R.map (·.1))[j]'(by simpa using hj) := by simp
          have e2 : ((n1 f R l[i])[j]'(by omega)).1 = ((n1 f R l[i]).map (·.1))[j]'(by simpa using (by omega)) := by simp
          rw [e1, e2]
          simp only [hkeys]
    · dsimp only
      rw [if_neg (by omega), ← hlen]
      exact fin _ true
theorem refnote_run (K : Nat) (hK : 300000 ≤ K) (l : List Aw) (fg : Int) (R : List Rd) (W : List Wr) (hl : l.length ≤ 1000) (hR : R.length ≤ 1000) (hu : (R.map (·.1)).Nodup) : F29 K fg W R l = some (if 48 < (nt fg R l).length then (12, W, R) else (0, W, nt fg R l)) := by
  unfold F29
  rw [grdD (by simp only [List.length_nil]; omega), List.nil_append, loop_go (r := nt fg R l) (fun i => ((i : Int), nt fg R (l.take i))) l.length (by rfl) (by omega) ?_ ?_, Option.bind_some]
  · by_cases h : 48 < (nt fg R l).length
    · rw [condT (by omega), if_pos h]
    · rw [condF (by omega), if_neg h]
  · intro i hi
    have h1 := nt_len fg (l.take i) R
    rw [List.length_take] at h1
    have hu2 := nt_keys fg (l.take i) R hu
    unfold L29_8
    dsimp only
    rw [condT (by omega), inner K l i hi _ _ fg (by omega) hK hu2, Option.bind_some, PNote.take_snoc1 hi, nt_snoc, w64 (by omega) (by omega)]
    simp only [ixn, Int.toNat_natCast, List.getElem?_eq_getElem hi, Option.bind_some]
    cases hk : ki (nt fg R (l.take i)) l[i].1 with
    | none =>
      dsimp only
      rw [Bool.not_false, cond_true, grdD (by simp; omega), Option.bind_some]
      unfold n1
      rw [hk]; rfl
    | some q => rfl
  · unfold L29_8
    dsimp only
    rw [condF (by omega), List.take_length]
/-! the reference's Put and Del -/
theorem refstage_run (K : Nat) (hK : 2000000 ≤ K) (w : Wr) (W : List Wr) (R : List Rd) (hk : w.1.size ≤ 1048576) (hn : (kl W).Nodup) (hc : Clr W) (hs : Small2 W) (h8 : W.length ≤ 8) : F42 K w.1 w.2.1 w.2.2 (mk W) R = some ((stage W w).1, mk (stage W w).2, R) := by
  have hlen : (mk W).length = W.length := by
    have hp : (PMk.ks W).Perm (kl W) := by
      rw [List.perm_ext_iff_of_nodup ?_ hn]
      · exact fun x => PSorted.srt_mem _ _
      · exact (PSorted.srt_sorted _).imp fun {a b} hab => by
          rintro rfl
          rw [PSort.lt_irrefl] at hab; cases hab
    have h1 : (mk W).length = (PMk.ks W).length := by unfold mk; rw [List.length_map]
    rw [h1, hp.length_eq, kl_len]
  have hsay := mk_says hc
  unfold F42 stage
  rw [kref_run K hk hK, Option.bind_some]
  cases hkr : kr w.1 with
  | false => rw [Bool.not_false, cond_true, if_pos rfl]
  | true =>
    rw [Bool.not_true, cond_false, if_neg (by decide)]
    by_cases hv : 48 < w.2.2.size
    · rw [condT (by omega), if_pos hv]
    · rw [condF (by omega), if_neg hv, reffind_run K _ _ (by omega) hK, Option.bind_some, hsay w.1]
      have hnone := stg_none (W := W) (l := mk W) (w := w) hn (fun key => (hsay key).symm)
      have hkl : (PMk.ks (mk W)).length = (mk W).length := by
        have : PMk.ks (mk W) = PMk.ks W := PSorted.srt_uniq fun x => hsay.kl x
        rw [this, hlen]
        have h1 : (mk W).length = (PMk.ks W).length := by unfold mk; rw [List.length_map]
        omega
      rw [hkl, hsay w.1] at hnone
      cases hst : stg W w with
      | none =>
        obtain ⟨hf, hge⟩ := hnone.1 hst
        rw [hf]
        simp only [fo, Bool.not_false, cond_true, Option.bind_some]
        rw [condT (by omega)]
      | some V =>
        have hroom : ((cond (!(fo (fdn W w.1 W.length)).2.2.2) (some (decide (8 ≤ ((mk W).length : Int)))) (some false)) : Option Bool) = some false := by
          cases hf : fdn W w.1 W.length with
          | some v => rfl
          | none =>
            have : ¬ 8 ≤ (mk W).length := fun hge => by
              have := hnone.2 ⟨hf, hge⟩
              rw [hst] at this
              cases this
            have hd : decide (8 ≤ ((mk W).length : Int)) = false := decide_eq_false (by omega)
            rw [hd]; rfl
        rw [hroom, Option.bind_some, cond_false, grdD (by simp only [List.length_nil]; omega), grdD (by simp only [List.length_nil, List.nil_append, List.length_singleton]; omega), List.nil_append]
        have hsm : Small2 (mk W ++ [w]) := fun v hv' => by
          rcases List.mem_append.1 hv' with hv' | hv'
          · exact mk_small hs v hv'
          · rw [List.mem_singleton] at hv'
            subst hv'
            have := kr_size hkr
            exact ⟨by omega, by omega⟩
        have hm : mk (mk W ++ [w]) = mk V := by
          have h1 := hsay.snoc w
          have h2 := (stg_says hn (fun _ => rfl : Says W W) hst).2
          rw [h1.mk, h2.mk]
        rw [show (w.1, w.2.1, w.2.2) = w from rfl, refmake1_run K _ hsm (by simp; omega) hK, Option.bind_some, hm]
theorem refput_run (K : Nat) (hK : 2000000 ≤ K) (key val : ByteArray) (W : List Wr) (R : List Rd) (hk : key.size ≤ 1048576) (hn : (kl W).Nodup) (hc : Clr W) (hs : Small2 W) (h8 : W.length ≤ 8) : F31 K key val (mk W) R = some ((stage W (key, false, val)).1, mk (stage W (key, false, val)).2, R) := by
  unfold F31
  rw [refstage_run K hK (key, false, val) W R hk hn hc hs h8]; rfl
theorem refdel_run (K : Nat) (hK : 2000000 ≤ K) (key : ByteArray) (W : List Wr) (R : List Rd) (hk : key.size ≤ 1048576) (hn : (kl W).Nodup) (hc : Clr W) (hs : Small2 W) (h8 : W.length ≤ 8) : F27 K key (mk W) R = some ((stage W (key, true, ByteArray.empty)).1, mk (stage W (key, true, ByteArray.empty)).2, R) := by
  unfold F27
  rw [refstage_run K hK (key, true, ByteArray.empty) W R hk hn hc hs h8]; rfl
/-- what stays true of what is staged -/
structure Ok (W : List Wr) : Prop where
  nd : (kl W).Nodup
  clean : Clr W
  small : Small2 W
  len : W.length ≤ 8
theorem ok_stage {W : List Wr} {w : Wr} (h : Ok W) (hc : w.2.1 = true → w.2.2 = (⟨#[]⟩ : ByteArray)) : Ok (stage W w).2 := by
  unfold stage
  cases hkr : kr w.1 with
  | false => rw [if_pos rfl]; exact h
  | true =>
    rw [if_neg (by decide)]
    by_cases hv : 48 < w.2.2.size
    · rw [if_pos hv]; exact h
    · rw [if_neg hv]
      cases hst : stg W w with
      | none => exact h
      | some V =>
        have hsz := kr_size hkr
        refine ⟨(stg_says h.nd (fun _ => rfl : Says W W) hst).1, fun v hv' hd => ?_, fun v hv' => ?_, stg_len hst h.len⟩
        · rcases stg_mem hst hv' with rfl | hv'
          · exact hc hd
          · exact h.clean v hv' hd
        · rcases stg_mem hst hv' with rfl | hv'
          · exact ⟨by omega, by omega⟩
          · exact h.small v hv'
end Go.Proofs.YtnpgfcedmdnemaaDoor.PViewRun
