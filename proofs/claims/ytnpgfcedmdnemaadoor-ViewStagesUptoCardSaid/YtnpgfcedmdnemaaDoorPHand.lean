/- What the hand's functions compute: Pick, Key, Keys, Val, Writes. -/
import Derived.Test.YtnpgfcedmdnemaaDoorPMkR
import Derived.Test.YtnpgfcedmdnemaaDoorPBook
namespace Go.Proofs.YtnpgfcedmdnemaaDoor.PHand
open Go.RowKit Go.Proofs.YtnpgfcedmdnemaaDoor.Mc Go.Proofs.YtnpgfcedmdnemaaDoor.N Go.Proofs.YtnpgfcedmdnemaaDoor.Plain Go.Proofs.YtnpgfcedmdnemaaDoor.PureKeys Go.Proofs.YtnpgfcedmdnemaaDoor.PBatch1 Go.Proofs.YtnpgfcedmdnemaaDoor.PMk Go.Proofs.YtnpgfcedmdnemaaDoor.PMkR
open Go.Proofs.YtnpgfcedmdnemaaDoor.PBook (short short_size short_run)
set_option linter.unusedSimpArgs false
set_option linter.unusedVariables false
/-- a write, raw -/
abbrev Sm : Type := Int × Bool × ByteArray
theorem pick_run (K : Nat) (n m : Int) (h0 : 0 < m) (h1 : m ≤ 1000000) : F24 K n m = some (n % m) := by
  have ha := Int.tmod_lt_of_pos n h0
  have hb : -m < n.tmod m := by
    rcases Int.le_total 0 n with h | h
    · have := Int.tmod_nonneg m h; omega
    · have := Int.tmod_lt_of_pos (-n) h0
      rw [Int.neg_tmod] at this
      omega
  unfold F24
  rw [grdT (by rw [bne_iff_ne]; omega), ← tmod_emod h0]
  by_cases h : n.tmod m < 0
  · rw [condT h, if_pos h, Option.bind_some, w64 (by omega) (by omega)]
  · rw [condF h, if_neg h, Option.bind_some]
/-- one of few keys -/
def hk (n : Int) : ByteArray := namesT.getD (n % 12).toNat ⟨#[]⟩
theorem hk_mem (n : Int) : hk n ∈ namesT := by
  have h1 := Int.emod_nonneg n (show (12 : Int) ≠ 0 by omega)
  have h2 := Int.emod_lt_of_pos n (show (0 : Int) < 12 by omega)
  unfold hk
  have hl : (n % 12).toNat < namesT.length := by show _ < 12; omega
  rw [List.getD_eq_getElem?_getD, List.getElem?_eq_getElem hl]
  exact List.getElem_mem hl
theorem names_small : ∀ s ∈ namesT, s.size ≤ 4 := by decide +kernel
theorem hk_size (n : Int) : (hk n).size ≤ 4 := names_small _ (hk_mem n)
theorem key_run (K : Nat) (n : Int) : F11 K n = some (hk n) := by
  have h1 := Int.emod_nonneg n (show (12 : Int) ≠ 0 by omega)
  have h2 := Int.emod_lt_of_pos n (show (0 : Int) < 12 by omega)
  unfold F11
  rw [pick_run K n 12 (by omega) (by omega), Option.bind_some]
  have hl : (n % 12).toNat < namesT.length := by show _ < 12; omega
  obtain ⟨m, hm⟩ : ∃ m : Nat, n % 12 = (m : Int) := ⟨(n % 12).toNat, by omega⟩
  unfold hk
  rw [hm, ixn, Int.toNat_natCast]
  rw [hm, Int.toNat_natCast] at hl
  rw [List.getD_eq_getElem?_getD, List.getElem?_eq_getElem hl]; rfl
def fil : ByteArray := strOfNums (List.replicate 40 120)
theorem fill_run (K : Nat) (hK : 100 ≤ K) : F32 K 120 40 = some fil := by
  obtain ⟨k, rfl⟩ : ∃ k, K = k + 100 := ⟨K - 100, by omega⟩
  kernel_rfl
/-- a value -/
def hv (s : ByteArray) (n : Int) : ByteArray := short (if n % 9 = 8 then s ++ fil else s) 48
theorem hv_size (s : ByteArray) (n : Int) : (hv s n).size ≤ 48 := short_size _ _
theorem val_run (K : Nat) (hK : 100 ≤ K) (s : ByteArray) (n : Int) (hs : s.size ≤ 1000000000) : F12 K s n = some (hv s n) := by
  have hf : fil.size = 40 := by decide +kernel
  unfold F12 hv
  rw [pick_run K n 9 (by omega) (by omega), Option.bind_some, fill_run K hK, Option.bind_some]
  by_cases h : n % 9 = 8
  · rw [if_pos h, beq_iff_eq.2 h, cond_true, grdD (by omega), Option.bind_some, show F33 K (s ++ fil) 48 = _ from short_run K (s ++ fil) 48]; rfl
  · rw [if_neg h, beq_eq_false_iff_ne.2 h, cond_false, Option.bind_some, show F33 K s 48 = _ from short_run K s 48]; rfl
def hw1 (x : Sm) : Wr := (hk x.1, x.2.1, if x.2.1 then ByteArray.empty else hv x.2.2 (IntKind.wrap .i64 (x.1.tdiv 12)))
/-- a batch that may be -/
def hwl (l : List Sm) (m : Nat) : List Wr := if ((l.take m).map hw1).isEmpty then [((⟨#[97]⟩ : ByteArray), false, (⟨#[49]⟩ : ByteArray))] else (l.take m).map hw1
noncomputable def hws (l : List Sm) (m : Nat) : List Wr := mk (hwl l m)
theorem hwl_small (l : List Sm) (m : Nat) : ∀ w ∈ hwl l m, w.1.size ≤ 4 ∧ w.2.2.size ≤ 48 := by
  intro w hw
  unfold hwl at hw
  split at hw
  · rw [List.mem_singleton] at hw
    subst hw
    exact ⟨by decide, by decide⟩
  · obtain ⟨x, _, rfl⟩ := List.mem_map.1 hw
    unfold hw1
    refine ⟨hk_size _, ?_⟩
    dsimp only
    split
    · exact Nat.zero_le _
    · exact hv_size _ _
theorem hwl_len (l : List Sm) (m : Nat) (hm : 1 ≤ m) : (hwl l m).length ≤ m := by
  unfold hwl
  split
  · simpa using hm
  · rw [List.length_map, List.length_take]; omega
theorem hws_len (l : List Sm) (m : Nat) (hm : 1 ≤ m) : (hws l m).length ≤ m := Nat.le_trans (mk_len _) (hwl_len l m hm)
theorem hws_small (l : List Sm) (m : Nat) : ∀ w ∈ hws l m, w.1.size ≤ 4 ∧ w.2.2.size ≤ 48 := by
  intro w hw
  obtain ⟨v, hv, rfl⟩ := mk_mem hw
  exact ⟨(hwl_small l m v hv).1, cond_size (hwl_small l m v hv).2⟩
end Go.Proofs.YtnpgfcedmdnemaaDoor.PHand
