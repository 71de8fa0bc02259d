/- What a view's functions compute. -/
import Derived.Test.YtnpgfcedmdnemaaDoorPMkO
namespace Go.Proofs.YtnpgfcedmdnemaaDoor.PView
open Go.RowKit Go.Proofs.YtnpgfcedmdnemaaDoor.Mc Go.Proofs.YtnpgfcedmdnemaaDoor.N Go.Proofs.YtnpgfcedmdnemaaDoor.Plain Go.Proofs.YtnpgfcedmdnemaaDoor.PureRune Go.Proofs.YtnpgfcedmdnemaaDoor.PureKeys Go.Proofs.YtnpgfcedmdnemaaDoor.PSort Go.Proofs.YtnpgfcedmdnemaaDoor.PSorted Go.Proofs.YtnpgfcedmdnemaaDoor.PBatch1 Go.Proofs.YtnpgfcedmdnemaaDoor.PMk Go.Proofs.YtnpgfcedmdnemaaDoor.PMkO
open Go.Proofs.YtnpgfcedmdnemaaDoor.PFd (fdn fo fdn_some)
set_option linter.unusedSimpArgs false
set_option linter.unusedVariables false
/-- a read -/
abbrev Rd := ByteArray × Int × Int
/-- an answer -/
abbrev Aw := ByteArray × Bool × ByteArray × Int
def ixOf : Option Nat → Int | some i => (i : Int) | none => -1
/-- a search's loop -/
theorem find_run' {α : Type} {f : Int → Option (Int ⊕ (Int ⊕ Unit))} (l : List α) (p : α → Bool) (hf : ∀ (i : Nat) (h : i < l.length), f (i : Int) = cond (p l[i]) (some (.inr (.inl (i : Int)))) (some (.inl ((i + 1 : Nat) : Int)))) (he : f (l.length : Int) = some (.inr (.inr ()))) :
    ∀ (m i k : Nat), i + m = l.length → m < k → loopN f k (i : Int) = some (match (l.drop i).findIdx? p with | some j => .inl ((i + j : Nat) : Int) | none => .inr ())
  | 0, i, k, hi, hk => by
    obtain ⟨k, rfl⟩ : ∃ q, k = q + 1 := ⟨k - 1, by omega⟩
    have hil : i = l.length := by omega
    subst hil
    rw [loop_end he, List.drop_length]; rfl
  | m + 1, i, k, hi, hk => by
    obtain ⟨k, rfl⟩ : ∃ q, k = q + 1 := ⟨k - 1, by omega⟩
    have hil : i < l.length := by omega
    have h := hf i hil
    rw [List.drop_eq_getElem_cons hil, List.findIdx?_cons]
    cases hp : p l[i] with
    | true =>
      rw [hp] at h
      rw [loop_end (r := .inl (i : Int)) h]; rfl
    | false =>
      rw [hp] at h
      rw [loop_step h, find_run' l p hf he m (i + 1) k (by omega) (by omega)]
      simp only [Bool.false_eq_true, if_false]
      cases (l.drop (i + 1)).findIdx? p with
      | none => rfl
      | some j => simp only [Option.map_some]; rw [show i + 1 + j = i + (j + 1) by omega]
theorem idxW (K : Nat) (l : List Wr) (key : ByteArray) (d : Bool) (v : ByteArray) (hl : l.length ≤ 1000000) (hK : l.length < K) : F45 K l key d v = some (ixOf (l.findIdx? fun w => w.1.toList == key.toList)) := by
  unfold F45
  have := find_run' (f := L45_6 K l key d v) l (fun w => w.1.toList == key.toList) (fun i hi => by
    unfold L45_6 F46
    simp only [ixn, Int.toNat_natCast, List.getElem?_eq_getElem hi, Option.bind_some]
    rw [condT (by omega), w64 (by omega) (by omega)]; rfl) (by
    unfold L45_6
    rw [condF (by omega)]) l.length 0 K (by omega) hK
  rw [show (0 : Int) = ((0 : Nat) : Int) from rfl, this, Option.bind_some, List.drop_zero]
  cases l.findIdx? fun w => w.1.toList == key.toList with
  | none => rfl
  | some j => simp only [sel, ixOf, Nat.zero_add]
theorem idxR (K : Nat) (l : List Rd) (key : ByteArray) (d : Bool) (v : ByteArray) (n : Int) (hl : l.length ≤ 1000000) (hK : l.length < K) : F40_1 K l key d v n = some (ixOf (l.findIdx? fun w => w.1.toList == key.toList)) := by
  unfold F40_1
  have := find_run' (f := L40_1_6 K l key d v n) l (fun w => w.1.toList == key.toList) (fun i hi => by
    unfold L40_1_6 F41
    simp only [ixn, Int.toNat_natCast, List.getElem?_eq_getElem hi, Option.bind_some]
    rw [condT (by omega), w64 (by omega) (by omega)]; rfl) (by
    unfold L40_1_6
    rw [condF (by omega)]) l.length 0 K (by omega) hK
  rw [show (0 : Int) = ((0 : Nat) : Int) from rfl, this, Option.bind_some, List.drop_zero]
  cases l.findIdx? fun w => w.1.toList == key.toList with
  | none => rfl
  | some j => simp only [sel, ixOf, Nat.zero_add]
/-! staging -/
def stg (W : List Wr) (w : Wr) : Option (List Wr) :=
  match W.findIdx? fun v => v.1.toList == w.1.toList with
  | some i => some (W.set i w)
  | none => if 8 ≤ W.length then none else some (W ++ [w])
noncomputable def stage (W : List Wr) (w : Wr) : Int × List Wr :=
  if kr w.1 = false then (10, W) else if 48 < w.2.2.size then (11, W) else match stg W w with
    | some V => (0, V)
    | none => (12, W)
theorem idx_lt {α : Type} {p : α → Bool} {l : List α} {i : Nat} (h : l.findIdx? p = some i) : ∃ hi : i < l.length, p l[i] = true := by
  rw [List.findIdx?_eq_some_iff_getElem] at h
  obtain ⟨hi, hp, _⟩ := h
  exact ⟨hi, hp⟩
theorem stage_run (K : Nat) (hK : 2000000 ≤ K) (key val : ByteArray) (d : Bool) (R : List Rd) (W : List Wr) (hW : W.length ≤ 1000) : F34 K key d val R W = some ((stage W (key, d, val)).1, R, (stage W (key, d, val)).2) := by
  unfold F34 stage
  rw [kr_run K _ (by omega), Option.bind_some]
  dsimp only
  cases kr key with
  | false => rw [Bool.not_false, cond_true, if_pos rfl]
  | true =>
    rw [Bool.not_true, cond_false, if_neg (by decide)]
    by_cases hv : 48 < val.size
    · rw [condT (by omega), if_pos hv]
    · rw [condF (by omega), if_neg hv, idxW K W key d val (by omega) (by omega), Option.bind_some]
      unfold stg
      dsimp only
      cases hx : W.findIdx? fun v => v.1.toList == key.toList with
      | some i =>
        obtain ⟨hi, _⟩ := idx_lt hx
        rw [show ixOf (some i) = (i : Int) from rfl, condT (by omega)]
        simp only [ixn, Int.toNat_natCast, List.getElem?_eq_getElem hi, Option.bind_some, sel]
      | none =>
        rw [show ixOf none = (-1 : Int) from rfl, condF (by omega)]
        by_cases h8 : 8 ≤ W.length
        · rw [condT (by omega), if_pos h8]; rfl
        · rw [condF (by omega), if_neg h8, grdD (by simp; omega)]; rfl
theorem put_run (K : Nat) (hK : 2000000 ≤ K) (key val : ByteArray) (R : List Rd) (W : List Wr) (hW : W.length ≤ 1000) : F14 K key val R W = some ((stage W (key, false, val)).1, R, (stage W (key, false, val)).2) := by
  unfold F14
  rw [stage_run K hK key val false R W hW]; rfl
theorem del_run (K : Nat) (hK : 2000000 ≤ K) (key : ByteArray) (R : List Rd) (W : List Wr) (hW : W.length ≤ 1000) : F13 K key R W = some ((stage W (key, true, ByteArray.empty)).1, R, (stage W (key, true, ByteArray.empty)).2) := by
  unfold F13
  rw [stage_run K hK key _ true R W hW]; rfl
theorem staged_run (K : Nat) (hK : 2000000 ≤ K) (R : List Rd) (W : List Wr) (hs : Small2 W) (hW : W.length ≤ 1000) : F18 K R W = some (mk W) := by
  unfold F18
  rw [make_run K W hs (by omega) hK]; rfl
theorem kr_a : kr (⟨#[97]⟩ : ByteArray) = true := by
  have h := kr_run 100 (⟨#[97]⟩ : ByteArray) (by omega)
  have h2 : F44 100 (⟨#[97]⟩ : ByteArray) = some true := by kernel_rfl
  rw [h2] at h
  exact (Option.some.inj h).symm
theorem alive (K : Nat) (hK : 2000000 ≤ K) : F10 K = some true := by
  have hk : kr (⟨#[97]⟩ : ByteArray) = true := kr_a
  unfold F10 F9
  rw [Option.bind_some, put_run K hK _ _ _ _ (by simp), Option.bind_some]
  have e1 : stage ([] : List Wr) ((⟨#[97]⟩ : ByteArray), false, (⟨#[49]⟩ : ByteArray)) = (0, [((⟨#[97]⟩ : ByteArray), false, (⟨#[49]⟩ : ByteArray))]) := by
    unfold stage
    rw [if_neg (by dsimp only; rw [hk]; decide), if_neg (by decide)]; rfl
  dsimp only
  rw [e1, del_run K hK _ _ _ (by simp), Option.bind_some]
  have e2 : stage [((⟨#[97]⟩ : ByteArray), false, (⟨#[49]⟩ : ByteArray))] ((⟨#[97]⟩ : ByteArray), true, ByteArray.empty) = (0, [((⟨#[97]⟩ : ByteArray), true, ByteArray.empty)]) := by
    unfold stage
    rw [if_neg (by dsimp only; rw [hk]; decide), if_neg (by decide)]
    simp [stg, List.findIdx?_cons]
  dsimp only
  rw [e2]
  dsimp only
  have hs : Small2 [((⟨#[97]⟩ : ByteArray), true, ByteArray.empty)] := by
    intro w hw
    rw [List.mem_singleton] at hw
    subst hw
    exact ⟨by decide, by decide⟩
  rw [staged_run K hK _ _ hs (by simp), Option.bind_some]
  have hb := Bat.again (l := [((⟨#[97]⟩ : ByteArray), true, ByteArray.empty)]) ⟨List.pairwise_singleton _ _, by simp [hk], by simp, by simp; rfl, by simp, by simp⟩
  rw [hb]
  simp [ix]
end Go.Proofs.YtnpgfcedmdnemaaDoor.PView
