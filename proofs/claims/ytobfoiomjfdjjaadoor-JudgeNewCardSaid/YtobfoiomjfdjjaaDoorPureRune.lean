/- The reference's rune at a place is the language's own. -/
import Derived.Test.YtobfoiomjfdjjaaDoorPlain
import Derived.Laws.BitsLemmas
import Derived.Lib.DecodeN
namespace Go.Proofs.YtobfoiomjfdjjaaDoor.PureRune
open Go.RowKit Go.Proofs.YtobfoiomjfdjjaaDoor.Mc Go.Proofs.YtobfoiomjfdjjaaDoor.N Go.Proofs.YtobfoiomjfdjjaaDoor.Plain
set_option linter.unusedSimpArgs false
set_option linter.unusedVariables false

theorem bt_nat (s : ByteArray) (j : Nat) : bt s (j : Int) = (((s.get! j).toNat : Nat) : Int) := by
  unfold bt
  rw [Int.toNat_natCast]
  split
  · rename_i h
    have : s.get! j = s[j]'h := by
      simp [ByteArray.get!, getElem!_pos, h]
      rfl
    rw [this]
  · rename_i h
    have h2 : s.data[j]? = none := Array.getElem?_eq_none (by have : s.size = s.data.size := rfl; omega)
    have : s.get! j = 0 := by
      simp [ByteArray.get!, getElem!_def, h2]
      rfl
    rw [this]; rfl
def at_ (s : ByteArray) (j : Nat) : Nat := (s.get! j).toNat
theorem at_lt (s : ByteArray) (j : Nat) : at_ s j < 256 := (s.get! j).toNat_lt
theorem bt_at (s : ByteArray) (j : Nat) : bt s (j : Int) = (at_ s j : Int) := bt_nat s j
theorem mask (b : Nat) (hb : b < 256) (i : Nat) (hi : i ≤ 8) (m : Int) (hm : m = 2 ^ i - 1) : Go.bits .and .u8 (b : Int) m = ((b % 2 ^ i : Nat) : Int) := by
  subst hm
  rw [bits_mask .u8 8 (by decide) wraps_u8 i hi _ (by omega) (by omega)]
  simp

def lo_ (b : Nat) : Nat := if b = 224 then 160 else if b = 240 then 144 else 128
def hi_ (b : Nat) : Nat := if b = 237 then 159 else if b = 244 then 143 else 191
def refN (n b0 b1 b2 b3 : Nat) : Nat × Nat :=
  if b0 < 128 then (b0, 1)
  else if 194 ≤ b0 ∧ b0 ≤ 223 ∧ 1 < n ∧ 128 ≤ b1 ∧ b1 ≤ 191 then (b0 % 32 * 64 + b1 % 64, 2)
  else if 224 ≤ b0 ∧ b0 ≤ 239 ∧ (1 < n ∧ lo_ b0 ≤ b1 ∧ b1 ≤ hi_ b0) ∧ (2 < n ∧ 128 ≤ b2 ∧ b2 ≤ 191) then (b0 % 16 * 4096 + b1 % 64 * 64 + b2 % 64, 3)
  else if 240 ≤ b0 ∧ b0 ≤ 244 ∧ (1 < n ∧ lo_ b0 ≤ b1 ∧ b1 ≤ hi_ b0) ∧ (2 < n ∧ 128 ≤ b2 ∧ b2 ≤ 191) ∧ (3 < n ∧ 128 ≤ b3 ∧ b3 ≤ 191) then (b0 % 8 * 262144 + b1 % 64 * 4096 + b2 % 64 * 64 + b3 % 64, 4)
  else (65533, 1)
set_option maxRecDepth 100000 in
set_option maxHeartbeats 8000000 in
theorem refN_eq (n b0 b1 b2 b3 : Nat) (h0 : b0 < 256) (h1 : b1 < 256) (h2 : b2 < 256) (h3 : b3 < 256) : refN n b0 b1 b2 b3 = Lib.decodeN n b0 b1 b2 b3 := by
  unfold refN Lib.decodeN lo_ hi_
  repeat' split
  all_goals first | rfl | (exfalso; omega) | (apply Prod.ext <;> simp only <;> omega)

theorem wn (i j : Nat) (h : i + j < 1000000000000) : IntKind.wrap .i64 ((i : Int) + (j : Int)) = ((i + j : Nat) : Int) := by rw [w64 (by omega) (by omega)]; omega
theorem wm (x : Nat) (h : x < 1000000000000) : IntKind.wrap .i64 (x : Int) = (x : Int) := w64 (by omega) (by omega)
end Go.Proofs.YtobfoiomjfdjjaaDoor.PureRune
