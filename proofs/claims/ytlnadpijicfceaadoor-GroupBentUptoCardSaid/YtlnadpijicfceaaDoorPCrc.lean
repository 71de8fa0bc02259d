/- The check sum: the program's and the reference's. -/
import Derived.Test.YtlnadpijicfceaaDoorPLay
namespace Go.Proofs.YtlnadpijicfceaaDoor.PCrc
open Go.RowKit Go.Proofs.YtlnadpijicfceaaDoor.Mc Go.Proofs.YtlnadpijicfceaaDoor.N Go.Proofs.YtlnadpijicfceaaDoor.Plain
set_option linter.unusedSimpArgs false
set_option linter.unusedVariables false
theorem bits_xor_u32 (x y : Nat) (hx : x < 2 ^ 32) (hy : y < 2 ^ 32) : Go.bits .xor .u32 (x : Int) (y : Int) = ((x ^^^ y : Nat) : Int) := by
  have hor : x ^^^ y < 2 ^ 32 := Nat.xor_lt_two_pow hx hy
  unfold Go.bits IntKind.wrap
  simp only [IntKind.signed]
  have : (BitVec.ofInt (IntKind.u32.bits) (x : Int) ^^^ BitVec.ofInt (IntKind.u32.bits) (y : Int)).toNat = x ^^^ y := by
    show (BitVec.ofNat 32 x ^^^ BitVec.ofNat 32 y).toNat = x ^^^ y
    rw [BitVec.toNat_xor, BitVec.toNat_ofNat, BitVec.toNat_ofNat, Nat.mod_eq_of_lt hx, Nat.mod_eq_of_lt hy]
  rw [this]
  simp only [IntKind.bits]
  simp
  omega
theorem bits_and_u32 (x y : Nat) (hx : x < 2 ^ 32) (hy : y < 2 ^ 32) : Go.bits .and .u32 (x : Int) (y : Int) = ((x &&& y : Nat) : Int) := by
  have hor : x &&& y < 2 ^ 32 := Nat.and_lt_two_pow x hy
  unfold Go.bits IntKind.wrap
  simp only [IntKind.signed]
  have : (BitVec.ofInt (IntKind.u32.bits) (x : Int) &&& BitVec.ofInt (IntKind.u32.bits) (y : Int)).toNat = x &&& y := by
    show (BitVec.ofNat 32 x &&& BitVec.ofNat 32 y).toNat = x &&& y
    rw [BitVec.toNat_and, BitVec.toNat_ofNat, BitVec.toNat_ofNat, Nat.mod_eq_of_lt hx, Nat.mod_eq_of_lt hy]
  rw [this]
  simp only [IntKind.bits]
  simp
  omega
theorem xor_ones (y : Nat) (hy : y < 2 ^ 32) : 4294967295 ^^^ y = 4294967295 - y := by
  have h : (BitVec.allOnes 32 ^^^ BitVec.ofNat 32 y).toNat = (~~~ BitVec.ofNat 32 y).toNat := by rw [BitVec.allOnes_xor]
  rw [BitVec.toNat_xor, BitVec.toNat_not, BitVec.toNat_allOnes, BitVec.toNat_ofNat, Nat.mod_eq_of_lt hy] at h
  exact h
/-- one bit's turn -/
def cs (x : Nat) : Nat := if x % 2 = 1 then (x / 2) ^^^ 3988292384 else x / 2
theorem cs_lt {x : Nat} (h : x < 2 ^ 32) : cs x < 2 ^ 32 := by
  unfold cs
  split
  · exact Nat.xor_lt_two_pow (by omega) (by omega)
  · omega
def it : Nat → Nat → Nat
  | 0, x => x
  | n + 1, x => cs (it n x)
theorem it_lt {x : Nat} (h : x < 2 ^ 32) : ∀ n, it n x < 2 ^ 32
  | 0 => h
  | n + 1 => cs_lt (it_lt h n)
def stp (x b : Nat) : Nat := it 8 (x ^^^ b)
theorem stp_lt {x b : Nat} (h : x < 2 ^ 32) (hb : b < 256) : stp x b < 2 ^ 32 := it_lt (Nat.xor_lt_two_pow h (by omega)) 8
theorem step_run (K : Nat) (hK : 20 ≤ K) (x b : Nat) (hx : x < 2 ^ 32) (hb : b < 256) : F59 K (x : Int) (b : Int) = some ((stp x b : Nat) : Int) := by
  unfold F59
  rw [w32 (by omega) (by omega), bits_xor_u32 x b hx (by omega)]
  have hx0 : x ^^^ b < 2 ^ 32 := Nat.xor_lt_two_pow hx (by omega)
  rw [loop_go (r := ((stp x b : Nat) : Int)) (fun i => (((it i (x ^^^ b) : Nat) : Int), (i : Int))) 8 (by rfl) (by omega) ?_ ?_]; rfl
  · intro i hi
    have hl := it_lt hx0 i
    unfold L59_8
    dsimp only
    rw [condT (by omega), show (1 : Int) = ((1 : Nat) : Int) from rfl, bits_and_u32 _ 1 hl (by omega), Nat.and_one_is_mod, w64 (by omega) (by omega)]
    have e : ((it i (x ^^^ b) : Nat) : Int).fdiv (2 ^ 1) = ((it i (x ^^^ b) / 2 : Nat) : Int) := (Int.ofNat_fdiv _ 2).symm
    rw [e, show (3988292384 : Int) = ((3988292384 : Nat) : Int) from rfl, bits_xor_u32 _ _ (by omega) (by omega)]
    show _ = some (Sum.inl (((cs (it i (x ^^^ b)) : Nat) : Int), ((i + 1 : Nat) : Int)))
    unfold cs
    by_cases h : it i (x ^^^ b) % 2 = 1
    · rw [if_pos h, h]; rfl
    · have h0 : it i (x ^^^ b) % 2 = 0 := by omega
      rw [if_neg h, h0]; rfl
  · unfold L59_8
    dsimp only
    rw [condF (by omega)]; rfl
theorem refstep_run (K : Nat) (hK : 20 ≤ K) (x b : Nat) (hx : x < 2 ^ 32) (hb : b < 256) : F61 K (x : Int) (b : Int) = some ((stp x b : Nat) : Int) := by
  unfold F61
  rw [w32 (by omega) (by omega), bits_xor_u32 x b hx (by omega)]
  have hx0 : x ^^^ b < 2 ^ 32 := Nat.xor_lt_two_pow hx (by omega)
  rw [loop_go (r := ((stp x b : Nat) : Int)) (fun i => (((it i (x ^^^ b) : Nat) : Int), (i : Int))) 8 (by rfl) (by omega) ?_ ?_]; rfl
  · intro i hi
    have hl := it_lt hx0 i
    unfold L61_8
    dsimp only
    have e : ((it i (x ^^^ b) : Nat) : Int).tdiv 2 = ((it i (x ^^^ b) / 2 : Nat) : Int) := rfl
    have e2 : ((it i (x ^^^ b) : Nat) : Int).tmod 2 = ((it i (x ^^^ b) % 2 : Nat) : Int) := rfl
    rw [condT (by omega), e, e2, w32 (by omega) (by omega), w64 (by omega) (by omega)]
    rw [show (3988292384 : Int) = ((3988292384 : Nat) : Int) from rfl, bits_xor_u32 _ _ (by omega) (by omega)]
    show _ = some (Sum.inl (((cs (it i (x ^^^ b)) : Nat) : Int), ((i + 1 : Nat) : Int)))
    unfold cs
    by_cases h : it i (x ^^^ b) % 2 = 1
    · rw [if_pos h, h]; rfl
    · have h0 : it i (x ^^^ b) % 2 = 0 := by omega
      rw [if_neg h, h0]; rfl
  · unfold L61_8
    dsimp only
    rw [condF (by omega)]; rfl
/-- over a text's first bytes -/
def fd (b : ByteArray) : Nat → Nat
  | 0 => 4294967295
  | i + 1 => stp (fd b i) (bt b (i : Int)).toNat
theorem bt_at (b : ByteArray) (i : Int) : 0 ≤ bt b i ∧ bt b i < 256 := by
  have := PLay.bt_range b i
  omega
theorem fd_lt (b : ByteArray) : ∀ i, fd b i < 2 ^ 32
  | 0 => by unfold fd; omega
  | i + 1 => stp_lt (fd_lt b i) (by have := bt_at b i; omega)
def crc (b : ByteArray) : Int := ((4294967295 - fd b b.size : Nat) : Int)
theorem sum_run (K : Nat) (hK : 20 ≤ K) (b : ByteArray) (hb : b.size < K) (hb2 : b.size ≤ 1000000000) : F31 K [b] = some (crc b) := by
  have hin : loopN (L31_22 K b) K (4294967295, 0) = some ((fd b b.size : Nat) : Int) := by
    refine loop_go (fun i => (((fd b i : Nat) : Int), (i : Int))) b.size (by rfl) hb (fun i hi => ?_) ?_
    · have hbt := bt_at b i
      unfold L31_22
      dsimp only
      obtain ⟨n, hn⟩ : ∃ n : Nat, bt b (i : Int) = (n : Int) := ⟨(bt b i).toNat, by omega⟩
      rw [condT (by omega), grdD (by omega), hn, step_run K hK _ _ (fd_lt b i) (by omega), Option.bind_some, w64 (by omega) (by omega)]
      show _ = some (Sum.inl (((stp (fd b i) (bt b (i : Int)).toNat : Nat) : Int), ((i + 1 : Nat) : Int)))
      rw [hn]; rfl
    · unfold L31_22
      dsimp only
      rw [condF (by omega)]
  unfold F31
  have hout : loopN (L31_8 K [b]) K (4294967295, 0) = some ((fd b b.size : Nat) : Int) := by
    obtain ⟨k, rfl⟩ : ∃ k, K = k + 2 := ⟨K - 2, by omega⟩
    have h1 : L31_8 (k + 2) [b] (4294967295, 0) = some (.inl (((fd b b.size : Nat) : Int), 1)) := by
      unfold L31_8
      dsimp only
      rw [condT (by simp)]
      show ((loopN (L31_22 (k + 2) b) (k + 2) (4294967295, 0)).bind _) = _
      rw [hin]; rfl
    have h2 : L31_8 (k + 2) [b] (((fd b b.size : Nat) : Int), 1) = some (.inr ((fd b b.size : Nat) : Int)) := by
      unfold L31_8
      dsimp only
      rw [condF (by simp)]
    rw [PureKeys.loop_step h1, PureKeys.loop_end h2]
  have hlt := fd_lt b b.size
  rw [hout, Option.bind_some, show (4294967295 : Int) = ((4294967295 : Nat) : Int) from rfl, bits_xor_u32 _ _ (by omega) hlt, xor_ones _ hlt]; rfl
theorem refcrc_run (K : Nat) (hK : 20 ≤ K) (b : ByteArray) (hb : b.size < K) (hb2 : b.size ≤ 1000000000) : F37 K b = some (crc b) := by
  have hin : loopN (L37_8 K b) K (4294967295, 0) = some ((fd b b.size : Nat) : Int) := by
    refine loop_go (fun i => (((fd b i : Nat) : Int), (i : Int))) b.size (by rfl) hb (fun i hi => ?_) ?_
    · have hbt := bt_at b i
      unfold L37_8
      dsimp only
      obtain ⟨n, hn⟩ : ∃ n : Nat, bt b (i : Int) = (n : Int) := ⟨(bt b i).toNat, by omega⟩
      rw [condT (by omega), grdD (by omega), hn, refstep_run K hK _ _ (fd_lt b i) (by omega), Option.bind_some, w64 (by omega) (by omega)]
      show _ = some (Sum.inl (((stp (fd b i) (bt b (i : Int)).toNat : Nat) : Int), ((i + 1 : Nat) : Int)))
      rw [hn]; rfl
    · unfold L37_8
      dsimp only
      rw [condF (by omega)]
  have hlt := fd_lt b b.size
  unfold F37
  rw [hin, Option.bind_some, w32 (by omega) (by omega)]
  unfold crc
  congr 1
  omega
end Go.Proofs.YtlnadpijicfceaaDoor.PCrc
