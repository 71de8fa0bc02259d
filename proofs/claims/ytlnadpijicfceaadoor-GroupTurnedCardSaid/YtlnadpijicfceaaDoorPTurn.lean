/- The sum tells a byte that was turned. -/
import Derived.Test.YtlnadpijicfceaaDoorPCrc
import Derived.Test.YtlnadpijicfceaaDoorPBatch2
namespace Go.Proofs.YtlnadpijicfceaaDoor.PTurn
open Go.RowKit Go.Proofs.YtlnadpijicfceaaDoor.Mc Go.Proofs.YtlnadpijicfceaaDoor.N Go.Proofs.YtlnadpijicfceaaDoor.Plain Go.Proofs.YtlnadpijicfceaaDoor.PCrc
open Go.Proofs.YtlnadpijicfceaaDoor.PBatch2 (strNums_append son_nums byteB_nums)
set_option linter.unusedSimpArgs false
set_option linter.unusedVariables false
theorem xor_can {x y p : Nat} (h : x ^^^ p = y ^^^ p) : x = y := by
  have := congrArg (· ^^^ p) h
  simpa [Nat.xor_assoc] using this
theorem cs_bit (x : Nat) (h : x < 2 ^ 32) : (cs x).testBit 31 = decide (x % 2 = 1) := by
  have h2 : (x / 2).testBit 31 = false := Nat.testBit_lt_two_pow (by omega)
  unfold cs
  by_cases o : x % 2 = 1
  · rw [if_pos o, Nat.testBit_xor, h2, decide_eq_true o]; decide
  · rw [if_neg o, h2, decide_eq_false o]
theorem cs_inj {x y : Nat} (hx : x < 2 ^ 32) (hy : y < 2 ^ 32) (h : cs x = cs y) : x = y := by
  have b1 := cs_bit x hx
  have b2 := cs_bit y hy
  rw [h, b2] at b1
  have hp : y % 2 = 1 ↔ x % 2 = 1 := by
    constructor
    · intro q; rw [decide_eq_true q] at b1; exact of_decide_eq_true b1.symm
    · intro q; rw [decide_eq_true q] at b1; exact of_decide_eq_true b1
  unfold cs at h
  by_cases o : x % 2 = 1
  · rw [if_pos o, if_pos (hp.2 o)] at h
    have := xor_can h
    have := hp.2 o
    omega
  · rw [if_neg o, if_neg (fun q => o (hp.1 q))] at h
    have : ¬ y % 2 = 1 := fun q => o (hp.1 q)
    omega
theorem it_inj {x y : Nat} (hx : x < 2 ^ 32) (hy : y < 2 ^ 32) : ∀ n, it n x = it n y → x = y
  | 0, h => h
  | n + 1, h => it_inj hx hy n (cs_inj (it_lt hx n) (it_lt hy n) h)
theorem stp_left {x y b : Nat} (hx : x < 2 ^ 32) (hy : y < 2 ^ 32) (hb : b < 256) (h : stp x b = stp y b) : x = y :=
  xor_can (it_inj (Nat.xor_lt_two_pow hx (by omega)) (Nat.xor_lt_two_pow hy (by omega)) 8 h)
theorem stp_right {x b c : Nat} (hx : x < 2 ^ 32) (hb : b < 256) (hc : c < 256) (h : stp x b = stp x c) : b = c := by
  have := it_inj (Nat.xor_lt_two_pow hx (by omega)) (Nat.xor_lt_two_pow hx (by omega)) 8 h
  rw [Nat.xor_comm x b, Nat.xor_comm x c] at this
  exact xor_can this
/-- over a row of bytes -/
def fdL (x : Nat) (l : List Int) : Nat := l.foldl (fun x c => stp x c.toNat) x
def Bytes (l : List Int) : Prop := ∀ c ∈ l, 0 ≤ c ∧ c < 256
theorem fdL_lt : ∀ (l : List Int) (x : Nat), Bytes l → x < 2 ^ 32 → fdL x l < 2 ^ 32
  | [], x, _, h => h
  | c :: l, x, hb, h => by
    unfold fdL
    rw [List.foldl_cons]
    have hc := hb c (by simp)
    exact fdL_lt l _ (fun d hd => hb d (by simp [hd])) (stp_lt h (by omega))
theorem fdL_inj : ∀ (l : List Int) (x y : Nat), Bytes l → x < 2 ^ 32 → y < 2 ^ 32 → fdL x l = fdL y l → x = y
  | [], x, y, _, _, _, h => h
  | c :: l, x, y, hb, hx, hy, h => by
    have hc := hb c (by simp)
    have := fdL_inj l (stp x c.toNat) (stp y c.toNat) (fun d hd => hb d (by simp [hd])) (stp_lt hx (by omega)) (stp_lt hy (by omega)) h
    exact stp_left hx hy (by omega) this
theorem fdL_turn (u v : List Int) (c d : Int) (x : Nat) (hu : Bytes u) (hv : Bytes v) (hc : 0 ≤ c ∧ c < 256) (hd : 0 ≤ d ∧ d < 256) (hx : x < 2 ^ 32) (hcd : c ≠ d) : fdL x (u ++ c :: v) ≠ fdL x (u ++ d :: v) := by
  intro h
  unfold fdL at h
  rw [List.foldl_append, List.foldl_append, List.foldl_cons, List.foldl_cons] at h
  have hxu := fdL_lt u x hu hx
  have := fdL_inj v _ _ hv (stp_lt hxu (by omega)) (stp_lt hxu (by omega)) h
  have := stp_right hxu (by omega) (by omega) this
  omega
theorem strNums_bytes (s : ByteArray) : Bytes (strNums s) := by
  intro c hc
  unfold strNums at hc
  obtain ⟨b, _, rfl⟩ := List.mem_map.1 hc
  have := b.toNat_lt
  omega
theorem strNums_at (s : ByteArray) (i : Nat) (h : i < s.size) : (strNums s)[i]? = some (bt s (i : Int)) := by
  rw [PLay.bt_data s i h]
  unfold strNums
  rw [List.getElem?_map, Array.getElem?_toList, Array.getElem?_eq_getElem]; rfl
theorem nums_son (xs : List Int) (h : Bytes xs) : strNums (strOfNums xs) = xs := by
  unfold strNums
  rw [strOfNums_data, List.map_map]
  have : ∀ l : List Int, Bytes l → l.map ((fun b : UInt8 => ((b.toNat : Nat) : Int)) ∘ fun n : Int => UInt8.ofNat n.toNat) = l := by
    intro l
    induction l with
    | nil => intro _; rfl
    | cons c l ih =>
      intro hb
      rw [List.map_cons, ih (fun d hd => hb d (by simp [hd]))]
      have hc := hb c (by simp)
      congr 1
      show (((UInt8.ofNat c.toNat).toNat : Nat) : Int) = c
      rw [UInt8.toNat_ofNat']
      omega
  exact this xs h
theorem fd_L (b : ByteArray) : ∀ i, i ≤ b.size → fd b i = fdL 4294967295 ((strNums b).take i)
  | 0, _ => rfl
  | i + 1, h => by
    have hl : i < (strNums b).length := by rw [strNums_length]; omega
    have e : (strNums b)[i] = bt b (i : Int) := Option.some.inj (by rw [← List.getElem?_eq_getElem hl]; exact strNums_at b i (by omega))
    unfold fd fdL
    rw [List.take_add_one, List.getElem?_eq_getElem hl, Option.toList_some, List.foldl_append, fd_L b i (by omega), e]; rfl
theorem crc_L (b : ByteArray) : crc b = ((4294967295 - fdL 4294967295 (strNums b) : Nat) : Int) := by
  unfold crc
  rw [fd_L b _ (Nat.le_refl _), List.take_of_length_le (by rw [strNums_length]; exact Nat.le_refl _)]
/-- a byte is turned: the sum is another one -/
theorem crc_turn {b b' : ByteArray} (u v : List Int) (c d : Int) (hb : strNums b = u ++ c :: v) (hb' : strNums b' = u ++ d :: v) (hcd : c ≠ d) : crc b ≠ crc b' := by
  have k1 := strNums_bytes b
  have k2 := strNums_bytes b'
  have l1 := fdL_lt _ 4294967295 k1 (by omega)
  have l2 := fdL_lt _ 4294967295 k2 (by omega)
  rw [crc_L, crc_L]
  rw [hb] at k1 l1 ⊢
  rw [hb'] at k2 l2 ⊢
  have := fdL_turn u v c d 4294967295 (fun x hx => k1 x (by simp [hx])) (fun x hx => k1 x (by simp [hx])) (k1 c (by simp)) (k2 d (by simp)) (by omega) hcd
  omega
theorem bits_xor_u8 (x y : Nat) (hx : x < 2 ^ 8) (hy : y < 2 ^ 8) : Go.bits .xor .u8 (x : Int) (y : Int) = ((x ^^^ y : Nat) : Int) := by
  have hor : x ^^^ y < 2 ^ 8 := Nat.xor_lt_two_pow hx hy
  unfold Go.bits IntKind.wrap
  simp only [IntKind.signed]
  have : (BitVec.ofInt (IntKind.u8.bits) (x : Int) ^^^ BitVec.ofInt (IntKind.u8.bits) (y : Int)).toNat = x ^^^ y := by
    show (BitVec.ofNat 8 x ^^^ BitVec.ofNat 8 y).toNat = x ^^^ y
    rw [BitVec.toNat_xor, BitVec.toNat_ofNat, BitVec.toNat_ofNat, Nat.mod_eq_of_lt hx, Nat.mod_eq_of_lt hy]
  rw [this]
  simp only [IntKind.bits]
  simp
  omega
theorem turned {a y : Int} (ha : 0 ≤ a ∧ a < 256) (hy : 1 ≤ y ∧ y < 256) : 0 ≤ bits .xor .u8 a y ∧ bits .xor .u8 a y < 256 ∧ a ≠ bits .xor .u8 a y := by
  obtain ⟨a, rfl⟩ := Int.eq_ofNat_of_zero_le ha.1
  obtain ⟨y, rfl⟩ := Int.eq_ofNat_of_zero_le (show 0 ≤ y by omega)
  have h := Nat.xor_lt_two_pow (show a < 2 ^ 8 by omega) (show y < 2 ^ 8 by omega)
  rw [bits_xor_u8 a y (by omega) (by omega)]
  refine ⟨by omega, by omega, fun e => ?_⟩
  have e' : a ^^^ y = 0 ^^^ a := by rw [Nat.zero_xor]; omega
  rw [Nat.xor_comm] at e'
  have := xor_can e'
  omega
end Go.Proofs.YtlnadpijicfceaaDoor.PTurn
