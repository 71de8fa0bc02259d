/- Plain law: both encodings of a number are its bytes of seven digits; so are both of a text. -/
import Derived.Test.YtcadbihgfahjjaaN1
import Derived.Test.YtcadbihgfahjjaaMLay
namespace Go.Proofs.Ytcadbihgfahjjaa.PureLay
open Go.RowKit Go.Proofs.Ytcadbihgfahjjaa.Mc Go.Proofs.Ytcadbihgfahjjaa.N Go.Proofs.Ytcadbihgfahjjaa.MLay

theorem grd_t {β : Type} {c : Bool} {k : Option β} (h : c = true) : grd c k = k := by subst h; rfl

/-- the bytes of a number -/
def nI (v : Nat) : List Int := (numL v).map fun x : Nat => (x : Int)

theorem nI_small {v : Nat} (h : v < 128) : nI v = [(v : Int)] := by rw [nI, numL_small h]; rfl
theorem nI_big {v : Nat} (h : ¬ v < 128) : nI v = ((v : Int) % 128 + 128) :: nI (v / 128) := by rw [nI, numL_big h]; simp [nI]

theorem wrap_u8 (x : Int) : IntKind.u8.wrap x = x % 256 := rfl

theorem byte10 (v : Nat) : Go.bits .or .u8 (IntKind.wrap .u8 (v : Int)) 128 = (v : Int) % 128 + 128 := by
  rw [wrap_u8, or_byte _ (by omega) (by omega)]; omega
theorem byte11 (v : Nat) : IntKind.wrap .u8 ((IntKind.wrap .u8 (Int.tmod (v : Int) 128)) + 128) = (v : Int) % 128 + 128 := by
  rw [wrap_u8, wrap_u8, Int.tmod_eq_emod_of_nonneg (by omega)]; omega
theorem fdiv128 (v : Nat) : Int.fdiv (v : Int) 128 = ((v / 128 : Nat) : Int) := by rw [Int.fdiv_eq_ediv_of_nonneg _ (by omega)]; omega
theorem tdiv128 (v : Nat) (h : v < 4294967296) : IntKind.wrap .u32 (Int.tdiv (v : Int) 128) = ((v / 128 : Nat) : Int) := by
  rw [Int.tdiv_eq_ediv_of_nonneg (by omega), wrap_u32]; omega

theorem loop10 (k : Nat) : ∀ (d n v : Nat) (acc : List Int), d < n → v < 128 ^ (d + 1) → acc.length + d ≤ 1000 → (F10_2 k n (v : Int) acc).bind (F10_1 k) = some (strOfNums (acc ++ nI v))
  | d, 0, v, acc, hn, _, _ => by omega
  | d, n + 1, v, acc, hn, hv, ha => by
    unfold F10_2
    by_cases h : v < 128
    · have h1 : decide ((128 : Int) ≤ (v : Int)) = false := by simp; omega
      rw [h1, cond_false, Option.bind_some]
      unfold F10_1
      rw [grd_t (by simp; omega), nI_small h, wrap_u8]
      simp only
      congr 4
      omega
    · have h1 : decide ((128 : Int) ≤ (v : Int)) = true := by simp; omega
      rw [h1, cond_true, grd_t (by simp; omega), byte10, fdiv128]
      cases d with
      | zero => simp at hv; omega
      | succ d =>
        rw [loop10 k d n (v / 128) _ (by omega) (by rw [Nat.div_lt_iff_lt_mul (by decide)]; rw [Nat.pow_succ] at hv; exact hv) (by simp; omega), nI_big h]
        simp
theorem loop11 (k : Nat) : ∀ (d n v : Nat) (acc : List Int), d < n → v < 4294967296 → v < 128 ^ (d + 1) → acc.length + d ≤ 1000 → (F11_2 k n (v : Int) acc).bind (F11_1 k) = some (strOfNums (acc ++ nI v))
  | d, 0, v, acc, hn, _, _, _ => by omega
  | d, n + 1, v, acc, hn, hv', hv, ha => by
    unfold F11_2
    by_cases h : v < 128
    · have h1 : decide ((128 : Int) ≤ (v : Int)) = false := by simp; omega
      rw [h1, cond_false, Option.bind_some]
      unfold F11_1
      rw [grd_t (by simp; omega), nI_small h, wrap_u8]
      simp only
      congr 4
      omega
    · have h1 : decide ((128 : Int) ≤ (v : Int)) = true := by simp; omega
      rw [h1, cond_true, grd_t (by simp; omega), byte11, tdiv128 _ hv']
      cases d with
      | zero => simp at hv; omega
      | succ d =>
        rw [loop11 k d n (v / 128) _ (by omega) (by omega) (by rw [Nat.div_lt_iff_lt_mul (by decide)]; rw [Nat.pow_succ] at hv; exact hv) (by simp; omega), nI_big h]
        simp

/-- lay.Num and the document's Num -/
theorem num10 {k : Nat} (hk : 5 ≤ k) (v : Nat) (hv : v < 4294967296) : F10 k (v : Int) = some (strOfNums (nI v)) :=
  loop10 k 4 k v [] (by omega) (Nat.lt_of_lt_of_le hv (by decide)) (by simp)
theorem num11 {k : Nat} (hk : 5 ≤ k) (v : Nat) (hv : v < 4294967296) : F11 k (v : Int) = some (strOfNums (nI v)) :=
  loop11 k 4 k v [] (by omega) hv (Nat.lt_of_lt_of_le hv (by decide)) (by simp)

theorem nI_length (v : Nat) (hv : v < 4294967296) : 1 ≤ (nI v).length ∧ (nI v).length ≤ 5 := by
  have := numL_length 4 v (Nat.lt_of_lt_of_le hv (by decide))
  simpa [nI] using this

/-- the number that a length is told by -/
def ln (s : ByteArray) : Nat := s.size % 4294967296
theorem ln_lt (s : ByteArray) : ln s < 4294967296 := Nat.mod_lt _ (by decide)
theorem ln_int (s : ByteArray) : IntKind.wrap .u32 (s.size : Int) = (ln s : Int) := by rw [wrap_u32]; unfold ln; omega

theorem strOfNums_len (xs : List Int) : (strOfNums xs).size = xs.length := strOfNums_size xs

theorem text12 {k : Nat} (hk : 5 ≤ k) (s : ByteArray) (hs : s.size ≤ 140737488351232) : F12 k s = some (strOfNums (nI (ln s)) ++ s) := by
  unfold F12
  rw [ln_int, num10 hk _ (ln_lt s), Option.bind_some, grd_t]
  have := nI_length _ (ln_lt s)
  rw [strOfNums_len]
  exact decide_eq_true (by omega)
theorem text13 {k : Nat} (hk : 5 ≤ k) (s : ByteArray) (hs : s.size ≤ 140737488351232) : F13 k s = some (strOfNums (nI (ln s)) ++ s) := by
  unfold F13
  rw [ln_int, num11 hk _ (ln_lt s), Option.bind_some, grd_t]
  have := nI_length _ (ln_lt s)
  rw [strOfNums_len]
  exact decide_eq_true (by omega)

theorem alive : F9 100 = some true := by kernel_rfl

theorem u32 {a : Int} (w : (Lit.int .u32 a).wf = true) : ∃ v : Nat, a = v ∧ v < 4294967296 := by
  have : 0 ≤ a ∧ a < 4294967296 := by
    simp [Lit.wf, IntKind.min, IntKind.max, IntKind.signed, IntKind.bits] at w
    omega
  exact ⟨a.toNat, by omega, by omega⟩
end Go.Proofs.Ytcadbihgfahjjaa.PureLay
