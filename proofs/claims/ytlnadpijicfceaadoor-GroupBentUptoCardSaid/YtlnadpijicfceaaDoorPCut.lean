/- Cut: the program's and the reference's. -/
import Derived.Test.YtlnadpijicfceaaDoorPJoin2
import Derived.Test.YtlnadpijicfceaaDoorPG4
import Derived.Test.YtlnadpijicfceaaDoorPMkR
namespace Go.Proofs.YtlnadpijicfceaaDoor.PCut
open Go.Proofs.YtlnadpijicfceaaDoor.PJoin
open Go.RowKit Go.Proofs.YtlnadpijicfceaaDoor.Mc Go.Proofs.YtlnadpijicfceaaDoor.N Go.Proofs.YtlnadpijicfceaaDoor.Plain Go.Proofs.YtlnadpijicfceaaDoor.PBatch1 Go.Proofs.YtlnadpijicfceaaDoor.PBatch2 Go.Proofs.YtlnadpijicfceaaDoor.PG4 Go.Proofs.YtlnadpijicfceaaDoor.PPiece Go.Proofs.YtlnadpijicfceaaDoor.PLay
open Go.Proofs.YtlnadpijicfceaaDoor.PCrc (crc refcrc_run sum_run fd_lt)
open Go.Proofs.YtlnadpijicfceaaDoor.PBook (sw)
set_option linter.unusedSimpArgs false
set_option linter.unusedVariables false
theorem pick_run (K : Nat) (n m : Int) (h0 : 0 < m) (h1 : m ≤ 1000000000) : F21 K n m = some (n % m) := by
  have ha := Int.tmod_lt_of_pos n h0
  have hb : -m < n.tmod m := by
    rcases Int.le_total 0 n with h | h
    · have := Int.tmod_nonneg m h; omega
    · have := Int.tmod_lt_of_pos (-n) h0
      rw [Int.neg_tmod] at this
      omega
  unfold F21
  rw [grdT (by rw [bne_iff_ne]; omega), ← tmod_emod h0]
  by_cases h : n.tmod m < 0
  · rw [condT h, if_pos h, Option.bind_some, w64 (by omega) (by omega)]
  · rw [condF h, if_neg h, Option.bind_some]
theorem geom_run (K : Nat) (a b c : Int) : F10 K a b c = some (32 + a % 33, 3 + b % 4, 4 + c % 4) := by
  have h1 := Int.emod_nonneg a (show (33 : Int) ≠ 0 by omega)
  have h2 := Int.emod_lt_of_pos a (show (0 : Int) < 33 by omega)
  have h3 := Int.emod_nonneg b (show (4 : Int) ≠ 0 by omega)
  have h4 := Int.emod_lt_of_pos b (show (0 : Int) < 4 by omega)
  have h5 := Int.emod_nonneg c (show (4 : Int) ≠ 0 by omega)
  have h6 := Int.emod_lt_of_pos c (show (0 : Int) < 4 by omega)
  unfold F10
  rw [pick_run K a 33 (by omega) (by omega), pick_run K b 4 (by omega) (by omega), pick_run K c 4 (by omega) (by omega), Option.bind_some, Option.bind_some, Option.bind_some, w64 (by omega) (by omega), w64 (by omega) (by omega), w64 (by omega) (by omega)]
/-- a device that may be -/
def Right (p n r : Int) : Prop := 32 ≤ p ∧ p ≤ 128 ∧ 3 ≤ n ∧ n ≤ 10 ∧ 4 ≤ r ∧ r ≤ 12
instance (p n r : Int) : Decidable (Right p n r) := by unfold Right; infer_instance
theorem book_right (a b c : Int) : Right (32 + a % 33) (3 + b % 4) (4 + c % 4) := by unfold Right; omega
theorem cond_dec (p : Prop) [Decidable p] (q : Prop) [Decidable q] : cond (decide p) (some (decide q)) (some false) = some (decide (p ∧ q)) := by
  by_cases h : p <;> by_cases h2 : q <;> simp [h, h2]
theorem geomRight_run (K : Nat) (p n r : Int) : F32 K p n r = some (decide (Right p n r)) := by
  unfold F32 Right
  simp only [cond_dec]
theorem right_run (K : Nat) (p n r : Int) : F28 K p n r = some (decide (Right p n r)) := by
  unfold F28 Right
  simp only [cond_dec]
theorem room_run (K : Nat) {p n r : Int} (h : Right p n r) : F25 K p n r = some (p - 15) := by
  unfold F25
  unfold Right at h
  rw [right_run, Option.bind_some, decide_eq_true (show Right p n r from h), Bool.not_true, cond_false, w64 (by omega) (by omega)]
theorem refroom_run (K : Nat) {p n r : Int} (h : Right p n r) : F35 K p n r = some (p - 15) := by
  unfold F35
  unfold Right at h
  rw [w64 (by omega) (by omega)]
theorem slots_run (K : Nat) {p n r : Int} (h : Right p n r) : F52 K p n r = some (n - 1) := by
  unfold F52
  unfold Right at h
  rw [right_run, Option.bind_some, decide_eq_true (show Right p n r from h), Bool.not_true, cond_false, w64 (by omega) (by omega)]
theorem refslots_run (K : Nat) {p n r : Int} (h : Right p n r) : F60 K p n r = some (n - 1) := by
  unfold F60
  unfold Right at h
  rw [w64 (by omega) (by omega)]
theorem mul_bound {a b : Int} (h0 : 0 ≤ a) (h1 : a ≤ 9) (h2 : 0 ≤ b) (h3 : b ≤ 9) : 0 ≤ a * b ∧ a * b ≤ 81 := by
  refine ⟨Int.mul_nonneg h0 h2, ?_⟩
  have := Int.mul_le_mul h1 h3 h2 (show (0 : Int) ≤ 9 by omega)
  omega
theorem most_run (K : Nat) {p n r : Int} (h : Right p n r) : F24 K p n r = some ((r - 3) * (n - 1)) := by
  unfold F24
  have h' := h
  unfold Right at h
  have hm := mul_bound (a := r - 3) (b := n - 1) (by omega) (by omega) (by omega) (by omega)
  rw [right_run, Option.bind_some, decide_eq_true h', Bool.not_true, cond_false, slots_run K h', Option.bind_some, w64 (x := r - 3) (by omega) (by omega), w64 (by omega) (by omega)]
theorem refmost_run (K : Nat) {p n r : Int} (h : Right p n r) : F34 K p n r = some ((r - 3) * (n - 1)) := by
  unfold F34
  have h' := h
  unfold Right at h
  have hm := mul_bound (a := r - 3) (b := n - 1) (by omega) (by omega) (by omega) (by omega)
  rw [refslots_run K h', Option.bind_some, w64 (x := r - 3) (by omega) (by omega), w64 (by omega) (by omega)]
/-- how many parts so many bytes take -/
def cnt (s : Nat) (r : Nat) : Nat := (s + r - 1) / r
theorem cnt_in (s r i : Nat) (hr : 0 < r) : i < cnt s r ↔ i * r < s := by
  unfold cnt
  rw [Nat.lt_iff_add_one_le, Nat.le_div_iff_mul_le hr, Nat.add_mul, Nat.one_mul]
  omega
theorem cnt_le (s r : Nat) (hr : 0 < r) : cnt s r ≤ s := by
  unfold cnt
  rw [Nat.div_le_iff_le_mul_add_pred hr]
  have := Nat.le_mul_of_pos_left s hr
  omega
theorem need_run (K : Nat) {p n g : Int} (h : Right p n g) (s r : Nat) (hr : (r : Int) = p - 15) (h1 : 1 ≤ s) (h2 : s ≤ 1000000) : F23 K p n g (s : Int) = some ((cnt s r + 1 : Nat) : Int) := by
  have h' := h
  unfold Right at h
  have hc := cnt_le s r (by omega)
  have hc1 : 1 ≤ cnt s r := (cnt_in s r 0 (by omega)).2 (by omega)
  have hmn : mn (mx (s : Int) 0) 1048576 = (s : Int) := by
    unfold mn mx; split <;> (try split) <;> omega
  have hd : ((s : Int) + (p - 15) - 1).tdiv (p - 15) = ((cnt s r : Nat) : Int) := by
    rw [← hr, show (s : Int) + (r : Int) - 1 = ((s + r - 1 : Nat) : Int) by omega]; rfl
  unfold F23
  rw [right_run, Option.bind_some, decide_eq_true h', Bool.not_true, cond_false, room_run K h', Option.bind_some, Option.bind_some, grdT (by rw [bne_iff_ne]; omega), hmn, w64 (x := (s : Int) + (p - 15)) (by omega) (by omega), w64 (x := (s : Int) + (p - 15) - 1) (by omega) (by omega), hd, w64 (x := ((cnt s r : Nat) : Int)) (by omega) (by omega)]
  have : mx ((cnt s r : Nat) : Int) 1 = ((cnt s r : Nat) : Int) := by unfold mx; split <;> omega
  rw [this, w64 (by omega) (by omega)]
  congr 1
theorem refneed_run (K : Nat) {p n g : Int} (h : Right p n g) (s r : Nat) (hr : (r : Int) = p - 15) (h1 : 1 ≤ s) (h2 : s ≤ 1000000) : F33 K p n g (s : Int) = some ((cnt s r + 1 : Nat) : Int) := by
  have h' := h
  unfold Right at h
  have hc := cnt_le s r (by omega)
  have hmn : mn (mx (s : Int) 1) 1048576 = (s : Int) := by
    unfold mn mx; split <;> (try split) <;> omega
  have hd : ((s : Int) + (p - 15) - 1).tdiv (p - 15) = ((cnt s r : Nat) : Int) := by
    rw [← hr, show (s : Int) + (r : Int) - 1 = ((s + r - 1 : Nat) : Int) by omega]; rfl
  unfold F33
  rw [refroom_run K h', Option.bind_some, Option.bind_some, grdT (by rw [bne_iff_ne]; omega), hmn, w64 (x := (s : Int) + (p - 15)) (by omega) (by omega), w64 (x := (s : Int) + (p - 15) - 1) (by omega) (by omega), hd, w64 (x := ((cnt s r : Nat) : Int)) (by omega) (by omega), w64 (by omega) (by omega)]
  congr 1
/-! the frames -/
def prt (b : ByteArray) (sq : Int) (r i : Nat) : Fr := (2, sq, (i : Int), b.extract (i * r) (min ((i + 1) * r) b.size))
def prts (b : ByteArray) (sq : Int) (r n : Nat) : List Fr := (List.range n).map (prt b sq r)
theorem prts_len (b : ByteArray) (sq : Int) (r n : Nat) : (prts b sq r n).length = n := by simp [prts]
theorem prts_snoc (b : ByteArray) (sq : Int) (r n : Nat) : prts b sq r (n + 1) = prts b sq r n ++ [prt b sq r n] := by
  unfold prts
  rw [List.range_succ, List.map_append]; rfl
theorem prts_at (b : ByteArray) (sq : Int) (r n i : Nat) (h : i < n) : (prts b sq r n)[i]? = some (prt b sq r i) := by
  unfold prts
  rw [List.getElem?_map, List.getElem?_range h]; rfl
def sb (pv fr : Int) (b : ByteArray) : ByteArray := s4 pv fr (crc b) (b.size : Int)
def slf (b : ByteArray) (sq pv fr : Int) (r : Nat) : Fr := (3, sq, ((cnt b.size r : Nat) : Int), sb pv fr b)
def frs (b : ByteArray) (sq pv fr : Int) (r : Nat) : List Fr := prts b sq r (cnt b.size r) ++ [slf b sq pv fr r]
theorem frs_len (b : ByteArray) (sq pv fr : Int) (r : Nat) : (frs b sq pv fr r).length = cnt b.size r + 1 := by
  unfold frs; rw [List.length_append, prts_len]; rfl
theorem frs_at (b : ByteArray) (sq pv fr : Int) (r i : Nat) (h : i < cnt b.size r) : (frs b sq pv fr r)[i]? = some (prt b sq r i) := by
  unfold frs
  rw [List.getElem?_append_left (by rw [prts_len]; exact h), prts_at _ _ _ _ _ h]
theorem frs_last (b : ByteArray) (sq pv fr : Int) (r : Nat) : (frs b sq pv fr r)[cnt b.size r]? = some (slf b sq pv fr r) := by
  unfold frs
  rw [List.getElem?_append_right (by rw [prts_len]; omega), prts_len, Nat.sub_self]; rfl
theorem crc_U (b : ByteArray) : U (crc b) := by
  have := fd_lt b b.size
  unfold U crc
  omega
theorem part_ok (b : ByteArray) (sq : Int) (r i : Nat) (hr : 0 < r) (h : i < cnt b.size r) (h1 : 1 ≤ sq) (h2 : sq ≤ 2147483647) : pr 2 sq (i : Int) (b.extract (i * r) (min ((i + 1) * r) b.size)) = true := by
  have hib := (cnt_in b.size r i hr).1 h
  have hmul : (i + 1) * r = i * r + r := by rw [Nat.add_mul, Nat.one_mul]
  have hs : 0 < (b.extract (i * r) (min ((i + 1) * r) b.size)).size := by rw [ByteArray.size_extract]; omega
  generalize b.extract (i * r) (min ((i + 1) * r) b.size) = t at hs
  unfold pr
  rw [decide_eq_false (by omega), decide_eq_false (by omega), Bool.or_self, cond_false]
  rw [show ((2 : Int) == 1) = false from rfl, show ((2 : Int) == 2) = true from rfl, cond_false, cond_true, PFd.beq_ba, decide_eq_false]
  · rfl
  · intro e; subst e; exact absurd hs (by decide)
theorem seal_ok (sq k pv fr c z : Int) (h1 : 1 ≤ sq) (h2 : sq ≤ 2147483647) (hk : k ≠ 0) (hp : 0 ≤ pv) (hps : pv < sq) (hf : 1 ≤ fr) (hfs : fr ≤ sq) (hz : U z) (hz0 : z ≠ 0) : pr 3 sq k (s4 pv fr c z) = true := by
  unfold pr
  rw [decide_eq_false (by omega), decide_eq_false (by omega), Bool.or_self, cond_false]
  rw [show ((3 : Int) == 1) = false from rfl, show ((3 : Int) == 2) = false from rfl, show ((3 : Int) == 3) = true from rfl, cond_false, cond_false, cond_true, s4_size, bne_iff_ne.2 hk, cond_true, show (((16 : Nat) : Int) == 16) = true from rfl, cond_true]
  rw [s4_0 _ _ _ (by unfold U; omega), s4_4 _ _ _ (by unfold U; omega), s4_12 _ _ _ hz, decide_eq_true hps, decide_eq_true hf, decide_eq_true hfs, bne_iff_ne.2 hz0]; rfl
theorem frame_run (K : Nat) (sq i : Int) (t : ByteArray) (ht : t.size ≤ 1000000000) (h : pr 2 sq i t = true) : F30 K sq i t = some (2, sq, i, t, 0) := by
  unfold F30
  rw [of_run K 2 sq i t ht, Option.bind_some]
  unfold of_
  rw [h]; rfl
theorem frame1_run (K : Nat) (sq k pv fr c z : Int) (h : pr 3 sq k (s4 pv fr c z) = true) : F30_1 K sq k pv fr c z = some (3, sq, k, s4 pv fr c z, 0) := by
  unfold F30_1
  simp only [put_run, Option.bind_some]
  have hs := s4_size pv fr c z
  rw [grdD (by rw [p4_size, p4_size]; omega), grdD (by rw [ByteArray.size_append, p4_size, p4_size, p4_size]; omega), grdD (by rw [ByteArray.size_append, ByteArray.size_append, p4_size, p4_size, p4_size, p4_size]; omega)]
  show (((F38 K 3 sq k (s4 pv fr c z)).bind _).bind _) = _
  rw [of_run K 3 sq k _ (by omega), Option.bind_some]
  unfold of_
  rw [h]; rfl
theorem cut_loop (K : Nat) (hK : 2000000 ≤ K) (p n g sq : Int) (h : Right p n g) (b : ByteArray) (c : Int) (hb : b.size ≤ 1000000) (r : Nat) (hr : (r : Int) = p - 15) : loopN (L14_42 K p n g sq (b, c)) K (0, []) = some (prts b sq r (cnt b.size r)) := by
  have h' := h
  obtain ⟨h1, h2, _⟩ := h
  have hr0 : 0 < r := by omega
  have hcl := cnt_le b.size r hr0
  refine loop_go (fun i => (((i * r : Nat) : Int), prts b sq r i)) (cnt b.size r) (by simp [prts]) (by omega) (fun i hi => ?_) ?_
  · have hib := (cnt_in b.size r i hr0).1 hi
    have hmul : (i + 1) * r = i * r + r := by rw [Nat.add_mul, Nat.one_mul]
    unfold L14_42
    dsimp only
    rw [condT (by omega), refroom_run K h', Option.bind_some, w64 (x := ((i * r : Nat) : Int) + (p - 15)) (by omega) (by omega)]
    have hmn : mn (((i * r : Nat) : Int) + (p - 15)) (b.size : Int) = ((min ((i + 1) * r) b.size : Nat) : Int) := by
      unfold mn
      rw [hmul, ← hr]
      split <;> omega
    rw [hmn, grdT (by unfold bnds; rw [hmul]; exact decide_eq_true (by omega)), grdD (by rw [prts_len]; simp only [List.length_singleton]; omega), Option.bind_some, prts_len, w32 (by omega) (by omega), prts_snoc, Int.toNat_natCast, Int.toNat_natCast]
    unfold prt
    rw [← hr, hmul, w64 (by omega) (by omega)]
    congr 3
  · have hend : ¬ cnt b.size r * r < b.size := fun hlt => absurd ((cnt_in b.size r (cnt b.size r) hr0).2 hlt) (by omega)
    unfold L14_42
    dsimp only
    rw [condF (by omega)]
theorem cut2_loop (K : Nat) (hK : 2000000 ≤ K) (p n g sq : Int) (h : Right p n g) (hs1 : 1 ≤ sq) (hs2 : sq ≤ 2147483647) (b : ByteArray) (c : Int) (hb : b.size ≤ 1000000) (r : Nat) (hr : (r : Int) = p - 15) : loopN (L13_39 K p n g sq (b, c)) K (0, []) = some (prts b sq r (cnt b.size r)) := by
  have h' := h
  obtain ⟨h1, h2, _⟩ := h
  have hr0 : 0 < r := by omega
  have hcl := cnt_le b.size r hr0
  refine loop_go (fun i => (((i * r : Nat) : Int), prts b sq r i)) (cnt b.size r) (by simp [prts]) (by omega) (fun i hi => ?_) ?_
  · have hib := (cnt_in b.size r i hr0).1 hi
    have hmul : (i + 1) * r = i * r + r := by rw [Nat.add_mul, Nat.one_mul]
    unfold L13_39
    dsimp only
    rw [condT (by omega), room_run K h', Option.bind_some, w64 (x := ((i * r : Nat) : Int) + (p - 15)) (by omega) (by omega)]
    have hmn : mn (((i * r : Nat) : Int) + (p - 15)) (b.size : Int) = ((min ((i + 1) * r) b.size : Nat) : Int) := by
      unfold mn
      rw [hmul, ← hr]
      split <;> omega
    rw [hmn, grdT (by unfold bnds; rw [hmul]; exact decide_eq_true (by omega)), prts_len, w32 (by omega) (by omega), Int.toNat_natCast, Int.toNat_natCast, frame_run K sq (i : Int) _ (by rw [ByteArray.size_extract]; omega) (part_ok b sq r i hr0 hi hs1 hs2), Option.bind_some, grdD (by simp only [List.length_singleton]; omega), Option.bind_some, prts_snoc]
    unfold prt
    rw [← hr, hmul, w64 (by omega) (by omega)]
    congr 3
  · have hend : ¬ cnt b.size r * r < b.size := fun hlt => absurd ((cnt_in b.size r (cnt b.size r) hr0).2 hlt) (by omega)
    unfold L13_39
    dsimp only
    rw [condF (by omega)]
/-- a batch's bytes are few -/
theorem wb_few {w : Wr} (hk : w.1.size ≤ 48) (hv : w.2.2.size ≤ 48) : (wb w).size ≤ 110 := by
  unfold wb
  have h1 := tx_size w.1
  have h2 := tx_size w.2.2
  have h3 := (nI_length _ (ln_lt w.1)).2
  have h4 := (nI_length _ (ln_lt w.2.2)).2
  have e1 : (⟨#[1]⟩ : ByteArray).size = 1 := rfl
  have e0 : (⟨#[0]⟩ : ByteArray).size = 1 := rfl
  cases w.2.1 with
  | true => rw [cond_true, ByteArray.size_append]; omega
  | false => rw [cond_false, ByteArray.size_append, ByteArray.size_append]; omega
theorem cat_few : ∀ {l : List Wr}, (∀ w ∈ l, w.1.size ≤ 48 ∧ w.2.2.size ≤ 48) → (cat l).size ≤ 110 * l.length
  | [], _ => by unfold cat; exact Nat.le_refl _
  | w :: l, h => by
    have h1 := wb_few (h w (by simp)).1 (h w (by simp)).2
    have h2 := cat_few (l := l) (fun v hv => h v (by simp [hv]))
    unfold cat
    rw [ByteArray.size_append, List.length_cons]
    omega
theorem bright_small {l : List Wr} (h : bright l = 0) : ∀ w ∈ l, kr w.1 = true ∧ w.1.size ≤ 48 ∧ w.2.2.size ≤ 48 := by
  intro w hw
  have hl := bright_len h
  unfold bright at h
  rw [if_neg (by omega)] at h
  obtain ⟨j, hj, e⟩ := List.getElem_of_mem hw
  have hz := firstBad_all _ _ _ h j (by omega) (by omega)
  have hlj : l[j]? = some w := by rw [List.getElem?_eq_getElem hj, e]
  have hk := wcode_kr hlj hz
  rw [wcode_at hlj, hk] at hz
  refine ⟨hk, kr_size hk, ?_⟩
  by_cases h48 : 48 < w.2.2.size
  · rw [decide_eq_true h48] at hz
    simp [wcd] at hz
  · omega
theorem bb_few {l : List Wr} (h : bright l = 0) : 1 ≤ (bb l).size ∧ (bb l).size ≤ 900 := by
  have hl := bright_len h
  have h1 := cat_few (l := l) (fun w hw => ⟨(bright_small h w hw).2.1, (bright_small h w hw).2.2⟩)
  have h2 := numsize l.length hl.2
  have h3 := (nI_length l.length (by omega)).1
  have h4 : (strOfNums (nI l.length)).size = (nI l.length).length := strOfNums_size _
  unfold bb
  rw [ByteArray.size_append]
  omega
/-! the answer -/
noncomputable def cutR (p n g sq pv fr : Int) (w : List Wr) : Int ⊕ (Int × List Fr) :=
  if ¬ Right p n g then .inl 1 else if bright w ≠ 0 then .inl (bright w) else if sq ≤ pv ∨ fr < 1 ∨ sq < fr ∨ 2147483647 < sq then .inl 2 else if (g - 3) * (n - 1) < ((cnt (bb w).size (p - 15).toNat + 1 : Nat) : Int) then .inl 14 else .inr (0, frs (bb w) sq pv fr (p - 15).toNat)
theorem or4 (a b c d : Prop) [Decidable a] [Decidable b] [Decidable c] [Decidable d] : (cond (decide a) (some true) (cond (decide b) (some true) (cond (decide c) (some true) (some (decide d)))) : Option Bool) = some (decide (a ∨ b ∨ c ∨ d)) := by
  by_cases h1 : a <;> by_cases h2 : b <;> by_cases h3 : c <;> by_cases h4 : d <;> simp [h1, h2, h3, h4]
theorem refcut_run (K : Nat) (hK : 2000000 ≤ K) (p n g sq pv fr : Int) (hpv : 0 ≤ pv) (w : List Wr) (hw : Small2 w) : F14 K p n g sq pv fr w = some (cutR p n g sq pv fr w) := by
  unfold F14 cutR
  rw [geomRight_run, Option.bind_some]
  by_cases hR : Right p n g
  · rw [decide_eq_true hR, Bool.not_true, cond_false, if_neg (not_not_intro hR), refbytes_run K w hw hK, Option.bind_some]
    unfold bout
    by_cases hb : bright w = 0
    · rw [if_pos hb, if_neg (not_not_intro hb)]
      have hf := bb_few hb
      generalize bb w = b at *
      dsimp only
      rw [bne_self_eq_false, cond_false, or4, Option.bind_some]
      by_cases hq : sq ≤ pv ∨ fr < 1 ∨ sq < fr ∨ 2147483647 < sq
      · rw [decide_eq_true hq, cond_true, if_pos hq]
      · rw [decide_eq_false hq, cond_false, if_neg hq]
        have hRR := hR
        unfold Right at hR
        have hr : ((p - 15).toNat : Int) = p - 15 := by omega
        generalize (p - 15).toNat = r at *
        have hcl := cnt_le b.size r (by omega)
        rw [refneed_run K hRR b.size r hr hf.1 (by omega), Option.bind_some, refmost_run K hRR, Option.bind_some]
        by_cases hm : (g - 3) * (n - 1) < ((cnt b.size r + 1 : Nat) : Int)
        · rw [condT hm, if_pos hm]
        · rw [condF hm, if_neg hm, cut_loop K hK p n g sq hRR b 0 (by omega) r hr, Option.bind_some]
          have hU := crc_U b
          rw [put4_run K pv hpv (by omega), Option.bind_some, put4_run K fr (by omega) (by omega), Option.bind_some, grdD (by rw [p4_size, p4_size]; omega), refcrc_run K (by omega) b (by omega) (by omega), Option.bind_some, put4_run K _ hU.1 hU.2, Option.bind_some, grdD (by rw [ByteArray.size_append, p4_size, p4_size, p4_size]; omega), w32 (x := (b.size : Int)) (by omega) (by omega), put4_run K _ (by omega) (by omega), Option.bind_some, grdD (by rw [ByteArray.size_append, ByteArray.size_append, p4_size, p4_size, p4_size, p4_size]; omega), grdD (by rw [prts_len]; simp only [List.length_singleton]; omega), prts_len, w32 (by omega) (by omega)]
          rfl
    · rw [if_neg hb, if_pos hb, bne_iff_ne.2 hb, cond_true]
  · rw [decide_eq_false hR, Bool.not_false, cond_true, if_pos hR]
theorem cut_run (K : Nat) (hK : 2000000 ≤ K) (p n g sq pv fr : Int) (hpv : 0 ≤ pv) (w : List Wr) (hw : Small2 w) : F13 K p n g sq pv fr w = some (cutR p n g sq pv fr w) := by
  unfold F13 cutR
  rw [right_run, Option.bind_some]
  by_cases hR : Right p n g
  · rw [decide_eq_true hR, Bool.not_true, cond_false, if_neg (not_not_intro hR), bytes_run K w hw hK, Option.bind_some]
    unfold bout
    by_cases hb : bright w = 0
    · rw [if_pos hb, if_neg (not_not_intro hb)]
      have hf := bb_few hb
      generalize bb w = b at *
      dsimp only
      rw [bne_self_eq_false, cond_false, or4, Option.bind_some]
      by_cases hq : sq ≤ pv ∨ fr < 1 ∨ sq < fr ∨ 2147483647 < sq
      · rw [decide_eq_true (by omega), cond_true, if_pos hq]
      · rw [decide_eq_false (by omega), cond_false, if_neg hq]
        have hRR := hR
        unfold Right at hR
        have hr : ((p - 15).toNat : Int) = p - 15 := by omega
        generalize (p - 15).toNat = r at *
        have hcl := cnt_le b.size r (by omega)
        have hc1 : 0 < cnt b.size r := (cnt_in b.size r 0 (by omega)).2 (by omega)
        rw [need_run K hRR b.size r hr hf.1 (by omega), Option.bind_some, most_run K hRR, Option.bind_some]
        by_cases hm : (g - 3) * (n - 1) < ((cnt b.size r + 1 : Nat) : Int)
        · rw [condT hm, if_pos hm]
        · rw [condF hm, if_neg hm, cut2_loop K hK p n g sq hRR (by omega) (by omega) b 0 (by omega) r hr, Option.bind_some]
          have hU := crc_U b
          rw [sum_run K (by omega) b (by omega) (by omega), Option.bind_some, w32 (x := (b.size : Int)) (by omega) (by omega), prts_len, w32 (by omega) (by omega), frame1_run K _ _ _ _ _ _ (seal_ok sq _ pv fr (crc b) (b.size : Int) (by omega) (by omega) (by omega) hpv (by omega) (by omega) (by omega) (by unfold U; omega) (by omega)), Option.bind_some, grdD (by simp only [List.length_singleton]; omega)]
          rfl
    · rw [if_neg hb, if_pos hb, bne_iff_ne.2 hb, cond_true]
  · rw [decide_eq_false hR, Bool.not_false, cond_true, if_pos hR]
end Go.Proofs.YtlnadpijicfceaaDoor.PCut
