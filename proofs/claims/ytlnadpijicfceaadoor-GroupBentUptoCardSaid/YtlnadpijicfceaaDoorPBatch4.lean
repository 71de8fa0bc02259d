/- What Find, Keys and Make compute; what is made comes back from its bytes. -/
import Derived.Test.YtlnadpijicfceaaDoorPBatch3
namespace Go.Proofs.YtlnadpijicfceaaDoor.PBatch4
open Go.RowKit Go.Proofs.YtlnadpijicfceaaDoor.Mc Go.Proofs.YtlnadpijicfceaaDoor.N Go.Proofs.YtlnadpijicfceaaDoor.Plain Go.Proofs.YtlnadpijicfceaaDoor.PureRune Go.Proofs.YtlnadpijicfceaaDoor.PureKeys Go.Proofs.YtlnadpijicfceaaDoor.PSort Go.Proofs.YtlnadpijicfceaaDoor.PSorted Go.Proofs.YtlnadpijicfceaaDoor.PLay Go.Proofs.YtlnadpijicfceaaDoor.PBatch1 Go.Proofs.YtlnadpijicfceaaDoor.PBatch2 Go.Proofs.YtlnadpijicfceaaDoor.PBatch3
open Go.Proofs.YtlnadpijicfceaaDoor.MLay
open Go.Proofs.YtlnadpijicfceaaDoor.PBook (take_snoc1)
set_option linter.unusedSimpArgs false
set_option linter.unusedVariables false
/-! Find -/
def fdn (l : List Wr) (key : ByteArray) : Nat → Option Wr
  | 0 => none
  | i + 1 => match l[i]? with
    | none => none
    | some w => if w.1.toList == key.toList then some w else fdn l key i
def fo : Option Wr → ByteArray × Bool × ByteArray × Bool
  | none => (ByteArray.empty, false, ByteArray.empty, false)
  | some w => (w.1, w.2.1, w.2.2, true)
theorem reffind_loop (K : Nat) (l : List Wr) (key : ByteArray) (hl : l.length ≤ 1000000) : ∀ (i k : Nat) (z : ByteArray × ByteArray), i ≤ l.length → i < k → ∃ r, loopN (L54_6 K l key) k ((i : Int) - 1, z) = some r ∧ sel (fun y17 : ByteArray × Bool × ByteArray => some (y17.1, y17.2.1, y17.2.2, true)) (fun _ => some (ByteArray.empty, false, ByteArray.empty, false)) r = some (fo (fdn l key i))
  | 0, k, z, hi, hk => by
    obtain ⟨k, rfl⟩ : ∃ q, k = q + 1 := ⟨k - 1, by omega⟩
    exact ⟨_, loop_end (by unfold L54_6; rw [condF (by show ¬ (0 : Int) ≤ ((0 : Nat) : Int) - 1; omega)]), rfl⟩
  | i + 1, k, z, hi, hk => by
    obtain ⟨k, rfl⟩ : ∃ q, k = q + 1 := ⟨k - 1, by omega⟩
    have hli : l[i]? = some l[i] := List.getElem?_eq_getElem (by omega)
    have e : (((i + 1 : Nat) : Int) - 1) = (i : Int) := by omega
    rw [e, fdn, hli]
    simp only []
    cases hb : l[i].1.toList == key.toList with
    | true =>
      refine ⟨_, loop_end (r := .inl (l[i].1, l[i].2.1, l[i].2.2)) ?_, rfl⟩
      unfold L54_6
      simp only [ixn, hli, Option.bind_some]
      rw [condT (by omega), hb, cond_true]
    | false =>
      obtain ⟨r, r1, r2⟩ := reffind_loop K l key hl i k z (by omega) (by omega)
      refine ⟨r, ?_, r2⟩
      rw [loop_step (b := ((i : Int) - 1, z))]
      · exact r1
      · unfold L54_6
        simp only [ixn, hli, Option.bind_some]
        rw [condT (by omega), hb, cond_false, w64 (by omega) (by omega)]
theorem reffind_run (K : Nat) (l : List Wr) (key : ByteArray) (hl : l.length ≤ 1000000) (hK : 2000000 ≤ K) : F54 K l key = some (fo (fdn l key l.length)) := by
  obtain ⟨r, r1, r2⟩ := reffind_loop K l key hl l.length K (ByteArray.empty, ByteArray.empty) (Nat.le_refl _) (by omega)
  unfold F54
  rw [w64 (by omega) (by omega), r1, Option.bind_some]
  exact r2
/-! Keys -/
def kl (l : List Wr) : List ByteArray := l.map (·.1)
noncomputable def ks (l : List Wr) : List ByteArray := srt (kl l)
theorem kl_len (l : List Wr) : (kl l).length = l.length := List.length_map _
theorem kl_small {l : List Wr} (h : Small2 l) : Small (kl l) := fun a ha => by
  obtain ⟨w, hw, rfl⟩ := List.mem_map.1 ha
  exact (h w hw).1
theorem ks_len (l : List Wr) : (ks l).length ≤ l.length := by have := srt_len (kl l); rw [kl_len] at this; exact this
theorem refkeys_run (K : Nat) (l : List Wr) (hs : Small2 l) (hl : l.length ≤ 1000000) (hK : 2000000 ≤ K) : F53 K l = some (ks l) := by
  unfold F53
  rw [loop_go (r := kl l) (fun i => ((i : Int), kl (l.take i))) l.length (by rfl) (by omega) ?_ ?_, Option.bind_some, ks_run K hK (kl_small hs) (by rw [kl_len]; exact hl), Option.bind_some]; rfl
  · intro i hi
    unfold L53_8
    rw [condT (by omega), ixn, List.getElem?_eq_getElem hi, Option.bind_some, grdD (by simp only [kl_len, List.length_take, List.length_singleton]; omega), w64 (by omega) (by omega), take_snoc1 hi, kl, kl, List.map_append]; rfl
  · unfold L53_8
    rw [condF (by omega), List.take_length]
/-! Make -/
def mw (l : List Wr) (key : ByteArray) : Wr :=
  let f := fo (fdn l key l.length)
  (f.1, f.2.1, cond f.2.1 (⟨#[]⟩ : ByteArray) f.2.2.1)
noncomputable def mk (l : List Wr) : List Wr := (ks l).map (mw l)
theorem refmake_run (K : Nat) (l : List Wr) (hs : Small2 l) (hl : l.length ≤ 1000000) (hK : 2000000 ≤ K) : F27 K l = some (mk l) := by
  have hkl := ks_len l
  unfold F27
  rw [refkeys_run K l hs hl hK, Option.bind_some, loop_go (r := mk l) (fun i => ((i : Int), ((ks l).take i).map (mw l))) (ks l).length (by rfl) (by omega) ?_ ?_]; rfl
  · intro i hi
    unfold L27_10
    simp only [ixn, Int.toNat_natCast, List.getElem?_eq_getElem hi, Option.bind_some]
    rw [condT (by omega), reffind_run K l _ hl hK, Option.bind_some]
    have e : ((cond (fo (fdn l (ks l)[i] l.length)).2.1 (some ((fo (fdn l (ks l)[i] l.length)).1, (fo (fdn l (ks l)[i] l.length)).2.1, (⟨#[]⟩ : ByteArray))) (some ((fo (fdn l (ks l)[i] l.length)).1, (fo (fdn l (ks l)[i] l.length)).2.1, (fo (fdn l (ks l)[i] l.length)).2.2.1)) : Option (ByteArray × Bool × ByteArray))) = some (mw l (ks l)[i]) := by
      unfold mw
      dsimp only
      cases (fo (fdn l (ks l)[i] l.length)).2.1 <;> rfl
    rw [e, Option.bind_some, grdD (by simp only [List.length_map, List.length_take, List.length_singleton]; omega), w64 (by omega) (by omega), take_snoc1 hi, List.map_append]; rfl
  · unfold L27_10
    rw [condF (by omega), List.take_length]; rfl
theorem mk_len (l : List Wr) : (mk l).length ≤ l.length := by unfold mk; rw [List.length_map]; exact ks_len l
/-- what is found -/
theorem fdn_some (l : List Wr) (key : ByteArray) : ∀ (i : Nat) {w : Wr}, fdn l key i = some w → w ∈ l ∧ w.1 = key
  | 0, w, h => by cases h
  | i + 1, w, h => by
    rw [fdn] at h
    cases hli : l[i]? with
    | none => rw [hli] at h; cases h
    | some v =>
      rw [hli] at h
      simp only at h
      cases hb : v.1.toList == key.toList with
      | true =>
        rw [hb] at h
        cases h
        exact ⟨List.mem_of_getElem? hli, ba_ext (beq_iff_eq.1 hb)⟩
      | false =>
        rw [hb] at h
        exact fdn_some l key i h
theorem fdn_ex (l : List Wr) (key : ByteArray) : ∀ (i : Nat), (∃ j w, j < i ∧ l[j]? = some w ∧ w.1 = key) → i ≤ l.length → ∃ w, fdn l key i = some w
  | 0, ⟨j, w, h, _⟩, _ => by omega
  | i + 1, ⟨j, w, h1, h2, h3⟩, hi => by
    rw [fdn]
    have hli : l[i]? = some l[i] := List.getElem?_eq_getElem (by omega)
    rw [hli]
    simp only
    cases hb : l[i].1.toList == key.toList with
    | true => exact ⟨_, rfl⟩
    | false =>
      refine fdn_ex l key i ⟨j, w, ?_, h2, h3⟩ (by omega)
      rcases Nat.lt_succ_iff_lt_or_eq.1 h1 with h | rfl
      · exact h
      · rw [hli] at h2
        cases h2
        rw [h3] at hb
        simp at hb
theorem mw_of {l : List Wr} {key : ByteArray} (h : key ∈ kl l) : ∃ w, w ∈ l ∧ w.1 = key ∧ mw l key = (key, w.2.1, cond w.2.1 (⟨#[]⟩ : ByteArray) w.2.2) := by
  obtain ⟨v, hv, rfl⟩ := List.mem_map.1 h
  obtain ⟨j, hj, e⟩ := List.getElem_of_mem hv
  obtain ⟨w, hw⟩ := fdn_ex l v.1 l.length ⟨j, v, hj, by rw [List.getElem?_eq_getElem hj, e], rfl⟩ (Nat.le_refl _)
  obtain ⟨h1, h2⟩ := fdn_some l v.1 l.length hw
  refine ⟨w, h1, h2, ?_⟩
  unfold mw
  rw [hw, ← h2]
  rfl
theorem mk_mem {l : List Wr} {w : Wr} (h : w ∈ mk l) : ∃ v ∈ l, w = (v.1, v.2.1, cond v.2.1 (⟨#[]⟩ : ByteArray) v.2.2) := by
  obtain ⟨k, hk, rfl⟩ := List.mem_map.1 h
  obtain ⟨v, h1, h2, h3⟩ := mw_of ((srt_mem _ _).1 hk)
  exact ⟨v, h1, by rw [h3, h2]⟩
theorem mk_keys (l : List Wr) : kl (mk l) = ks l := by
  unfold kl mk
  rw [List.map_map]
  have : ∀ k ∈ ks l, ((fun w : Wr => w.1) ∘ mw l) k = k := by
    intro k hk
    obtain ⟨w, _, _, h⟩ := mw_of ((srt_mem _ _).1 hk)
    simp only [Function.comp, h]
  rw [List.map_congr_left this, List.map_id']
theorem cond_size {b : Bool} {s : ByteArray} {n : Nat} (h : s.size ≤ n) : (cond b (⟨#[]⟩ : ByteArray) s).size ≤ n := by
  cases b
  · exact h
  · exact Nat.zero_le _
theorem mk_small {l : List Wr} (h : Small2 l) : Small2 (mk l) := by
  intro w hw
  obtain ⟨v, hv, rfl⟩ := mk_mem hw
  exact ⟨(h v hv).1, cond_size (h v hv).2⟩
/-- a batch -/
structure Bat (l : List Wr) : Prop where
  ofParts ::
  sorted : (kl l).Pairwise (fun x y => lt x y = true)
  keys : ∀ w ∈ l, kr w.1 = true
  vals : ∀ w ∈ l, w.2.2.size ≤ 48
  dels : ∀ w ∈ l, w.2.1 = true → w.2.2 = ⟨#[]⟩
  one : 1 ≤ l.length
  most : l.length ≤ 8
theorem Bat.bright {l : List Wr} (h : Bat l) : bright l = 0 := by
  unfold PBatch1.bright
  rw [if_neg (by have := h.one; have := h.most; omega)]
  refine firstBad_zero _ _ _ fun j _ hj => ?_
  have hj : j < l.length := by omega
  have hlj : l[j]? = some l[j] := List.getElem?_eq_getElem hj
  have hm := List.getElem_mem hj
  rw [wcode_at hlj, h.keys _ hm, decide_eq_false (by have := h.vals _ hm; omega)]
  have hah : (!decide (0 < j) || (l[j - 1]?.map fun v => lt v.1 l[j].1).getD true) = true := by
    by_cases h0 : 0 < j
    · rw [List.getElem?_eq_getElem (by omega), Option.map_some, Option.getD_some]
      have := List.pairwise_iff_getElem.1 h.sorted (j - 1) j (by rw [kl_len]; omega) (by rw [kl_len]; omega) (by omega)
      unfold kl at this
      rw [List.getElem_map, List.getElem_map] at this
      rw [this, Bool.or_true]
    · rw [decide_eq_false h0]; rfl
  rw [hah]
  cases hd : l[j].2.1 with
  | false => rfl
  | true =>
    have := h.dels _ hm hd
    rw [this]
    simp [wcd]
/-- what was laid is read -/
theorem one_read {A B : ByteArray} {w : Wr} (hk : w.1.size ≤ 48) (hv : w.2.2.size ≤ 48) (hd : w.2.1 = true → w.2.2 = ⟨#[]⟩) (hA : A.size ≤ 1000000) (hB : B.size ≤ 1000000) :
    ro (A ++ wb w ++ B) A.size = (w.1, w.2.1, w.2.2, ((A.size + (wb w).size : Nat) : Int), 0) := by
  have n1 := (nI_length _ (ln_lt w.1)).2
  have n2 := (nI_length _ (ln_lt w.2.2)).2
  cases hw : w.2.1 with
  | true =>
    have ew : wb w = (⟨#[1]⟩ : ByteArray) ++ tx w.1 := by unfold wb; rw [hw]; rfl
    have e1 : A ++ wb w ++ B = A ++ strOfNums [1] ++ (tx w.1 ++ B) := by rw [ew, show (⟨#[1]⟩ : ByteArray) = strOfNums [1] from rfl]; simp [ByteArray.append_assoc]
    have hb : bt (A ++ wb w ++ B) A.size = 1 := by
      rw [e1]
      have := bt_mid A (tx w.1 ++ B) [1] (fun j x hx => by rw [List.mem_singleton.1 (List.mem_of_getElem? hx)]; decide) 0 1 rfl
      simpa using this
    have hA1 : (A ++ strOfNums [1]).size = A.size + 1 := by rw [ByteArray.size_append]; rfl
    have ht := text_read (A ++ strOfNums [1]) B w.1 (by omega) 48
    rw [hA1, if_neg (by omega)] at ht
    have e2 : A ++ wb w ++ B = A ++ strOfNums [1] ++ (strOfNums (nI (ln w.1)) ++ w.1) ++ B := by rw [e1]; unfold tx; simp [ByteArray.append_assoc]
    have hsz : (A ++ wb w ++ B).size = A.size + (wb w).size + B.size := by rw [ByteArray.size_append, ByteArray.size_append]
    have hwb : (wb w).size = 1 + ((nI (ln w.1)).length + w.1.size) := by rw [ew, ByteArray.size_append, tx_size]; rfl
    unfold ro
    rw [if_neg (by omega), hb, if_neg (by decide)]
    dsimp only
    rw [if_pos (Or.inr rfl), show (A.size : Int) + 1 = ((A.size + 1 : Nat) : Int) by omega, e2, ht, hd hw]
    refine Prod.ext rfl (Prod.ext rfl (Prod.ext rfl (Prod.ext ?_ rfl)))
    dsimp only
    omega
  | false =>
    have ew : wb w = (⟨#[0]⟩ : ByteArray) ++ tx w.1 ++ tx w.2.2 := by unfold wb; rw [hw]; rfl
    have e1 : A ++ wb w ++ B = A ++ strOfNums [0] ++ (tx w.1 ++ tx w.2.2 ++ B) := by rw [ew, show (⟨#[0]⟩ : ByteArray) = strOfNums [0] from rfl]; simp [ByteArray.append_assoc]
    have hb : bt (A ++ wb w ++ B) A.size = 0 := by
      rw [e1]
      have := bt_mid A (tx w.1 ++ tx w.2.2 ++ B) [0] (fun j x hx => by rw [List.mem_singleton.1 (List.mem_of_getElem? hx)]; decide) 0 0 rfl
      simpa using this
    have hA1 : (A ++ strOfNums [0]).size = A.size + 1 := by rw [ByteArray.size_append]; rfl
    have ht := text_read (A ++ strOfNums [0]) (tx w.2.2 ++ B) w.1 (by omega) 48
    rw [hA1, if_neg (by omega)] at ht
    have e2 : A ++ wb w ++ B = A ++ strOfNums [0] ++ (strOfNums (nI (ln w.1)) ++ w.1) ++ (tx w.2.2 ++ B) := by rw [e1]; unfold tx; simp [ByteArray.append_assoc]
    have hA2 : (A ++ strOfNums [0] ++ tx w.1).size = A.size + 1 + ((nI (ln w.1)).length + w.1.size) := by rw [ByteArray.size_append, hA1, tx_size]
    have ht2 := text_read (A ++ strOfNums [0] ++ tx w.1) B w.2.2 (by omega) 48
    rw [hA2, if_neg (by omega)] at ht2
    have e3 : A ++ wb w ++ B = A ++ strOfNums [0] ++ tx w.1 ++ (strOfNums (nI (ln w.2.2)) ++ w.2.2) ++ B := by rw [e1]; unfold tx; simp [ByteArray.append_assoc]
    have hsz : (A ++ wb w ++ B).size = A.size + (wb w).size + B.size := by rw [ByteArray.size_append, ByteArray.size_append]
    have hwb : (wb w).size = 1 + ((nI (ln w.1)).length + w.1.size) + ((nI (ln w.2.2)).length + w.2.2.size) := by rw [ew, ByteArray.size_append, ByteArray.size_append, tx_size, tx_size]; rfl
    have t1 : getText (A ++ wb w ++ B) ((A.size : Int) + 1) 48 = (w.1, ((A.size + 1 + ((nI (ln w.1)).length + w.1.size) : Nat) : Int), 0) := by
      rw [show (A.size : Int) + 1 = ((A.size + 1 : Nat) : Int) by omega, e2, ht]
      refine Prod.ext rfl (Prod.ext ?_ rfl)
      dsimp only
      omega
    have t2 : getText (A ++ wb w ++ B) ((A.size + 1 + ((nI (ln w.1)).length + w.1.size) : Nat) : Int) 48 = (w.2.2, ((A.size + (wb w).size : Nat) : Int), 0) := by
      rw [e3, ht2]
      refine Prod.ext rfl (Prod.ext ?_ rfl)
      dsimp only
      omega
    unfold ro
    rw [if_neg (by omega), hb, if_neg (by decide)]
    dsimp only
    rw [t1]
    dsimp only
    rw [t2, if_neg (by decide)]
    rfl
theorem rd_back : ∀ (l : List Wr) (A : ByteArray) (out : List Wr), (∀ w ∈ l, w.1.size ≤ 48) → (∀ w ∈ l, w.2.2.size ≤ 48) → (∀ w ∈ l, w.2.1 = true → w.2.2 = ⟨#[]⟩) → A.size + (cat l).size ≤ 1000000 →
    rd (A ++ cat l) l.length A.size out = .inr (((A.size + (cat l).size : Nat) : Int), out ++ l)
  | [], A, out, _, _, _, _ => by
    rw [List.length_nil, rd, List.append_nil]; rfl
  | w :: l, A, out, h1, h2, h3, hs => by
    rw [cat, ByteArray.size_append] at hs
    have e : A ++ cat (w :: l) = A ++ wb w ++ cat l := by rw [cat, ByteArray.append_assoc]
    have ho := one_read (A := A) (B := cat l) (h1 w (by simp)) (h2 w (by simp)) (h3 w (by simp)) (by omega) (by omega)
    have ih := rd_back l (A ++ wb w) (out ++ [w]) (fun v hv => h1 v (by simp [hv])) (fun v hv => h2 v (by simp [hv])) (fun v hv => h3 v (by simp [hv])) (by rw [ByteArray.size_append]; omega)
    rw [e, List.length_cons, rd, ho]
    dsimp only
    rw [if_neg (by decide), ← ByteArray.size_append, ih, List.append_assoc]
    refine congrArg Sum.inr (Prod.ext ?_ rfl)
    dsimp only
    rw [cat, ByteArray.size_append, ByteArray.size_append, Nat.add_assoc]
theorem Bat.back {l : List Wr} (h : Bat l) : bread (bb l) = (l, 0) := by
  have hk : ∀ w ∈ l, w.1.size ≤ 48 := fun w hw => kr_size (h.keys w hw)
  have hc : ∀ m : List Wr, (∀ w ∈ m, w.1.size ≤ 48) → (∀ w ∈ m, w.2.2.size ≤ 48) → (cat m).size ≤ 200 * m.length := by
    intro m
    induction m with
    | nil => intro _ _; exact Nat.le_refl _
    | cons w m ih =>
      intro a b
      have := ih (fun v hv => a v (by simp [hv])) (fun v hv => b v (by simp [hv]))
      have s1 := a w (by simp)
      have s2 := b w (by simp)
      have n1 := (nI_length _ (ln_lt w.1)).2
      have n2 := (nI_length _ (ln_lt w.2.2)).2
      have hwb : (wb w).size ≤ 150 := by
        unfold wb
        cases w.2.1 with
        | true => rw [cond_true, ByteArray.size_append, tx_size]; show 1 + _ ≤ _; omega
        | false => rw [cond_false, ByteArray.size_append, ByteArray.size_append, tx_size, tx_size]; show 1 + _ + _ ≤ _; omega
      rw [cat, ByteArray.size_append, List.length_cons]; omega
  have hcs := hc l hk h.vals
  have hn := numsize l.length h.most
  have h1 := h.one
  have h2 := h.most
  have hnum := num_read (⟨#[]⟩ : ByteArray) (cat l) l.length (by omega)
  rw [nil_ba] at hnum
  have hnum' : getNum (bt (bb l)) (bb l).size 0 = ((l.length : Int), ((strOfNums (nI l.length)).size : Int), 0) := by
    rw [strOfNums_size]
    have hb : bb l = strOfNums (nI l.length) ++ cat l := rfl
    rw [hb]
    refine Eq.trans hnum (Prod.ext rfl (Prod.ext ?_ rfl))
    show ((0 : Nat) : Int) + ((nI l.length).length : Int) = ((nI l.length).length : Int)
    omega
  have hsz : (bb l).size = (strOfNums (nI l.length)).size + (cat l).size := by unfold bb; rw [ByteArray.size_append]
  unfold bread
  rw [hnum']
  dsimp only
  rw [if_neg (by decide), if_neg (by omega), Int.toNat_natCast]
  have hr := rd_back l (strOfNums (nI l.length)) [] hk h.vals h.dels (by omega)
  rw [show bb l = strOfNums (nI l.length) ++ cat l from rfl, hr]
  dsimp only
  rw [List.nil_append, if_neg (by rw [ByteArray.size_append]; omega), h.bright, if_neg (by decide)]
/-- found in a row without doubles -/
theorem fdn_self {l : List Wr} (hs : (kl l).Pairwise (fun x y => lt x y = true)) {w : Wr} (hw : w ∈ l) : fdn l w.1 l.length = some w := by
  obtain ⟨j, hj, e⟩ := List.getElem_of_mem hw
  obtain ⟨v, hv⟩ := fdn_ex l w.1 l.length ⟨j, w, hj, by rw [List.getElem?_eq_getElem hj, e], rfl⟩ (Nat.le_refl _)
  obtain ⟨h1, h2⟩ := fdn_some l w.1 l.length hv
  obtain ⟨i, hi, e2⟩ := List.getElem_of_mem h1
  rw [hv]
  congr 1
  have key : ∀ a b : Nat, (ha : a < l.length) → (hb : b < l.length) → a < b → l[a].1 ≠ l[b].1 := by
    intro a b ha hb hab h
    have := List.pairwise_iff_getElem.1 hs a b (by rw [kl_len]; exact ha) (by rw [kl_len]; exact hb) hab
    unfold kl at this
    rw [List.getElem_map, List.getElem_map, h, lt_irrefl] at this
    cases this
  rcases Nat.lt_trichotomy i j with h | h | h
  · exact absurd (by rw [e2, e, h2]) (key i j hi hj h)
  · subst h; rw [← e2, ← e]
  · exact absurd (by rw [e2, e, h2]) (key j i hj hi h)
theorem ks_self {l : List Wr} (hs : (kl l).Pairwise (fun x y => lt x y = true)) : ks l = kl l :=
  sorted_uniq (srt_sorted _) hs fun x => srt_mem _ x
theorem Bat.again {l : List Wr} (h : Bat l) : mk l = l := by
  unfold mk
  rw [ks_self h.sorted]
  unfold kl
  rw [List.map_map]
  have : ∀ w ∈ l, (mw l ∘ fun w : Wr => w.1) w = w := by
    intro w hw
    simp only [Function.comp, mw, fdn_self h.sorted hw, fo]
    cases hd : w.2.1 with
    | false => rw [cond_false, ← hd]
    | true => rw [cond_true, ← h.dels w hw hd, ← hd]
  rw [List.map_congr_left this, List.map_id']
theorem made {l : List Wr} (hk : ∀ w ∈ l, kr w.1 = true) (hv : ∀ w ∈ l, w.2.2.size ≤ 48) (h1 : 1 ≤ l.length) (h8 : l.length ≤ 8) : Bat (mk l) where
  sorted := by rw [mk_keys]; exact srt_sorted _
  keys w hw := by
    obtain ⟨v, hv, rfl⟩ := mk_mem hw
    exact hk v hv
  vals w hw := by
    obtain ⟨v, hm, rfl⟩ := mk_mem hw
    exact cond_size (hv v hm)
  dels w hw hd := by
    obtain ⟨v, hv, rfl⟩ := mk_mem hw
    dsimp only at hd ⊢
    rw [hd]; rfl
  one := by
    cases l with
    | nil => simp at h1
    | cons w l =>
      have : w.1 ∈ ks (w :: l) := (srt_mem _ _).2 (by simp [kl])
      have := List.length_pos_of_mem this
      unfold mk
      rw [List.length_map]; exact this
  most := Nat.le_trans (mk_len l) h8
end Go.Proofs.YtlnadpijicfceaaDoor.PBatch4
