/- What Quote and the document's GlobQuote compute; the items of a quoted text; what they match. -/
import Derived.Test.YtodhjfdlbbpbpaaDoorPGlob3
import Derived.Test.YtodhjfdlbbpbpaaDoorPKeyRight
namespace Go.Proofs.YtodhjfdlbbpbpaaDoor.PGlob4
open Go.RowKit Go.Proofs.YtodhjfdlbbpbpaaDoor.Mc Go.Proofs.YtodhjfdlbbpbpaaDoor.N Go.Proofs.YtodhjfdlbbpbpaaDoor.Plain Go.Proofs.YtodhjfdlbbpbpaaDoor.PureRune Go.Proofs.YtodhjfdlbbpbpaaDoor.PureKeys Go.Proofs.YtodhjfdlbbpbpaaDoor.PureHead Go.Proofs.YtodhjfdlbbpbpaaDoor.PureJoin Go.Proofs.YtodhjfdlbbpbpaaDoor.PureBytes Go.Proofs.YtodhjfdlbbpbpaaDoor.PGlob1 Go.Proofs.YtodhjfdlbbpbpaaDoor.PGlob2 Go.Proofs.YtodhjfdlbbpbpaaDoor.PGlob3
set_option linter.unusedSimpArgs false
set_option linter.unusedVariables false
def ci (u : List Nat) : List Int := u.map fun b : Nat => (b : Int)
theorem ci_app (u v : List Nat) : ci (u ++ v) = ci u ++ ci v := List.map_append
theorem strNums_bs (s : ByteArray) : strNums s = ci (bs s 0) := by
  unfold strNums ci bs
  rw [List.drop_zero, List.map_map]; rfl
theorem bs_extract (s : ByteArray) (p w : Nat) : bs (s.extract p (p + w)) 0 = (bs s p).take w := by
  unfold bs
  rw [Lib.extract_data, List.drop_zero, Nat.add_sub_cancel_left, List.map_take]
theorem piece (s : ByteArray) (p w : Nat) : strNums (s.extract p (p + w)) = ci ((bs s p).take w) := by rw [strNums_bs, bs_extract]
/-- which runes are quoted, as the code asks -/
theorem chain (r : Nat) : (cond (((r : Int)) == 42) (some (((r : Int)) == 42)) (cond (((r : Int)) == 63) (some (((r : Int)) == 63)) (cond (((r : Int)) == 91) (some (((r : Int)) == 91)) (cond (((r : Int)) == 93) (some (((r : Int)) == 93)) (cond (((r : Int)) == 92) (some (((r : Int)) == 92)) (cond (((r : Int)) == 94) (some (((r : Int)) == 94)) (some (((r : Int)) == 45))))))) : Option Bool) = some (spc r) := by
  have e : ∀ c : Nat, ((r : Int) == (c : Int)) = (r == c) := fun c => by rw [Bool.eq_iff_iff, beq_iff_eq, beq_iff_eq]; omega
  have e1 := e 42; have e2 := e 63; have e3 := e 91; have e4 := e 93; have e5 := e 92; have e6 := e 94; have e7 := e 45
  simp only [Int.cast_ofNat_Int] at e1 e2 e3 e4 e5 e6 e7
  rw [show ((r : Int) == 42) = (r == 42) from e1, show ((r : Int) == 63) = (r == 63) from e2, show ((r : Int) == 91) = (r == 91) from e3, show ((r : Int) == 93) = (r == 93) from e4, show ((r : Int) == 92) = (r == 92) from e5, show ((r : Int) == 94) = (r == 94) from e6, show ((r : Int) == 45) = (r == 45) from e7]
  unfold spc
  cases r == 42 <;> cases r == 63 <;> cases r == 91 <;> cases r == 93 <;> cases r == 92 <;> cases r == 94 <;> rfl
theorem wstr (K : Nat) (s : ByteArray) (x : List Int) (h : x.length + s.size ≤ 140737488355328) : F21 K s x = some ((s.size : Int), x ++ strNums s) := by
  unfold F21 F27
  rw [Option.bind_some, grdD h]
theorem wbyte (K : Nat) (c : Int) (x : List Int) (h : x.length + 1 ≤ 140737488355328) : F20 K c x = some (x ++ [c]) := by
  unfold F20 F27
  rw [Option.bind_some, grdD (by simp only [List.length_singleton]; omega)]
theorem quote_loop (K : Nat) (s : ByteArray) (hs : s.size ≤ 1000000000) (y : List Sg) (hy : y.length ≤ 1000000000) : ∀ {p : Nat} {L : List (Nat × Nat)}, Runes s p L → ∀ (i k : Nat) (x : List Int), y.drop i = sg s p L → i ≤ y.length → x.length + (qn (bs s p) L).length ≤ 10000000000 → L.length < k →
    loopN (L12_8 K y) k ((i : Int), x) = some (x ++ ci (qn (bs s p) L))
  | _, _, .nil p h, i, k, x, hd, hi, hx, hk => by
    obtain ⟨k, rfl⟩ : ∃ q, k = q + 1 := ⟨k - 1, by omega⟩
    have : y.length ≤ i := by
      have := congrArg List.length hd
      rw [List.length_drop] at this
      simp [sg] at this; omega
    refine loop_end ?_
    unfold L12_8
    rw [condF (by omega)]
    simp only [qn, ci, List.map_nil, List.append_nil]
  | _, _, .cons p h L t, i, k, x, hd, hi, hx, hk => by
    simp only [List.length_cons] at hk
    obtain ⟨k, rfl⟩ : ∃ q, k = q + 1 := ⟨k - 1, by omega⟩
    obtain ⟨h1, h2, h3⟩ := drop_at hd
    have hw := width_le s p h
    have hsz : (s.extract p (p + (Utf8.decode s p).2)).size ≤ s.size := by rw [ByteArray.size_extract]; omega
    have hq : qn (bs s p) (Utf8.decode s p :: L) = (if spc (Utf8.decode s p).1 then [92] else []) ++ ((bs s p).take (Utf8.decode s p).2 ++ qn (bs s (p + (Utf8.decode s p).2)) L) := by rw [qn, bs_drop]
    rw [hq] at hx ⊢
    simp only [List.length_append] at hx
    have hpl : ((bs s p).take (Utf8.decode s p).2).length = (s.extract p (p + (Utf8.decode s p).2)).size := by
      rw [ByteArray.size_extract, List.length_take, bs_len]; omega
    have w1 : IntKind.wrap .i64 ((i : Int) + 1) = ((i + 1 : Nat) : Int) := by rw [w64 (by omega) (by omega)]; omega
    have ih := quote_loop K s hs y hy t (i + 1) k (x ++ ci (if spc (Utf8.decode s p).1 then [92] else []) ++ ci ((bs s p).take (Utf8.decode s p).2)) h3 (by omega) (by
      simp only [List.length_append, ci, List.length_map]; omega) (by omega)
    rw [loop_step (b := (((i + 1 : Nat) : Int), x ++ ci (if spc (Utf8.decode s p).1 then [92] else []) ++ ci ((bs s p).take (Utf8.decode s p).2))), ih]
    · rw [ci_app, ci_app, List.append_assoc, List.append_assoc]
    · unfold L12_8
      simp only [ixn, Int.toNat_natCast, h2, Option.bind_some, w1]
      rw [condT (by omega), chain, Option.bind_some]
      cases spc (Utf8.decode s p).1 with
      | true =>
        simp only [if_true, List.length_singleton] at hx ⊢
        rw [cond_true, wbyte _ _ _ (by omega), Option.bind_some, Option.bind_some, wstr _ _ _ (by simp only [List.length_append, List.length_singleton]; omega), Option.bind_some, piece]; rfl
      | false =>
        simp only [Bool.false_eq_true, if_false, List.length_nil] at hx ⊢
        rw [cond_false, Option.bind_some, wstr _ _ _ (by omega), Option.bind_some, piece]
        simp only [ci, List.map_nil, List.append_nil]
theorem byteB_ci {u : List Nat} (h : ∀ b ∈ u, b < 256) : byteB (ci u) = true := by
  unfold byteB ci
  rw [List.all_map, List.all_eq_true]
  intro b hb
  have := h b hb
  simp only [Function.comp, Bool.and_eq_true, decide_eq_true_eq]
  omega
theorem qn_lt : ∀ (L : List (Nat × Nat)) (u : List Nat), (∀ b ∈ u, b < 256) → ∀ b ∈ qn u L, b < 256
  | [], u, h, b, hb => by simp [qn] at hb
  | x :: L, u, h, b, hb => by
    rw [qn] at hb
    rcases List.mem_append.1 hb with hb | hb
    · split at hb
      · simp at hb; omega
      · simp at hb
    · rcases List.mem_append.1 hb with hb | hb
      · exact h b (List.mem_of_mem_take hb)
      · exact qn_lt L _ (fun c hc => h c (List.mem_of_mem_drop hc)) b hb
theorem bs_son {u : List Nat} (h : ∀ b ∈ u, b < 256) : bs (strOfNums (ci u)) 0 = u := by
  unfold bs strOfNums ci
  rw [List.drop_zero, List.map_map, List.map_map]
  have : ∀ l : List Nat, (∀ b ∈ l, b < 256) → l.map (UInt8.toNat ∘ ((fun n : Int => UInt8.ofNat n.toNat) ∘ fun b : Nat => (b : Int))) = l := by
    intro l hl
    induction l with
    | nil => rfl
    | cons b l ih =>
      rw [List.map_cons, ih (fun c hc => hl c (by simp [hc]))]
      congr 1
      have := hl b (by simp)
      simp only [Function.comp, Int.toNat_natCast, UInt8.toNat_ofNat']
      omega
  exact this u h
/-- a text, quoted -/
def qB (s : ByteArray) (L : List (Nat × Nat)) : ByteArray := strOfNums (ci (qn (bs s 0) L))
theorem qB_bs (s : ByteArray) (L : List (Nat × Nat)) : bs (qB s L) 0 = qn (bs s 0) L := bs_son (qn_lt L _ (bs_lt s 0))
theorem qB_size (s : ByteArray) (L : List (Nat × Nat)) : (qB s L).size ≤ s.size + L.length := by
  have := qn_length L (bs s 0)
  rw [bs_len] at this
  unfold qB
  rw [strOfNums_size, ci, List.length_map]
  omega
theorem quote_run (K : Nat) {s : ByteArray} (hs : s.size ≤ 1000000000) {L : List (Nat × Nat)} (hL : Runes s 0 L) (hk : L.length < K) (hl : L.length ≤ s.size) : F12 K s = some (qB s L) := by
  have hn := qn_length L (bs s 0)
  rw [bs_len] at hn
  have hg := sg_len s L 0
  unfold F12
  rw [signs_run K hs hL hk hl, Option.bind_some, show (0 : Int) = ((0 : Nat) : Int) from rfl, quote_loop K s hs (sg s 0 L) (by omega) hL 0 K [] rfl (by omega) (by simp only [List.length_nil]; omega) hk, Option.bind_some, List.nil_append]
  unfold F22 qB
  rw [grdT (byteB_ci (qn_lt L _ (bs_lt s 0)))]; rfl
theorem qB_runes {s : ByteArray} {L : List (Nat × Nat)} (hL : Runes s 0 L) : Runes (qB s L) 0 (ql L) := of_runesL (by rw [qB_bs]; exact qn_runes (runesL_of hL))
/-! the items of a quoted text -/
theorem pr_quote (t : ByteArray) : ∀ {u : List Nat} {L : List (Nat × Nat)}, RunesL u L → ∀ (p : Nat) (rest : List Nat), bs t p = qn u L ++ rest →
    ∃ o, Pr (sg t p (ql L)) o ∧ (∀ x ∈ o, x.1 = 0) ∧ o.map (·.2.1) = L.map (fun x => (x.1 : Int)) ∧ (o.map fun x => strNums x.2.2.1).flatten = ci u
  | _, _, .nil, p, rest, _ => ⟨[], .nil, fun _ h => (by cases h), rfl, rfl⟩
  | u, _, .cons _ h L tt, p, rest, hb => by
    have hw := decL_w u h
    unfold qn at hb
    unfold ql
    cases hs : spc (decL u).1 with
    | true =>
      simp only [hs, if_true, List.singleton_append, List.cons_append, List.append_assoc] at hb ⊢
      have hp : p < t.size := by
        rcases Nat.lt_or_ge p t.size with h | h
        · exact h
        · rw [bs_end t p h] at hb; cases hb
      rw [bs_cons t p hp] at hb
      have hb2 : bs t (p + 1) = u.take (decL u).2 ++ (qn (u.drop (decL u).2) L ++ rest) := (List.cons.inj hb).2
      have hb3 : bs t (p + 1 + (decL u).2) = qn (u.drop (decL u).2) L ++ rest := by
        rw [← bs_drop, hb2, List.drop_append_of_le_length (by rw [List.length_take]; omega), List.drop_of_length_le (by rw [List.length_take]; omega), List.nil_append]
      obtain ⟨o, o1, o2, o3, o4⟩ := pr_quote t tt (p + 1 + (decL u).2) rest hb3
      refine ⟨iOne ((decL u).1 : Int) (t.extract (p + 1) (p + 1 + (decL u).2)) :: o, ?_, ?_, ?_, ?_⟩
      · simp only [sg]
        exact .esc _ _ _ _ _ o1
      · intro x hx
        rcases List.mem_cons.1 hx with rfl | hx
        · rfl
        · exact o2 x hx
      · rw [List.map_cons, List.map_cons, o3]
      · rw [List.map_cons, List.flatten_cons, o4, piece, hb2, ← ci_app, List.take_append_of_le_length (by rw [List.length_take]; omega), List.take_of_length_le (by rw [List.length_take]; omega), List.take_append_drop]
    | false =>
      simp only [hs, Bool.false_eq_true, if_false, List.nil_append, List.append_assoc] at hb ⊢
      have hb3 : bs t (p + (decL u).2) = qn (u.drop (decL u).2) L ++ rest := by
        rw [← bs_drop, hb, List.drop_append_of_le_length (by rw [List.length_take]; omega), List.drop_of_length_le (by rw [List.length_take]; omega), List.nil_append]
      obtain ⟨o, o1, o2, o3, o4⟩ := pr_quote t tt (p + (decL u).2) rest hb3
      have hne : (decL u).1 ≠ 42 ∧ (decL u).1 ≠ 63 ∧ (decL u).1 ≠ 91 ∧ (decL u).1 ≠ 92 := by
        unfold spc at hs
        simp only [Bool.or_eq_false_iff, beq_eq_false_iff_ne] at hs
        exact ⟨hs.1, hs.2.1, hs.2.2.1, hs.2.2.2.2.1⟩
      refine ⟨iOne ((decL u).1 : Int) (t.extract p (p + (decL u).2)) :: o, ?_, ?_, ?_, ?_⟩
      · simp only [sg]
        exact .one _ _ _ _ (by omega) (by omega) (by omega) (by omega) o1
      · intro x hx
        rcases List.mem_cons.1 hx with rfl | hx
        · rfl
        · exact o2 x hx
      · rw [List.map_cons, List.map_cons, o3]
      · rw [List.map_cons, List.flatten_cons, o4, piece, hb, ← ci_app, List.take_append_of_le_length (by rw [List.length_take]; omega), List.take_of_length_le (by rw [List.length_take]; omega), List.take_append_drop]
/-! what they match -/
theorem M_ones : ∀ (o o' : List It) (t : List Int), (∀ x ∈ o, x.1 = 0) → (M (o ++ o') t = true ↔ ∃ t', t = o.map (·.2.1) ++ t' ∧ M o' t' = true)
  | [], o', t, _ => by simp
  | x :: o, o', t, h => by
    have hx : x.1 = 0 := h x (by simp)
    have ih := fun t => M_ones o o' t fun y hy => h y (by simp [hy])
    rw [List.cons_append, M_cons, hx, show ((0 : Int) == 2) = false from rfl]
    simp only [Bool.false_eq_true, if_false]
    cases t with
    | nil => simp [hd]
    | cons c t =>
      simp only [hd, Bool.and_eq_true, ih, List.map_cons, List.cons_append]
      have hf : ft x c = true ↔ x.2.1 = c := by
        unfold ft
        rw [hx]; simp
      rw [hf]
      constructor
      · rintro ⟨rfl, t', rfl, h2⟩; exact ⟨t', rfl, h2⟩
      · rintro ⟨t', h1, h2⟩
        obtain ⟨rfl, rfl⟩ := List.cons.inj h1
        exact ⟨rfl, t', rfl, h2⟩
theorem M_star (o : List It) (t : List Int) : M (iStar :: o) t = true ↔ ∃ C D, t = C ++ D ∧ M o D = true := by
  show suf (M o) t = true ↔ _
  constructor
  · intro h
    obtain ⟨j, _, h2⟩ := suf_ex _ _ h
    exact ⟨t.take j, t.drop j, (List.take_append_drop j t).symm, h2⟩
  · rintro ⟨C, D, rfl, h⟩
    refine suf_of _ _ C.length ?_
    rw [List.drop_left]; exact h
theorem M_nil (t : List Int) : M [] t = true ↔ t = [] := by
  show t.isEmpty = true ↔ _
  rw [List.isEmpty_iff]
/-! bytes and runes -/
theorem enc_form (x : Nat) : ∃ b l, encN x = b :: l ∧ (b < 128 ∨ 192 ≤ b) ∧ ∀ c ∈ l, 128 ≤ c ∧ c < 192 := by
  unfold encN
  split
  · exact ⟨_, _, rfl, .inl (by assumption), fun c hc => by cases hc⟩
  · split
    · exact ⟨_, _, rfl, .inr (by omega), fun c hc => by simp at hc; omega⟩
    · split
      · exact ⟨_, _, rfl, .inr (by omega), fun c hc => by simp at hc; omega⟩
      · exact ⟨_, _, rfl, .inr (by omega), fun c hc => by simp at hc; omega⟩
theorem E_suffix : ∀ (K : List Nat) (c : List Nat) (B : List Nat), B ≠ [] → E K = c ++ E B → ∃ C, K = C ++ B
  | K, [], B, hB, h => ⟨[], by rw [List.nil_append] at h ⊢; exact E_inj _ _ h⟩
  | [], c0 :: c, B, hB, h => by simp [E] at h
  | x :: K, c0 :: c, B, hB, h => by
    obtain ⟨b, l, e, hb, hl⟩ := enc_form x
    have hE : E (x :: K) = b :: (l ++ E K) := by unfold E; rw [List.flatMap_cons, e]; rfl
    rw [hE, List.cons_append] at h
    obtain ⟨rfl, h2⟩ := List.cons.inj h
    rcases Nat.lt_or_ge c.length l.length with hc | hc
    · exfalso
      obtain ⟨y, B', rfl⟩ := List.exists_cons_of_ne_nil hB
      obtain ⟨d, m, e2, hd, _⟩ := enc_form y
      have hE2 : E (y :: B') = d :: (m ++ E B') := by unfold E; rw [List.flatMap_cons, e2]; rfl
      rw [hE2] at h2
      have h3 : (l ++ E K)[c.length]? = (c ++ d :: (m ++ E B'))[c.length]? := by rw [h2]
      rw [List.getElem?_append_left hc, List.getElem?_append_right (Nat.le_refl _), Nat.sub_self, List.getElem?_cons_zero, List.getElem?_eq_getElem hc] at h3
      have := hl _ (List.getElem_mem hc)
      rw [Option.some.inj h3] at this
      omega
    · have h4 : c = l ++ c.drop l.length := by
        have : c.take l.length = l := by
          have := congrArg (List.take l.length) h2
          rw [List.take_left, List.take_append_of_le_length hc] at this
          exact this.symm
        conv => lhs; rw [← List.take_append_drop l.length c, this]
      rw [h4, List.append_assoc] at h2
      obtain ⟨C, hC⟩ := E_suffix K _ B hB (List.append_cancel_left h2)
      exact ⟨x :: C, by rw [hC]; rfl⟩
  termination_by K => K.length
theorem ba_of_bs {a b : ByteArray} (h : bs a 0 = bs b 0) : a = b := by
  apply ByteArray.ext
  apply Array.ext'
  unfold bs at h
  rw [List.drop_zero, List.drop_zero] at h
  exact (List.map_inj_right (fun a b h => UInt8.toNat_inj.1 h)).1 h
theorem bs_app (a b : ByteArray) : bs (a ++ b) 0 = bs a 0 ++ bs b 0 := by
  unfold bs
  rw [List.drop_zero, List.drop_zero, List.drop_zero, ByteArray.data_append, Array.toList_append, List.map_append]
theorem toList_bs (a b : ByteArray) : (a.toList == b.toList) = (bs a 0 == bs b 0) := by
  rw [Bool.eq_iff_iff, beq_iff_eq, beq_iff_eq]
  constructor
  · intro h
    have : a = b := by
      apply ByteArray.ext; apply Array.ext'
      rwa [ByteArray.toList_eq, ByteArray.toList_eq] at h
    rw [this]
  · intro h; rw [ba_of_bs h]
/-- a text's runes, as they are matched -/
def ri (L : List (Nat × Nat)) : List Int := L.map fun x => (x.1 : Int)
theorem ri_app (A B : List (Nat × Nat)) : ri (A ++ B) = ri A ++ ri B := List.map_append
theorem ri_ci (L : List (Nat × Nat)) : ri L = ci (L.map (·.1)) := by unfold ri ci; rw [List.map_map]; rfl
theorem ci_inj {A B : List Nat} (h : ci A = ci B) : A = B := (List.map_inj_right (fun a b h => Int.ofNat.inj h)).1 h
/-- a key -/
theorem key_of (K : Nat) {s : ByteArray} {L : List (Nat × Nat)} (hL : Runes s 0 L) (hk : 20 ≤ K) (h : F11 K s = some true) : L.all okR = true ∧ 1 ≤ L.length ∧ L.length ≤ 12 ∧ s.size ≤ 48 ∧ (∀ x ∈ L, x ≠ (65533, 1)) := by
  rw [PKeyRight.right_any K hL hk] at h
  have h := Option.some.inj h
  simp only [Bool.and_eq_true, decide_eq_true_eq] at h
  have hw := width4 hL (by omega)
  refine ⟨h.1, h.2.1, h.2.2, by omega, fun x hx => ?_⟩
  have := List.all_eq_true.1 h.1 x hx
  rintro rfl
  revert this; decide
theorem ql_ne {L : List (Nat × Nat)} (h : ∀ x ∈ L, x ≠ (65533, 1)) : ∀ x ∈ ql L, x ≠ (65533, 1) := by
  induction L with
  | nil => intro x hx; cases hx
  | cons y L ih =>
    intro x hx
    rw [ql] at hx
    rcases List.mem_append.1 hx with hx | hx
    · split at hx
      · rw [List.mem_singleton.1 hx]; decide
      · cases hx
    · rcases List.mem_cons.1 hx with rfl | hx
      · exact h x (by simp)
      · exact ih (fun z hz => h z (by simp [hz])) x hx
theorem ql_len (L : List (Nat × Nat)) : L.length ≤ (ql L).length ∧ (ql L).length ≤ 2 * L.length := by
  induction L with
  | nil => exact ⟨Nat.le_refl _, Nat.le_refl _⟩
  | cons y L ih =>
    rw [ql]
    simp only [List.length_append, List.length_cons]
    split <;> simp <;> omega
end Go.Proofs.YtodhjfdlbbpbpaaDoor.PGlob4
