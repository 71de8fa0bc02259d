/- What a shelf's functions compute: Get, Apply, Len, Top; the plain part. -/
import Derived.Test.YtnjkfchgakpjgaaDoorPAssoc
namespace Go.Proofs.YtnjkfchgakpjgaaDoor.PShelf
open Go.RowKit Go.Proofs.YtnjkfchgakpjgaaDoor.Mc Go.Proofs.YtnjkfchgakpjgaaDoor.N Go.Proofs.YtnjkfchgakpjgaaDoor.Plain Go.Proofs.YtnjkfchgakpjgaaDoor.PureKeys Go.Proofs.YtnjkfchgakpjgaaDoor.PFd Go.Proofs.YtnjkfchgakpjgaaDoor.PAssoc
set_option linter.unusedSimpArgs false
set_option linter.unusedVariables false
abbrev Ln : Type := ByteArray × Int × Int
abbrev Es : Type := List (ByteArray × Ln)
theorem take_snoc1 {α : Type} {l : List α} {j : Nat} (h : j < l.length) : l.take (j + 1) = l.take j ++ [l[j]] := by
  rw [List.take_add_one, List.getElem?_eq_getElem h]; rfl
theorem perm_erase {α : Type} : ∀ {l : List α} {j : Nat} {a : α}, l[j]? = some a → (a :: l.eraseIdx j).Perm l
  | [], _, _, h => by simp at h
  | x :: l, 0, a, h => by
    cases h
    exact List.Perm.refl _
  | x :: l, j + 1, a, h => by
    have ih := perm_erase (l := l) (j := j) (a := a) (by simpa using h)
    rw [List.eraseIdx_cons_succ]
    exact (List.Perm.swap x a _).trans (List.Perm.cons x ih)
def c1 (sq tp : Int) (es : Es) (w : Wr) : Es := if w.2.1 then mdel sEq es w.1 else mset sEq es w.1 (w.1, sq, tp)
def cm (sq tp : Int) (es : Es) (l : List Wr) : Es := l.foldl (c1 sq tp) es
theorem cm_snoc (sq tp : Int) (es : Es) (l : List Wr) (w : Wr) : cm sq tp es (l ++ [w]) = c1 sq tp (cm sq tp es l) w := by unfold cm; rw [List.foldl_append]; rfl
theorem apply_run (K : Nat) (sq u tp : Int) (l : List Wr) (es : Es) (hl : l.length ≤ 1000000) (hK : l.length < K) : F18 K sq u tp l es = some (cm sq tp es l) := by
  unfold F18
  rw [loop_go (r := cm sq tp es l) (fun i => ((i : Int), cm sq tp es (l.take i))) l.length (by rfl) hK ?_ ?_]; rfl
  · intro i hi
    unfold L18_17
    rw [condT (by omega), ixn, List.getElem?_eq_getElem hi, Option.bind_some, w64 (by omega) (by omega), take_snoc1 hi, cm_snoc]
    unfold c1
    cases l[i].2.1 <;> rfl
  · unfold L18_17
    rw [condF (by omega), List.take_length]
/-- what a key has -/
def gl (es : Es) (k : ByteArray) : ByteArray × Int × Int × Bool := match mget sEq es k with
  | some a => (a.1, a.2.1, a.2.2, true)
  | none => (ByteArray.empty, 0, 0, false)
theorem get_of (es : Es) (k : ByteArray) : ((some ((mget sEq es k).getD (ByteArray.empty, 0, 0), (mget sEq es k).isSome)).bind fun a1 => some (a1.1.1, a1.1.2.1, a1.1.2.2, a1.2)) = some (gl es k) := by
  unfold gl
  cases mget sEq es k <;> rfl
/-- the best of what began by then -/
def ts (q m : Int) (a : Ln) : Int := if a.2.1 ≤ q then mx m a.2.2 else m
def tp (q : Int) (m : Int) (l : List Ln) : Int := l.foldl (ts q) m
theorem mx_comm (a b c : Int) : mx (mx a b) c = mx (mx a c) b := by
  unfold mx
  repeat' split
  all_goals omega
theorem tp_perm {q m : Int} {l l' : List Ln} (h : l.Perm l') : tp q m l = tp q m l' := by
  refine h.foldl_eq' ?_ m
  intro x _ y _ z
  unfold ts
  by_cases h1 : x.2.1 ≤ q <;> by_cases h2 : y.2.1 ≤ q <;> simp only [h1, h2, if_true, if_false]
  exact mx_comm _ _ _
theorem top_loop {R : Type} (K : Nat) (q : Int) (es : Es) (KK : Int × Es → Option R) (r : R) : ∀ (n k : Nat) (rest : Es) (m : Int), rest.length = n → n < k → KK (tp q m (rest.map (·.2)), es) = some r →
    loopC (L16_11 K q) k (m, (es, rest)) KK = some r
  | 0, k, rest, m, hr, hk, h => by
    obtain ⟨k, rfl⟩ : ∃ q, k = q + 1 := ⟨k - 1, by omega⟩
    have : rest = [] := List.eq_nil_of_length_eq_zero hr
    subst this
    show L16_11 K q (m, (es, [])) _ KK = _
    unfold L16_11
    exact h
  | n + 1, k, rest, m, hr, hk, h => by
    obtain ⟨k, rfl⟩ : ∃ q, k = q + 1 := ⟨k - 1, by omega⟩
    have hne : rest ≠ [] := by rintro rfl; simp at hr
    show L16_11 K q (m, (es, rest)) (fun b => loopC (L16_11 K q) k b KK) KK = _
    unfold L16_11
    dsimp only
    rw [show rest.isEmpty = false by cases rest with | nil => exact absurd rfl hne | cons => rfl, cond_false]
    refine anyL_of hne fun j a hj => ?_
    have hp := perm_erase hj
    have hlen := hp.length_eq
    rw [List.length_cons] at hlen
    have e : tp q m (rest.map (·.2)) = tp q (ts q m a.2) ((rest.eraseIdx j).map (·.2)) := (tp_perm (hp.map fun x : ByteArray × Ln => x.2)).symm
    rw [e] at h
    by_cases ha : a.2.2.1 ≤ q
    · rw [condT ha]
      refine top_loop K q es KK r n k (rest.eraseIdx j) _ (by omega) (by omega) ?_
      unfold ts at h
      rwa [if_pos ha] at h
    · rw [condF ha]
      refine top_loop K q es KK r n k (rest.eraseIdx j) _ (by omega) (by omega) ?_
      unfold ts at h
      rwa [if_neg ha] at h
def tpe (q : Int) (es : Es) : Int := tp q 0 (es.map (·.2))
theorem top_run (K : Nat) (q : Int) (es : Es) (hK : es.length < K) : F16 K q es = some (tpe q es, es) := by
  unfold F16
  exact top_loop K q es _ _ es.length K es 0 rfl hK rfl
theorem tp_le (q b : Int) : ∀ (l : List Ln) (m : Int), m ≤ b → (∀ a ∈ l, a.2.1 ≤ q → a.2.2 ≤ b) → tp q m l ≤ b
  | [], _, h, _ => h
  | a :: l, m, h, ha => by
    refine tp_le q b l (ts q m a) ?_ fun x hx => ha x (by simp [hx])
    unfold ts
    split
    · have := ha a (by simp) (by assumption)
      unfold mx; split <;> omega
    · exact h
theorem tp_none (q : Int) : ∀ (l : List Ln) (m : Int), (∀ a ∈ l, ¬ a.2.1 ≤ q) → tp q m l = m
  | [], _, _ => rfl
  | a :: l, m, h => by
    show tp q (ts q m a) l = m
    unfold ts
    rw [if_neg (h a (by simp))]
    exact tp_none q l m fun x hx => h x (by simp [hx])
theorem nd_c1 {sq tp : Int} {es : Es} {w : Wr} (h : ND es) : ND (c1 sq tp es w) := by
  unfold c1
  split
  · exact nd_del h
  · exact nd_set h
theorem nd_cm {sq tp : Int} : ∀ {l : List Wr} {es : Es}, ND es → ND (cm sq tp es l)
  | [], _, h => h
  | w :: l, es, h => nd_cm (l := l) (nd_c1 (w := w) h)
theorem get_c1 {sq tp : Int} {es : Es} {w : Wr} (h : ND es) (k : ByteArray) : mget sEq (c1 sq tp es w) k = if w.1 = k then (if w.2.1 then none else some (w.1, sq, tp)) else mget sEq es k := by
  unfold c1
  cases w.2.1 with
  | true => rw [if_pos rfl, get_del _ _ h]; by_cases hk : w.1 = k <;> simp [hk]
  | false => rw [if_neg (by decide), get_set]; by_cases hk : w.1 = k <;> simp [hk]
theorem len_c1 (sq tp : Int) (es : Es) (w : Wr) : (c1 sq tp es w).length ≤ es.length + 1 := by
  unfold c1
  split
  · have := len_del w.1 es; omega
  · exact len_set _ _ _
theorem len_cm (sq tp : Int) : ∀ (l : List Wr) (es : Es), (cm sq tp es l).length ≤ es.length + l.length
  | [], es => by simp [cm]
  | w :: l, es => by
    have h1 := len_cm sq tp l (c1 sq tp es w)
    have h2 := len_c1 sq tp es w
    show (cm sq tp (c1 sq tp es w) l).length ≤ _
    rw [List.length_cons]; omega
/-- behind a batch a key has what its last write says -/
theorem get_cm {sq tp : Int} {es : Es} (h : ND es) (k : ByteArray) : ∀ (n : Nat) (l : List Wr), l.length = n → mget sEq (cm sq tp es l) k = match fdn l k l.length with
    | some w => if w.2.1 then none else some (w.1, sq, tp)
    | none => mget sEq es k
  | 0, l, hl => by
    have : l = [] := List.eq_nil_of_length_eq_zero hl
    subst this; rfl
  | n + 1, l, hl => by
    have hne : l ≠ [] := by rintro rfl; simp at hl
    obtain ⟨m, w, rfl⟩ : ∃ m w, l = m ++ [w] := ⟨l.dropLast, l.getLast hne, (List.dropLast_concat_getLast hne).symm⟩
    have ih := get_cm (sq := sq) (tp := tp) h k n m (by simpa using hl)
    rw [cm_snoc, get_c1 (nd_cm h), fdn_snoc, ih]
    by_cases hw : w.1 = k
    · rw [if_pos hw, if_pos hw]
    · rw [if_neg hw, if_neg hw]
/-- each entry is its key's, with a line that fits -/
def Own (P : ByteArray → Int → Int → Prop) (es : Es) : Prop := ∀ x ∈ es, x.2.1 = x.1 ∧ P x.1 x.2.2.1 x.2.2.2
theorem mem_set {α : Type} {k : ByteArray} {v : α} : ∀ {es : List (ByteArray × α)} {x : ByteArray × α}, x ∈ mset sEq es k v → x = (k, v) ∨ x ∈ es
  | [], x, h => by
    simp only [mset, List.mem_singleton] at h
    exact .inl h
  | y :: es, x, h => by
    simp only [mset, sEq_dec] at h
    by_cases hy : y.1 = k
    · rw [decide_eq_true hy, cond_true] at h
      rcases List.mem_cons.1 h with h | h
      · exact .inl h
      · exact .inr (List.mem_cons_of_mem _ h)
    · rw [decide_eq_false hy, cond_false] at h
      rcases List.mem_cons.1 h with h | h
      · exact .inr (by rw [h]; simp)
      · rcases mem_set h with h | h
        · exact .inl h
        · exact .inr (List.mem_cons_of_mem _ h)
theorem mem_del {α : Type} {k : ByteArray} : ∀ {es : List (ByteArray × α)} {x : ByteArray × α}, x ∈ mdel sEq es k → x ∈ es
  | [], x, h => by simp [mdel] at h
  | y :: es, x, h => by
    simp only [mdel, sEq_dec] at h
    by_cases hy : y.1 = k
    · rw [decide_eq_true hy, cond_true] at h
      exact List.mem_cons_of_mem _ h
    · rw [decide_eq_false hy, cond_false] at h
      rcases List.mem_cons.1 h with h | h
      · rw [h]; simp
      · exact List.mem_cons_of_mem _ (mem_del h)
theorem own_c1 {P : ByteArray → Int → Int → Prop} {sq tp : Int} {es : Es} {w : Wr} (h : Own P es) (hp : P w.1 sq tp) : Own P (c1 sq tp es w) := by
  intro x hx
  unfold c1 at hx
  split at hx
  · exact h x (mem_del hx)
  · rcases mem_set hx with rfl | hx
    · exact ⟨rfl, hp⟩
    · exact h x hx
theorem own_cm {P : ByteArray → Int → Int → Prop} {sq tp : Int} : ∀ {l : List Wr} {es : Es}, Own P es → (∀ w ∈ l, P w.1 sq tp) → Own P (cm sq tp es l)
  | [], _, h, _ => h
  | w :: l, es, h, hp => own_cm (l := l) (own_c1 (w := w) h (hp w (by simp))) fun v hv => hp v (by simp [hv])
theorem Own.get {P : ByteArray → Int → Int → Prop} {es : Es} (h : Own P es) {k : ByteArray} {a : Ln} (hg : mget sEq es k = some a) : a.1 = k ∧ P k a.2.1 a.2.2 := h (k, a) (get_some_mem hg)
/-! is it alive -/
theorem puts_run (K : Nat) (a b : ByteArray) (hK : 100 ≤ K) : F24 K [a, b] = some [(a, false, (⟨#[118]⟩ : ByteArray)), (b, false, (⟨#[118]⟩ : ByteArray))] := by
  obtain ⟨k, rfl⟩ : ∃ k, K = k + 3 := ⟨K - 3, by omega⟩
  rfl
theorem two : gl (cm 3 3 [] [((⟨#[97]⟩ : ByteArray), false, (⟨#[118]⟩ : ByteArray)), ((⟨#[98]⟩ : ByteArray), false, (⟨#[118]⟩ : ByteArray))]) (⟨#[97]⟩ : ByteArray) = ((⟨#[97]⟩ : ByteArray), 3, 3, true) := by kernel_rfl
theorem two_len : (cm 3 3 [] [((⟨#[97]⟩ : ByteArray), false, (⟨#[118]⟩ : ByteArray)), ((⟨#[98]⟩ : ByteArray), false, (⟨#[118]⟩ : ByteArray))]).length = 2 := by kernel_rfl
theorem two_top : tpe 9 (cm 3 3 [] [((⟨#[97]⟩ : ByteArray), false, (⟨#[118]⟩ : ByteArray)), ((⟨#[98]⟩ : ByteArray), false, (⟨#[118]⟩ : ByteArray))]) = 3 := by kernel_rfl
end Go.Proofs.YtnjkfchgakpjgaaDoor.PShelf
