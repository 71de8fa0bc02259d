/- Live, Drop, Keys of a shelf: whichever order the entries come in. -/
import Derived.Test.YtnjkfchgakpjgaaDoorPShelfD
import Derived.Test.YtnjkfchgakpjgaaDoorPSorted
namespace Go.Proofs.YtnjkfchgakpjgaaDoor.PThose
open Go.RowKit Go.Proofs.YtnjkfchgakpjgaaDoor.Mc Go.Proofs.YtnjkfchgakpjgaaDoor.N Go.Proofs.YtnjkfchgakpjgaaDoor.Plain Go.Proofs.YtnjkfchgakpjgaaDoor.PureKeys Go.Proofs.YtnjkfchgakpjgaaDoor.PSort Go.Proofs.YtnjkfchgakpjgaaDoor.PSorted Go.Proofs.YtnjkfchgakpjgaaDoor.PFd Go.Proofs.YtnjkfchgakpjgaaDoor.PAssoc Go.Proofs.YtnjkfchgakpjgaaDoor.PShelf
set_option linter.unusedSimpArgs false
set_option linter.unusedVariables false
theorem filter_perm {es : Es} {j : Nat} {a : ByteArray × Ln} (p : Ln → Bool) (hj : es[j]? = some a) : ((a :: es.eraseIdx j).filter fun x => p x.2).Perm (es.filter fun x => p x.2) := (perm_erase hj).filter _
theorem those_loop {R : Type} {f : (Es × Es) × List ByteArray → ((Es × Es) × List ByteArray → Option R) → (Es × List ByteArray → Option R) → Option R} (p : Ln → Bool)
    (hf : ∀ (es rest : Es) (out : List ByteArray) Kin Kout, f ((es, rest), out) Kin Kout = cond rest.isEmpty (Kout (es, out)) (anyL rest fun j a => cond (p a.2) (grd (decide ((out.length + [a.1].length) * 16 ≤ 140737488355328)) (Kin ((es, rest.eraseIdx j), out ++ [a.1]))) (Kin ((es, rest.eraseIdx j), out))))
    (es : Es) (KK : Es × List ByteArray → Option R) (r : R) : ∀ (n k : Nat) (rest : Es) (out : List ByteArray), rest.length = n → n < k → out.length + n ≤ 1000000 → (∀ q : List ByteArray, q.Perm ((rest.filter fun x => p x.2).map (·.1)) → KK (es, out ++ q) = some r) →
    loopC f k ((es, rest), out) KK = some r
  | 0, k, rest, out, hr, hk, hl, h => by
    obtain ⟨k, rfl⟩ : ∃ q, k = q + 1 := ⟨k - 1, by omega⟩
    have : rest = [] := List.eq_nil_of_length_eq_zero hr
    subst this
    have h0 := h [] (List.Perm.refl _)
    rw [List.append_nil] at h0
    show f ((es, []), out) _ KK = _
    rw [hf]
    exact h0
  | n + 1, k, rest, out, hr, hk, hl, h => by
    obtain ⟨k, rfl⟩ : ∃ q, k = q + 1 := ⟨k - 1, by omega⟩
    have hne : rest ≠ [] := by rintro rfl; simp at hr
    show f ((es, rest), out) (fun b => loopC f k b KK) KK = _
    rw [hf, show rest.isEmpty = false by cases rest with | nil => exact absurd rfl hne | cons => rfl, cond_false]
    refine anyL_of hne fun j a hj => ?_
    have hp := perm_erase hj
    have hfp := filter_perm p hj
    have hlen := hp.length_eq
    rw [List.length_cons] at hlen
    cases hpa : p a.2 with
    | true =>
      rw [cond_true, grdD (by simp only [List.length_singleton]; omega)]
      refine those_loop p hf es KK r n k (rest.eraseIdx j) (out ++ [a.1]) (by omega) (by omega) (by simp; omega) fun q hq => ?_
      rw [List.append_assoc]
      refine h (a.1 :: q) ((List.Perm.cons a.1 hq).trans ?_)
      rw [List.filter_cons_of_pos (p := fun x : ByteArray × Ln => p x.2) hpa] at hfp
      exact hfp.map fun x : ByteArray × Ln => x.1
    | false =>
      rw [cond_false]
      refine those_loop p hf es KK r n k (rest.eraseIdx j) out (by omega) (by omega) (by omega) fun q hq => ?_
      refine h q (hq.trans ?_)
      rw [List.filter_cons_of_neg (p := fun x : ByteArray × Ln => p x.2) (by rw [hpa]; decide)] at hfp
      exact hfp.map fun x : ByteArray × Ln => x.1
/-- the keys of the lines that fit -/
noncomputable def th (p : Ln → Bool) (es : Es) : List ByteArray := srt ((es.filter fun x => p x.2).map (·.1))
theorem th_mem {p : Ln → Bool} {es : Es} (hn : ND es) (k : ByteArray) : k ∈ th p es ↔ ∃ a, mget sEq es k = some a ∧ p a = true := by
  unfold th
  rw [srt_mem, List.mem_map]
  constructor
  · rintro ⟨⟨k', a⟩, hx, rfl⟩
    rw [List.mem_filter] at hx
    exact ⟨a, mem_get hn hx.1, hx.2⟩
  · rintro ⟨a, ha, hp⟩
    exact ⟨(k, a), List.mem_filter.2 ⟨get_some_mem ha, hp⟩, rfl⟩
theorem asc_nodup {l : List ByteArray} (h : l.Pairwise (fun x y => lt x y = true)) : l.Nodup := h.imp fun {a b} hab => by
  rintro rfl
  rw [lt_irrefl] at hab; cases hab
theorem th_nodup (p : Ln → Bool) (es : Es) : (th p es).Nodup := asc_nodup (srt_sorted _)
theorem th_len (p : Ln → Bool) (es : Es) : (th p es).length ≤ es.length := by
  unfold th
  refine Nat.le_trans (srt_len _) ?_
  rw [List.length_map]
  exact List.length_filter_le _ _
/-- a loop that gathers and sorts -/
theorem those_end {R : Type} (K : Nat) (hK : 2000000 ≤ K) {f : (Es × Es) × List ByteArray → ((Es × Es) × List ByteArray → Option R) → (Es × List ByteArray → Option R) → Option R} (p : Ln → Bool)
    (hf : ∀ (es rest : Es) (out : List ByteArray) Kin Kout, f ((es, rest), out) Kin Kout = cond rest.isEmpty (Kout (es, out)) (anyL rest fun j a => cond (p a.2) (grd (decide ((out.length + [a.1].length) * 16 ≤ 140737488355328)) (Kin ((es, rest.eraseIdx j), out ++ [a.1]))) (Kin ((es, rest.eraseIdx j), out))))
    (es : Es) (hs : Small (es.map (·.1))) (hl : es.length ≤ 100000) (g : List ByteArray → Es → R) : loopC f K ((es, es), []) (fun y => (F41 K y.2).bind fun q => some (g q y.1)) = some (g (th p es) es) := by
  refine those_loop p hf es _ _ es.length K es [] rfl (by omega) (by simp; omega) fun q hq => ?_
  have hmem : ∀ k, k ∈ q → k ∈ es.map (·.1) := fun k hk => by
    obtain ⟨x, hx, rfl⟩ := List.mem_map.1 (hq.mem_iff.1 hk)
    exact List.mem_map.2 ⟨x, (List.mem_filter.1 hx).1, rfl⟩
  have hql : q.length ≤ es.length := by rw [hq.length_eq, List.length_map]; exact List.length_filter_le _ _
  dsimp only
  rw [List.nil_append, sorted_run K hK (fun k hk => hs k (hmem k hk)) (by omega), Option.bind_some, srt_uniq (fun x => hq.mem_iff)]; rfl
def lp (q : Int) (a : Ln) : Bool := a.2.1 == q
def dp (q t : Int) (a : Ln) : Bool := decide (a.2.1 ≤ q) || decide (a.2.2 ≤ t)
theorem live_run (K : Nat) (hK : 2000000 ≤ K) (q : Int) (es : Es) (hs : Small (es.map (·.1))) (hl : es.length ≤ 100000) : F13 K q es = some (th (lp q) es, es) := by
  have : F28 K q es = some (th (lp q) es, q, es) := by
    unfold F28
    refine those_end K hK (lp q) ?_ es hs hl fun l e => (l, q, e)
    intro es rest out Kin Kout
    rfl
  unfold F13
  rw [this]; rfl
theorem keysOf_run (K : Nat) (hK : 2000000 ≤ K) (es : Es) (hs : Small (es.map (·.1))) (hl : es.length ≤ 100000) : F22 K es = some (th (fun _ => true) es, es) := by
  have : F28_2 K es = some (th (fun _ => true) es, es) := by
    unfold F28_2
    refine those_end K hK (fun _ => true) ?_ es hs hl fun l e => (l, e)
    intro es rest out Kin Kout
    rfl
  unfold F22
  rw [this]; rfl
def fg (es : Es) (l : List ByteArray) : Es := l.foldl (mdel sEq) es
theorem fg_snoc (es : Es) (l : List ByteArray) (k : ByteArray) : fg es (l ++ [k]) = mdel sEq (fg es l) k := by unfold fg; rw [List.foldl_append]; rfl
theorem nd_fg : ∀ {l : List ByteArray} {es : Es}, ND es → ND (fg es l)
  | [], _, h => h
  | k :: l, es, h => nd_fg (l := l) (nd_del (k := k) h)
theorem get_fg (k : ByteArray) : ∀ (l : List ByteArray) (es : Es), ND es → mget sEq (fg es l) k = if k ∈ l then none else mget sEq es k
  | [], es, h => by simp [fg]
  | x :: l, es, h => by
    have ih := get_fg k l (mdel sEq es x) (nd_del h)
    show mget sEq (fg (mdel sEq es x) l) k = _
    rw [ih, get_del _ _ h]
    by_cases h1 : k ∈ l
    · simp [h1]
    · by_cases h2 : x = k
      · simp [h2]
      · have h3 : ¬ k = x := fun e => h2 e.symm
        simp [h1, h2, h3]
theorem mem_fg : ∀ {l : List ByteArray} {es : Es} {x : ByteArray × Ln}, x ∈ fg es l → x ∈ es
  | [], _, _, h => h
  | k :: l, es, x, h => mem_del (mem_fg (l := l) h)
theorem len_fg : ∀ (l : List ByteArray) (es : Es), ND es → l.Nodup → (∀ k ∈ l, k ∈ es.map (·.1)) → (fg es l).length + l.length = es.length
  | [], es, _, _, _ => rfl
  | k :: l, es, h, hn, hm => by
    have hn' := List.nodup_cons.1 hn
    have hk : k ∈ es.map (·.1) := hm k (by simp)
    have hd : (mdel sEq es k).length + 1 = es.length := by
      have := congrArg List.length (keys_del k es)
      rw [List.length_map, List.length_erase_of_mem hk, List.length_map] at this
      have : 0 < es.length := by
        have := List.length_pos_of_mem hk
        rwa [List.length_map] at this
      omega
    have ih := len_fg l (mdel sEq es k) (nd_del h) hn'.2 fun x hx => by
      rw [keys_del]
      have hx2 : x ≠ k := fun e => hn'.1 (e ▸ hx)
      exact (List.mem_erase_of_ne hx2).2 (hm x (by simp [hx]))
    show (fg (mdel sEq es k) l).length + (l.length + 1) = _
    omega
noncomputable def dr (q t : Int) (es : Es) : Es := fg es (th (dp q t) es)
theorem drop_run (K : Nat) (hK : 2000000 ≤ K) (q t : Int) (es : Es) (hs : Small (es.map (·.1))) (hl : es.length ≤ 100000) : F14 K q t es = some (th (dp q t) es, dr q t es) := by
  have h1 : F28_1 K q t es = some (th (dp q t) es, q, t, es) := by
    unfold F28_1
    refine those_end K hK (dp q t) ?_ es hs hl fun l e => (l, q, t, e)
    intro es rest out Kin Kout
    have e : ∀ a : ByteArray × Ln, F30 K a.2.1 a.2.2.1 a.2.2.2 q t = some (dp q t a.2) := fun a => by
      unfold F30 dp
      cases decide (a.2.2.1 ≤ q) <;> rfl
    unfold L28_1_16
    simp only [e, Option.bind_some]
  have hln := th_len (dp q t) es
  unfold F14
  rw [h1, Option.bind_some, loop_go (r := dr q t es) (fun i => ((i : Int), fg es ((th (dp q t) es).take i))) (th (dp q t) es).length (by rfl) (by omega) ?_ ?_]; rfl
  · intro i hi
    unfold L14_8
    dsimp only
    rw [condT (by omega), ixn, List.getElem?_eq_getElem hi, Option.bind_some, w64 (by omega) (by omega), take_snoc1 hi, fg_snoc]; rfl
  · unfold L14_8
    dsimp only
    rw [condF (by omega), List.take_length]; rfl
theorem nd_dr {q t : Int} {es : Es} (h : ND es) : ND (dr q t es) := nd_fg h
theorem len_dr {q t : Int} {es : Es} (h : ND es) : (dr q t es).length + (th (dp q t) es).length = es.length :=
  len_fg _ es h (th_nodup _ _) fun k hk => by
    obtain ⟨a, ha, _⟩ := (th_mem h k).1 hk
    exact List.mem_map.2 ⟨_, get_some_mem ha, rfl⟩
theorem get_dr {q t : Int} {es : Es} (h : ND es) (k : ByteArray) : mget sEq (dr q t es) k = match mget sEq es k with
    | some a => if dp q t a then none else some a
    | none => none := by
  unfold dr
  rw [get_fg _ _ _ h]
  cases hg : mget sEq es k with
  | none => simp
  | some a =>
    dsimp only
    cases hp : dp q t a with
    | true => rw [if_pos ((th_mem h k).2 ⟨a, hg, hp⟩)]; rfl
    | false =>
      rw [if_neg fun hk => ?_]
      · rfl
      · obtain ⟨b, hb, hpb⟩ := (th_mem h k).1 hk
        rw [hg] at hb
        cases hb
        rw [hp] at hpb
        cases hpb
/-- what stays fits neither -/
theorem stay {q t : Int} {es : Es} (h : ND es) {x : ByteArray × Ln} (hx : x ∈ dr q t es) : x ∈ es ∧ dp q t x.2 = false := by
  have hm := mem_fg hx
  refine ⟨hm, ?_⟩
  have h1 := mem_get (nd_dr (q := q) (t := t) h) (show (x.1, x.2) ∈ dr q t es from hx)
  rw [get_dr h, mem_get h (show (x.1, x.2) ∈ es from hm)] at h1
  dsimp only at h1
  cases hp : dp q t x.2 with
  | false => rfl
  | true => rw [hp, if_pos rfl] at h1; cases h1
end Go.Proofs.YtnjkfchgakpjgaaDoor.PThose
