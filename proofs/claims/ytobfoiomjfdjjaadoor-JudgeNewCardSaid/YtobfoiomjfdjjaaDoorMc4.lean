/- The machine: abstract values and stores, and the laws by which a walk goes through code. Its parts in order. -/
import Derived.Test.YtobfoiomjfdjjaaDoorMc3
import Derived.Shelf.Unicode.DecodeSlow
import Derived.Below
import Derived.Lib.LaidU8
import Derived.Shelf.SlSortCmp.NoneTotal
import Derived.Shelf.Strings.Builder1
import Derived.Shelf.Slices.In.SortAlone
import Derived.Shelf.Slices.In.SortNone
set_option linter.unusedVariables false
set_option linter.unusedSimpArgs false
set_option linter.constructorNameAsVariable false
/- THE MACHINE (55): regions that draw their order, by what each operation reads and writes. -/
namespace Go.Proofs.YtobfoiomjfdjjaaDoor.Mc
open Go.RowKit
variable [Mo]
variable {P : Program} {D : Dec}

/-- a way back along the orders that bind -/
inductive Way (ops : Array Oper) : Nat → Nat → Prop where
  | one {i j : Nat} (h : depOn ops i j = true) : Way ops i j
  | step {i k j : Nat} (h : depOn ops i k = true) (w : Way ops k j) : Way ops i j
omit [Mo] in
theorem Way.down {ops : Array Oper} {p : Nat → Prop} (hd : ∀ a b, p a → depOn ops a b = true → p b) {i j : Nat} (w : Way ops i j) (hi : p i) : p j := by
  induction w with
  | one h => exact hd _ _ hi h
  | step h _ ih => exact ih (hd _ _ hi h)

section
variable {ops : Array Oper} {t : Nat → V} {s : Store} {n : Nat} {an : List Nat} {vals : List V} {us : Nat → XS} {ns : Nat → List Nat} {B : Base}

/-- what the listed operations write, the later ones above -/
def acc (us : Nat → XS) (f : Nat → Bool) : Nat → XS
  | 0 => []
  | k + 1 => cond (f k) (us k) [] ++ acc us f k
structure Chk2 (ops : Array Oper) (n : Nat) (us : Nat → XS) (ns : Nat → List Nat) : Prop where
  fit : ∀ (i : Nat) (o : Oper) (d : Nat), ops[i]? = some o → o.dst = some d → d < n
  uniq : ∀ (i : Nat) (o : Oper) (d : Nat), ops[i]? = some o → o.dst = some d → dAt ops d = some i
  reads : ∀ i, i < ops.size → ∀ d ∈ rdOf ops i, ∀ j, dAt ops d = some j → depOn ops i j = true ∨ depOn ops j i = true ∨ i = j
  low : ∀ i j, depOn ops i j = true → j < i
  conf : ∀ i j, i < ops.size → j < ops.size → i ≠ j → Way ops i j ∨ Way ops j i ∨ ∀ m x, lk (us j) m = some x → m ∉ ns i ∧ lk (us i) m = none

def seqF (i j : Nat) : Bool := Nat.blt j i
/-- an operation's law where what it reads is as it is in a row -/
def LawL (P : Program) (ops : Array Oper) (t : Nat → V) (s : Store) (n : Nat) (an : List Nat) (vals : List V) (us : Nat → XS) (ns : Nat → List Nat) (i : Nat) : Prop :=
  ∀ st : St, st.n = n → st.a = an → (∀ d ∈ rdOf ops i, st.t d = tL ops t vals (seqF i) d) → (∀ m ∈ ns i, st.s m = over s (acc us (seqF i) ops.size) m) → OpLaw P noG ops (oA ops i) st (vOf vals i) (over st.s (us i))

structure Inv2 (B : Base) (ops : Array Oper) (t : Nat → V) (s : Store) (n : Nat) (an : List Nat) (vals : List V) (us : Nat → XS) (listed : Array Bool) (a : Act) (w : World) : Prop where
  size : listed.size = ops.size
  down : ∀ i j, Lf listed i = true → depOn ops i j = true → Lf listed j = true
  defers : a.defers = []
  rel : ∃ F loc, Rel noG B F loc ⟨tL ops t vals (Lf listed), over s (acc us (Lf listed) ops.size), n, an⟩ a.tmps w

omit [Mo] in
theorem over_lk (s : Store) : ∀ (u : XS) (m : Nat), over s u m = match lk u m with | some x => some (x.map XO.enc) | none => s m
  | [], m => rfl
  | (o, x) :: u, m => by
    rw [over, lk]
    by_cases h : m = o
    · subst h; rw [upd_self]; simp
    · have hb : Nat.beq o m = false := by rw [← Bool.not_eq_true, Nat.beq_eq]; exact fun e => h e.symm
      rw [upd_ne _ _ h, hb, cond_false]; exact over_lk s u m
omit [Mo] in
theorem lk_acc_eq {us : Nat → XS} {f g : Nat → Bool} {m : Nat} : ∀ (k : Nat), (∀ j, j < k → f j = g j ∨ lk (us j) m = none) → lk (acc us f k) m = lk (acc us g k) m
  | 0, _ => rfl
  | k + 1, h => by
    simp only [acc, lk_append]
    rw [lk_acc_eq k (fun j hj => h j (by omega))]
    rcases h k (by omega) with h1 | h1
    · rw [h1]
    · cases hf : f k <;> cases hg : g k <;> simp [lk, h1]

theorem inv2_step (hc : Chk2 ops n us ns) (hl : ∀ i, i < ops.size → LawL P ops t s n an vals us ns i) {listed : Array Bool} {a : Act} {w : World} (hI : Inv2 B ops t s n an vals us listed a w) {i : Nat} (hi : i ∈ Region.ready .any ops listed)
    {Q' : Exit → Act → World → Prop} {K : Act → World → Prop} (hK : ∀ a' w', Inv2 B ops t s n an vals us (listed.setIfInBounds i true) a' w' → K a' w') : wpOp P ops Q' i K a w := by
  obtain ⟨his, hL0, hdep⟩ := ready_spec hI.size hi
  obtain ⟨F, loc, hR⟩ := hI.rel
  have hil : i < listed.size := by rw [hI.size]; exact his
  have ho : ops[i]? = some ops[i] := by simp [his]
  generalize hoo : ops[i] = o at ho
  have hoA : oA ops i = o := by unfold oA; rw [Array.getElem?_toList, ho]; rfl
  -- operations that are unordered with i
  have unord : ∀ j, Lf listed j ≠ seqF i j → j < ops.size → j ≠ i ∧ ¬ Way ops i j ∧ ¬ Way ops j i := by
    intro j hne hj
    have hji : j ≠ i := by
      rintro rfl
      apply hne
      rw [hL0]; symm; unfold seqF; rw [← Bool.not_eq_true, Nat.blt_eq]; omega
    refine ⟨hji, fun hw => hne ?_, fun hw => hne ?_⟩
    · have h1 : Lf listed j = true := by
        cases hw with
        | one h => exact hdep _ h
        | step h w => exact w.down (p := fun q => Lf listed q = true) (fun a b h1 h2 => hI.down a b h1 h2) (hdep _ h)
      have h2 : j < i := hw.down (p := fun q => q < i ∨ q = i) (fun a b h1 h2 => by have := hc.low _ _ h2; omega) (.inr rfl) |>.elim id (fun h => absurd h hji)
      rw [h1]; unfold seqF; symm; rw [Nat.blt_eq]; exact h2
    · have h1 : Lf listed j = false := by
        rw [← Bool.not_eq_true]
        intro hb
        have := hw.down (p := fun q => Lf listed q = true) (fun a b h1 h2 => hI.down a b h1 h2) hb
        rw [hL0] at this; cases this
      have h2 : i < j := hw.down (p := fun q => q < j ∨ q = j) (fun a b h1 h2 => by have := hc.low _ _ h2; omega) (.inr rfl) |>.elim id (fun h => absurd h.symm hji)
      rw [h1]; unfold seqF; symm; rw [← Bool.not_eq_true, Nat.blt_eq]; omega
  have hnone : ∀ m, (m ∈ ns i ∨ lk (us i) m ≠ none) → ∀ j, j < ops.size → Lf listed j = seqF i j ∨ lk (us j) m = none := by
    intro m hm j hj
    by_cases h : Lf listed j = seqF i j
    · exact .inl h
    · right
      obtain ⟨h1, h2, h3⟩ := unord j h hj
      rcases hc.conf i j his hj (fun e => h1 e.symm) with h4 | h4 | h4
      · exact absurd h4 h2
      · exact absurd h4 h3
      · cases hx : lk (us j) m with
        | none => rfl
        | some x =>
          obtain ⟨h5, h6⟩ := h4 m x hx
          rcases hm with hm | hm
          · exact absurd hm h5
          · exact absurd h6 hm
  -- the state that the law sees
  have law := hl i his ⟨keepT (fun x => x) (tL ops t vals (Lf listed)) (rdOf ops i), over s (acc us (Lf listed) ops.size), n, an⟩ rfl rfl (fun d hd => by
      show keepT _ _ _ d = _
      rw [keepT_mem, if_pos hd]
      unfold tL
      cases hq : dAt ops d with
      | none => rfl
      | some q =>
        simp only
        obtain ⟨oq, hoq, _⟩ := dAt_some hq
        have hqs := (Array.getElem?_eq_some_iff.1 hoq).1
        have : Lf listed q = seqF i q := by
          by_cases h : Lf listed q = seqF i q
          · exact h
          · exfalso
            obtain ⟨h1, h2, h3⟩ := unord q h hqs
            rcases hc.reads i his d hd q hq with h4 | h4 | h4
            · exact h2 (.one h4)
            · exact h3 (.one h4)
            · exact h1 h4.symm
        rw [this]) (fun m hm => by
      show over s _ m = over s _ m
      rw [over_lk, over_lk, lk_acc_eq ops.size (hnone m (.inl hm))])
  simp only [hoA] at law
  have hRI : Rel noG B F loc ⟨keepT (fun x => x) (tL ops t vals (Lf listed)) (rdOf ops i), over s (acc us (Lf listed) ops.size), n, an⟩ a.tmps w := by
    refine ⟨hR.s, fun d => ?_, hR.n, hR.a⟩
    show RelV w F loc (keepT (fun x => x) (tL ops t vals (Lf listed)) (rdOf ops i) d) _
    rcases keepT_spec2 (fun x => x) (tL ops t vals (Lf listed)) (rdOf ops i) d with ⟨h1, h2⟩ | h1
    · rw [h1]; exact hR.t d
    · rw [h1]; exact .dead _
  -- what stands behind the operation
  have hnew : ∀ d, Lf (listed.setIfInBounds i true) d = (Nat.beq d i || Lf listed d) := fun d => Lf_set hil
  have hdown : ∀ p q, Lf (listed.setIfInBounds i true) p = true → depOn ops p q = true → Lf (listed.setIfInBounds i true) q = true := by
    intro p q hp hd
    rw [hnew] at hp ⊢
    simp only [Bool.or_eq_true] at hp ⊢
    rcases hp with hp | hp
    · rw [Nat.eq_of_beq_eq_true hp] at hd; exact .inr (hdep q hd)
    · exact .inr (hI.down _ _ hp hd)
  have hfit : fits ⟨tL ops t vals (Lf listed), over s (acc us (Lf listed) ops.size), n, an⟩ o.dst = true := by
    unfold fits
    cases hd : o.dst with
    | none => rfl
    | some d => simpa using hc.fit i o d ho hd
  have hput : ∀ (s' : Store), St.put ⟨tL ops t vals (Lf listed), over s (acc us (Lf listed) ops.size), n, an⟩ o.dst (vOf vals i) s' = ⟨tL ops t vals (Lf (listed.setIfInBounds i true)), s', n, an⟩ := by
    intro s'
    have : (match o.dst with | some d => upd (tL ops t vals (Lf listed)) d (vOf vals i) | none => tL ops t vals (Lf listed)) = tL ops t vals (Lf (listed.setIfInBounds i true)) := by
      funext d
      cases hd : o.dst with
      | none =>
        show tL ops t vals (Lf listed) d = _
        unfold tL
        cases hq : dAt ops d with
        | none => rfl
        | some q =>
          obtain ⟨oq, hoq, hdq⟩ := dAt_some hq
          have : Nat.beq q i = false := by
            rw [← Bool.not_eq_true, Nat.beq_eq]
            rintro rfl
            rw [ho] at hoq; cases hoq; rw [hd] at hdq; cases hdq
          simp only [hnew, this, Bool.false_or]
      | some d' =>
        show upd (tL ops t vals (Lf listed)) d' (vOf vals i) d = _
        by_cases hdd : d = d'
        · subst hdd
          rw [upd_self]
          unfold tL
          rw [hc.uniq i o d ho hd]
          simp only [hnew, Nat.beq_refl, Bool.true_or, cond_true]
        · rw [upd_ne _ _ hdd]
          unfold tL
          cases hq : dAt ops d with
          | none => rfl
          | some q =>
            obtain ⟨oq, hoq, hdq⟩ := dAt_some hq
            have : Nat.beq q i = false := by
              rw [← Bool.not_eq_true, Nat.beq_eq]
              rintro rfl
              rw [ho] at hoq; cases hoq; rw [hd] at hdq; exact hdd (Option.some.inj hdq).symm
            simp only [hnew, this, Bool.false_or]
    exact congrArg (fun t => St.mk t s' n an) this
  -- the store behind it
  have hsto : over (over s (acc us (Lf listed) ops.size)) (us i) = over s (acc us (Lf (listed.setIfInBounds i true)) ops.size) := by
    funext m
    rw [over_lk, over_lk, over_lk]
    have key : ∀ k, i < k → k ≤ ops.size → lk (acc us (Lf (listed.setIfInBounds i true)) k) m = match lk (us i) m with | some x => some x | none => lk (acc us (Lf listed) k) m := by
      intro k
      induction k with
      | zero => intro h; omega
      | succ k ih =>
        intro hik hks
        simp only [acc, lk_append]
        by_cases hki : k = i
        · subst hki
          have e1 : Lf (listed.setIfInBounds k true) k = true := by rw [hnew]; simp
          rw [e1, hL0, cond_true, cond_false]
          have e2 : lk (acc us (Lf (listed.setIfInBounds k true)) k) m = lk (acc us (Lf listed) k) m := lk_acc_eq k fun j hj => .inl (by
            rw [hnew]
            have : Nat.beq j k = false := by rw [← Bool.not_eq_true, Nat.beq_eq]; omega
            rw [this, Bool.false_or])
          rw [e2]
          simp only [lk]
          cases lk (us k) m <;> rfl
        · have e1 : Lf (listed.setIfInBounds i true) k = Lf listed k := by
            rw [hnew]
            have : Nat.beq k i = false := by rw [← Bool.not_eq_true, Nat.beq_eq]; exact hki
            rw [this, Bool.false_or]
          rw [e1, ih (by omega) (by omega)]
          cases hx : lk (us i) m with
          | none => rfl
          | some x =>
            simp only
            have : lk (cond (Lf listed k) (us k) []) m = none := by
              cases hLk : Lf listed k with
              | false => rfl
              | true =>
                rcases hnone m (.inr (by rw [hx]; simp)) k (by omega) with h | h
                · exfalso
                  rw [hLk] at h
                  have : k < i := by unfold seqF at h; rw [eq_comm, Nat.blt_eq] at h; exact h
                  omega
                · exact h
            rw [this]
    rw [key ops.size his (Nat.le_refl _)]
    cases lk (us i) m <;> rfl
  have fin : ∀ (x : Value) (F' : Nat → Prop) (loc' : Nat → Option Loc) (w' : World) (s' : Store), s' = over (over s (acc us (Lf listed) ops.size)) (us i) → RelS noG B w' F' loc' s' → Kept w F w' F' → Same loc loc' → RelV w' F' loc' (vOf vals i) x → K (a.put o.dst x) w' := by
    intro x F' loc' w' s' hs' hS hkp hsm hv
    rw [hs', hsto] at hS
    refine hK _ _ ⟨by simp [hI.size], hdown, by cases hd : o.dst <;> simp [Act.put, hI.defers], F', loc', ?_⟩
    have := hR.put hfit hS hkp hsm hv
    rw [hput] at this
    exact this
  unfold wpOp
  rw [ho]
  simp only
  rcases law with ⟨hw, hok⟩ | ⟨hw, hv, hs⟩
  · rw [if_pos (want_spec hRI hw)]
    exact .inl (hok B F loc a w hRI K Q' fun x F' loc' w' h1 h2 h3 h4 => fin x F' loc' w' _ rfl h1 h2 h3 h4)
  · rw [if_neg (by rw [want_spec hRI hw]; simp)]
    refine fin undef F loc w (over s (acc us (Lf listed) ops.size)) hs.symm hR.s (Kept.refl _ _) (Same.refl _) ?_
    rw [hv]; exact .tp [] [] (fun _ => undef) rfl (fun j hj => by simp at hj) (fun j x hj => by simp at hj)

theorem any_go2 (hc : Chk2 ops n us ns) (hl : ∀ i, i < ops.size → LawL P ops t s n an vals us ns i) {Q' : Exit → Act → World → Prop}
    (hQ : ∀ (a : Act) (w : World) (listed : Array Bool), Inv2 B ops t s n an vals us listed a w → (∀ i, i < ops.size → Lf listed i = true) → Q' .normal a w) :
    ∀ (fuel : Nat) (listed : Array Bool) (a : Act) (w : World) (U : List Nat), Inv2 B ops t s n an vals us listed a w → U.length ≤ fuel → (∀ i, i < ops.size → Lf listed i = true ∨ i ∈ U) → wpAny P .any ops Q' fuel listed a w
  | 0, listed, a, w, U, hI, hU, hcov => by
    have hall : ∀ i, i < ops.size → Lf listed i = true := fun i hi => by
      rcases hcov i hi with h | h
      · exact h
      · have : U = [] := List.eq_nil_of_length_eq_zero (by omega)
        rw [this] at h; cases h
    refine ⟨?_, hQ a w listed hI hall⟩
    cases hr : Region.ready .any ops listed with
    | nil => rfl
    | cons x xs =>
      obtain ⟨h1, h2, _⟩ := ready_spec hI.size (show x ∈ Region.ready .any ops listed by rw [hr]; simp)
      rw [hall x h1] at h2; cases h2
  | fuel + 1, listed, a, w, U, hI, hU, hcov => by
    refine ⟨fun h0 => ?_, fun i hi => ?_⟩
    · refine hQ a w listed hI fun i hi => ?_
      by_cases hb : Lf listed i = true
      · exact hb
      · exfalso
        obtain ⟨j, hj, hj0, hjl⟩ := first_out ⟨i, hi, by simpa using hb⟩
        have := ready_of hI.size hj hj0 fun q hq => hjl q (hc.low _ _ hq)
        rw [h0] at this; cases this
    · obtain ⟨his, hL0, _⟩ := ready_spec hI.size hi
      have hil : i < listed.size := by rw [hI.size]; exact his
      refine inv2_step hc hl hI hi fun a' w' hI' => any_go2 hc hl hQ fuel _ a' w' (U.erase i) hI' ?_ fun j hj => ?_
      · rcases hcov i his with h | h
        · rw [h] at hL0; cases hL0
        · rw [List.length_erase_of_mem h]; omega
      · rw [Lf_set hil]
        by_cases hji : j = i
        · subst hji; left; simp
        · rcases hcov j hj with h | h
          · left; rw [h]; simp
          · right; exact (List.mem_erase_of_ne hji).2 h

/-- a region that draws its order -/
theorem Tr.any {id : Nat} {Q : Exit → St → Prop} (hm : P.follows .mixedOrders = true) (hc : Chk2 ops n us ns) (hl : ∀ i, i < ops.size → LawL P ops t s n an vals us ns i)
    (k : Q .normal ⟨tL ops t vals (seqF ops.size), over s (acc us (seqF ops.size) ops.size), n, an⟩) : Tr P noG (.region id ops true) ⟨t, s, n, an⟩ Q := by
  intro B F loc a w hR hd
  refine wp_region_any hm (any_go2 (B := B) hc hl ?_ _ _ _ _ (List.range ops.size) ?_ (by simp) (fun i hi => .inr (List.mem_range.2 hi)))
  · intro a' w' listed hI hall
    obtain ⟨F', loc', hR'⟩ := hI.rel
    refine ⟨hI.defers, F', loc', _, ?_, k⟩
    have e1 : tL ops t vals (seqF ops.size) = tL ops t vals (Lf listed) := by
      funext d
      unfold tL
      cases hq : dAt ops d with
      | none => rfl
      | some q =>
        obtain ⟨oq, hoq, _⟩ := dAt_some hq
        have hqs := (Array.getElem?_eq_some_iff.1 hoq).1
        have : seqF ops.size q = true := by unfold seqF; rw [Nat.blt_eq]; exact hqs
        simp only [hall q hqs, this, cond_true]
    have e2 : over s (acc us (seqF ops.size) ops.size) = over s (acc us (Lf listed) ops.size) := by
      funext m
      rw [over_lk, over_lk, lk_acc_eq (g := Lf listed) ops.size fun j hj => .inl (by rw [hall j hj]; unfold seqF; rw [Nat.blt_eq]; exact hj)]
    rw [e1, e2]; exact hR'
  · have hL : ∀ i, Lf (Array.replicate ops.size false) i = false := fun i => by
      unfold Lf
      by_cases hi : i < ops.size <;> simp [Array.getD_eq_getD_getElem?, hi]
    refine ⟨by simp, fun i j hi => (by rw [hL] at hi; cases hi), hd, F, loc, ?_⟩
    have e : tL ops t vals (Lf (Array.replicate ops.size false)) = t := by
      funext d
      unfold tL
      cases dAt ops d with
      | none => rfl
      | some q => simp only [hL, cond_false]
    have e2 : over s (acc us (Lf (Array.replicate ops.size false)) ops.size) = s := by
      funext m
      rw [over_lk, lk_acc_eq (g := fun _ => false) ops.size fun j hj => .inl (hL j)]
      have : ∀ k, lk (acc us (fun _ => false) k) m = none := by
        intro k; induction k with
        | zero => rfl
        | succ k ih => simpa [acc] using ih
      rw [this]
    rw [e, e2]
    have hk : Kept w F { w with drawn := w.drawn + 1 } F := fun b hb => ⟨hb, rfl⟩
    exact ⟨relS_drew hR.s, fun i => (hR.t i).mono hk (Same.refl _), hR.n, hR.a⟩
end
end Go.Proofs.YtobfoiomjfdjjaaDoor.Mc

/- THE MACHINE (56): regions, typed: in a row, and in any order. -/
namespace Go.Proofs.YtobfoiomjfdjjaaDoor.Mc
open Go.RowKit
variable [Mo]
set_option linter.constructorNameAsVariable false
variable {P : Program} {D : Dec}

omit [Mo] in
theorem encSt_lit {E : XE} {st : XSt} {d : Nat} {x y : X} (h : lkE E st d = x) (hxy : y.enc = x.enc) : encSt E ⟨(d, y) :: st.t, st.s⟩ = encSt E st := by
  have : encT ((d, y) :: st.t ++ E.t) = encT (st.t ++ E.t) := by
    rw [List.cons_append, encT_cons]
    funext i
    by_cases hi : i = d
    · subst hi
      rw [upd_self, hxy, ← h]
      exact (lkE_enc E st i).symm
    · rw [upd_ne _ _ hi]
  unfold encSt
  simp only [this]

def skipX {R : Type} (ops : Array Oper) (E : XE) (o : Oper) (st : XSt) (kk : XSt → Option R) : Option R :=
  match wantX ops E o st, fitsX E o.dst with
  | some false, true => kk (putX st o.dst (.tp []) [])
  | _, _ => none
/-- a guarded operation: both ways -/
def guardX {R : Type} (ops : Array Oper) (E : XE) (o : Oper) (st : XSt) (run skip : XSt → Option R) : Option R :=
  match o.guard with
  | none => run st
  | some (j, w) => match (ops[j]?).bind (·.dst) with
    | none => none
    | some d => match lkE E st d with
      | .b q => cond q (cond w (run ⟨(d, .b true) :: st.t, st.s⟩) (skip ⟨(d, .b true) :: st.t, st.s⟩)) (cond w (skip ⟨(d, .b false) :: st.t, st.s⟩) (run ⟨(d, .b false) :: st.t, st.s⟩))
      | .tp [] => skip st
      | _ => none
omit [Mo] in
theorem guardX_out {R : Type} {ops : Array Oper} {E : XE} {o : Oper} {st : XSt} {run skip : XSt → Option R} {r : R} (h : guardX ops E o st run skip = some r) :
    ∃ st', encSt E st' = encSt E st ∧ (run st' = some r ∨ skip st' = some r) := by
  unfold guardX at h
  split at h
  · exact ⟨st, rfl, .inl h⟩
  · rename_i j w _
    split at h
    · cases h
    · rename_i d _
      split at h
      · rename_i q hq
        cases q with
        | true =>
          refine ⟨_, encSt_lit hq rfl, ?_⟩
          cases w
          · exact .inr h
          · exact .inl h
        | false =>
          refine ⟨_, encSt_lit hq rfl, ?_⟩
          cases w
          · exact .inl h
          · exact .inr h
      · exact ⟨st, rfl, .inr h⟩
      · cases h
/-- what is to be frozen ahead of an operation -/
def fzAt (i : Nat) : List (Nat × Nat) → List Nat
  | [] => []
  | p :: l => cond (Nat.beq p.1 i) (p.2 :: fzAt i l) (fzAt i l)
noncomputable def execOps {R : Type} (D : Dec) (rows : Nat → Option Row) (Γ : List (Con P)) (ops : Array Oper) (E : XE) (fz : List (Nat × Nat)) : Nat → List Oper → XSt → (XSt → Option R) → Option R
  | _, [], st, K => K st
  | i, o :: l, st, K => guardX ops E o st (fun st' => match freezeL E (fzAt i fz) st' with
    | some st1 => opRun D rows Γ ops E 9 o st1 fun st2 => execOps D rows Γ ops E fz (i + 1) l st2 K
    | none => none) (fun st' => skipX ops E o st' fun st2 => execOps D rows Γ ops E fz (i + 1) l st2 K)
theorem skipX_sound {R : Type} {ops : Array Oper} {E : XE} {o : Oper} {l : List Oper} {st : XSt} {kk : XSt → Option R} {Q : Exit → St → Prop} {r : R} (h : skipX ops E o st kk = some r)
    (hk : ∀ st', kk st' = some r → TrOps P noG ops l (encSt E st') Q) : TrOps P noG ops (o :: l) (encSt E st) Q := by
  unfold skipX at h
  split at h
  · rename_i hw hf
    refine TrOps.skipped (wantX_spec hw) hf ?_
    have := putX_enc E st o.dst (.tp []) []
    simp only [over] at this
    have e : (X.tp []).enc = vU := rfl
    rw [e] at this
    rw [← this]; exact hk _ h
  · cases h
theorem execOps_sound (hg : Good P D) {R : Type} {rows : Nat → Option Row} {Γ : List (Con P)} {ops : Array Oper} {E : XE} {fz : List (Nat × Nat)} {Q : Exit → St → Prop} {r : R} : ∀ (l : List Oper) (i : Nat) (st : XSt) (K : XSt → Option R), execOps D rows Γ ops E fz i l st K = some r →
    (∀ st', K st' = some r → Q .normal (encSt E st')) → TrOps P noG ops l (encSt E st) Q
  | [], i, st, K, h, hk => TrOps.nil (hk st h)
  | o :: l, i, st, K, h, hk => by
    obtain ⟨st', he, h⟩ := guardX_out h
    rw [← he]
    rcases h with h | h
    · split at h
      · rename_i st1 hf
        exact TrOps.conv (freezeL_conv hf) (opRun_sound hg 9 o st1 _ h fun st2 h2 => execOps_sound hg l (i + 1) st2 K h2 hk)
      · cases h
    · exact skipX_sound h fun st2 h2 => execOps_sound hg l (i + 1) st2 K h2 hk

/-! any order -/
mutual
def X.names : X → List Nat
  | .sl _ o => [o]
  | .sw o _ _ => [o]
  | .pt o _ => [o]
  | .pe o _ _ => [o]
  | .mp o => [o]
  | .it o => [o]
  | .sp o => [o]
  | .fn _ l => namesL l
  | .ag l => namesL l
  | .tp l => namesL l
  | .ifc _ x => x.names
  | _ => []
def namesL : List X → List Nat
  | [] => []
  | x :: l => x.names ++ namesL l
end
def addN (l : List Nat) : List Nat → List Nat
  | [] => l
  | n :: k => addN (cond (hasKey l n) l (l ++ [n])) k
def objN (g : XG) (n : Nat) : List Nat := match gx g n with | some (.bx _ cells) => namesL cells | _ => []
def reach (g : XG) : Nat → List Nat → List Nat
  | 0, l => l
  | k + 1, l => reach g k (addN l (l.flatMap (objN g)))
def opNs (E : XE) (st : XSt) (o : Oper) : List Nat :=
  match callOp o.op with
  | some (fop, args) => reach (gE E st) 5 (addN [] (namesL ((fop :: args).map (evE E st)))) ++ (List.range 10).map fun j => 400000 + dNum o.dst * 100 + j
  | none => match o.op with
    | .move _ => []
    | .assign _ => []
    | .pick _ _ _ => []
    | .extract _ _ => []
    | .field _ _ _ => []
    | .unOp _ _ _ => []
    | .makeFunc _ _ _ => []
    | .makeInterface _ _ => []
    | .typeAssert _ _ _ _ => []
    | _ => addN [dNum o.dst] (namesL (o.op.operands.toList.map (evE E st)))
def gR (ns : List Nat) (g : XG) : XG := fun m => cond (hasKey ns m) (g m) (some none)
def pickG (g : XG) (f : FuncId) (xs : List X) : List (Con P) → Pick P
  | [] => .bad
  | C :: Γ => cond (Nat.beq C.f f) (match callIn C g xs with
    | .call y ρ => .call C y ρ
    | _ => pickG g f xs Γ) (pickG g f xs Γ)
theorem pickG_call {g : XG} {f : FuncId} {xs : List X} : ∀ {Γ : List (Con P)} {C : Con P} {y : Tup C.h} {ρ : Ren}, pickG g f xs Γ = .call C y ρ → C.f = f ∧ callIn C g xs = .call y ρ
  | [], C, y, ρ, h => by cases h
  | C' :: Γ, C, y, ρ, h => by
    simp only [pickG] at h
    cases hc : Nat.beq C'.f f with
    | false => rw [hc] at h; exact pickG_call h
    | true =>
      rw [hc] at h
      simp only [cond_true] at h
      split at h
      · rename_i y' ρ' hci
        cases h
        exact ⟨Nat.eq_of_beq_eq_true hc, hci⟩
      · exact pickG_call h

def opRunD {R : Type} (D : Dec) (rows : Nat → Option Row) (Γ : List (Con P)) (ops : Array Oper) (E : XE) (o : Oper) (st : XSt) (g : XG) (kk : X → XS → Option R) : Option R :=
  match wantX ops E o st with
  | some true => match callFn D (evE E st) o.op with
    | some fx => match fx with
      | some (f, xs) => match pickG g f xs Γ with
        | .call C y ρ => (C.F y).bind fun r => elimAlt (C.R.map (·.h)) r fun i l =>
            cond (callB g ρ (fresh ρ (dNum o.dst) (rAt C.R i).o) C.kp (rAt C.R i).o) (kk (callOut (rAt C.R i) ρ (dNum o.dst) l).1 (callOut (rAt C.R i) ρ (dNum o.dst) l).2) none
        | _ => none
      | none => none
    | none => match xop D rows g (evE E st) o with
      | .ok v u => kk v u
      | .grd q v u => grd q (kk v u)
      | .bnd _ m f => m.bind fun a => kk (f a).1 (f a).2
      | .cs c v1 u1 v2 u2 => cond c (kk v1 u1) (kk v2 u2)
      | _ => none
  | some false => kk (.tp []) []
  | none => none

/-- an operation's law wherever what it reads is the same -/
def LawAtD (P : Program) (ops : Array Oper) (i : Nat) (st0 : St) (ns : List Nat) (v : V) (u : XS) : Prop :=
  ∀ st : St, st.n = st0.n → st.a = st0.a → (∀ d ∈ rdOf ops i, st.t d = st0.t d) → (∀ m ∈ ns, st.s m = st0.s m) → OpLaw P noG ops (oA ops i) st v (over st.s u)

omit [Mo] in
theorem want_reads {ops : Array Oper} {i : Nat} (hi : i < ops.size) {st st0 : St} (hn : st.n = st0.n) (ht : ∀ d ∈ rdOf ops i, st.t d = st0.t d) : want ops (oA ops i) st = want ops (oA ops i) st0 := by
  have ho : ops[i]? = some ops[i] := by simp [hi]
  have hoA : oA ops i = ops[i] := by unfold oA; rw [Array.getElem?_toList, ho]; rfl
  rw [hoA]
  unfold want
  cases hgd : ops[i].guard with
  | none => rfl
  | some jw =>
    obtain ⟨j, w⟩ := jw
    simp only
    cases hd : (ops[j]?).bind (·.dst) with
    | none => rfl
    | some d =>
      simp only
      have : d ∈ rdOf ops i := by
        unfold rdOf
        rw [ho]
        unfold Oper.looksAt
        simp [hgd, hd]
      rw [hn, ht d this]
omit [Mo] in
theorem opd_reads {ops : Array Oper} {i : Nat} (hi : i < ops.size) {st st0 : St} (ht : ∀ d ∈ rdOf ops i, st.t d = st0.t d) : ∀ x ∈ (oA ops i).op.operands.toList, ev noG st.t x = ev noG st0.t x := by
  have ho : ops[i]? = some ops[i] := by simp [hi]
  have hoA : oA ops i = ops[i] := by unfold oA; rw [Array.getElem?_toList, ho]; rfl
  intro x hx
  cases x with
  | tmp d =>
    have : d ∈ rdOf ops i := by
      unfold rdOf
      rw [ho]
      unfold Oper.looksAt
      rw [hoA] at hx
      simp only [List.mem_append, List.mem_filterMap]
      exact .inl ⟨_, hx, rfl⟩
    exact ht d this
  | _ => rfl
end Go.Proofs.YtobfoiomjfdjjaaDoor.Mc

/- THE MACHINE (57): a region in any order, typed. -/
namespace Go.Proofs.YtobfoiomjfdjjaaDoor.Mc
open Go.RowKit
variable [Mo]
set_option linter.constructorNameAsVariable false
variable {P : Program} {D : Dec}

theorem opRunD_sound (hg : Good P D) {R : Type} {rows : Nat → Option Row} {Γ : List (Con P)} {ops : Array Oper} {E : XE} {i : Nat} (hi : i < ops.size) {st : XSt} {ns : List Nat} {kk : X → XS → Option R} {r : R}
    (h : opRunD D rows Γ ops E (oA ops i) st (gR ns (gE E st)) kk = some r) : ∃ v u, kk v u = some r ∧ LawAtD P ops i (encSt E st) ns v.enc u := by
  have agree : ∀ (st1 : St), (∀ m ∈ ns, st1.s m = (encSt E st).s m) → Agree (gR ns (gE E st)) st1.s := by
    intro st1 hs
    have h0 := agreeE E st
    constructor
    · intro o x hx
      unfold gR at hx
      cases hk : hasKey ns o with
      | false => rw [hk] at hx; cases hx
      | true =>
        rw [hk] at hx
        rw [hs o (hasKey_mem.1 hk)]; exact h0.is o x hx
    · intro d hd
      unfold gR at hd
      cases hk : hasKey ns d with
      | false => rw [hk] at hd; cases hd
      | true =>
        rw [hk] at hd
        rw [hs d (hasKey_mem.1 hk)]; exact h0.no d hd
  have evs : ∀ (st1 : St), (∀ d ∈ rdOf ops i, st1.t d = (encSt E st).t d) → ∀ x ∈ (oA ops i).op.operands.toList, ev noG st1.t x = (evE E st x).enc := by
    intro st1 ht x hx
    rw [opd_reads hi ht x hx]; exact evE_enc E st x
  unfold opRunD at h
  split at h
  · rename_i hw
    have hw' := wantX_spec hw
    have wants : ∀ (st1 : St), st1.n = (encSt E st).n → (∀ d ∈ rdOf ops i, st1.t d = (encSt E st).t d) → want ops (oA ops i) st1 = some true := by
      intro st1 hn ht
      rw [want_reads hi hn ht]; exact hw'
    split at h
    · rename_i fx hco
      split at h
      · rename_i f xs
        split at h
        · rename_i C y ρ hp
          obtain ⟨rfl, hci⟩ := pickG_call hp
          obtain ⟨z, hz, h⟩ := bind_out h
          have law : elimAlt (C.R.map (·.h)) z fun i' l => callB (gR ns (gE E st)) ρ (fresh ρ (dNum (oA ops i).dst) (rAt C.R i').o) C.kp (rAt C.R i').o = true →
              LawAtD P ops i (encSt E st) ns (callOut (rAt C.R i') ρ (dNum (oA ops i).dst) l).1.enc (callOut (rAt C.R i') ρ (dNum (oA ops i).dst) l).2 := by
            have all : ∀ (hs : List (List HTy)) (y : AltT hs) {A : Type 0} {p : A → Nat → List HV → Prop}, (∀ a, elimAlt hs y (p a)) → elimAlt hs y fun i l => ∀ a, p a i l := by
              intro hs
              induction hs with
              | nil => exact fun y => y.elim
              | cons b t ih =>
                cases t with
                | nil => exact fun y A p h a => h a
                | cons c t =>
                  intro y
                  cases y with
                  | inl y => exact fun h a => h a
                  | inr z => exact fun {A p} h => ih z (p := fun a i l => p a (i + 1) l) h
            have h3 := all _ z (A := { st1 : St // st1.n = (encSt E st).n ∧ st1.a = (encSt E st).a ∧ (∀ d ∈ rdOf ops i, st1.t d = (encSt E st).t d) ∧ ∀ m ∈ ns, st1.s m = (encSt E st).s m })
              (p := fun a i' l => callB (gR ns (gE E st)) ρ (fresh ρ (dNum (oA ops i).dst) (rAt C.R i').o) C.kp (rAt C.R i').o = true → OkW P noG (oA ops i) a.1 (callOut (rAt C.R i') ρ (dNum (oA ops i).dst) l).1.enc (over a.1.s (callOut (rAt C.R i') ρ (dNum (oA ops i).dst) l).2))
              (fun a => callIn_ok hg (agree a.1 a.2.2.2.2) hco (evs a.1 a.2.2.2.1) hci (dNum (oA ops i).dst) hz)
            refine elim_mono _ _ ?_ h3
            intro i' l h4 hcb st1 hn ha ht hs
            exact .inl ⟨wants st1 hn ht, h4 ⟨st1, hn, ha, ht, hs⟩ hcb⟩
          obtain ⟨i', l, h1, h2⟩ := elim_both _ z h law
          obtain ⟨hcb, h1⟩ := grd_out (c := callB _ _ _ _ _) h1
          exact ⟨_, _, h1, h2 hcb⟩
        · cases h
      · cases h
    · have law : ∀ (st1 : St), (∀ d ∈ rdOf ops i, st1.t d = (encSt E st).t d) → (∀ m ∈ ns, st1.s m = (encSt E st).s m) → OutOk P (oA ops i) st1 (xop D rows (gR ns (gE E st)) (evE E st) (oA ops i)) :=
        fun st1 ht hs => xop_spec hg (agree st1 hs) (evs st1 ht)
      split at h
      · rename_i v u hx
        rw [hx] at law
        exact ⟨v, u, h, fun st1 hn ha ht hs => .inl ⟨wants st1 hn ht, OkV.w (law st1 ht hs)⟩⟩
      · rename_i q v u hx
        rw [hx] at law
        obtain ⟨hq, h⟩ := grd_out h
        exact ⟨v, u, h, fun st1 hn ha ht hs => .inl ⟨wants st1 hn ht, OkV.w (law st1 ht hs hq)⟩⟩
      · rename_i α m f hx
        rw [hx] at law
        obtain ⟨a, ha', h⟩ := bind_out h
        exact ⟨_, _, h, fun st1 hn ha ht hs => .inl ⟨wants st1 hn ht, OkV.w (law st1 ht hs a ha')⟩⟩
      · rename_i c v1 u1 v2 u2 hx
        rw [hx] at law
        cases hc : c with
        | true => rw [hc, cond_true] at h; exact ⟨_, _, h, fun st1 hn ha ht hs => .inl ⟨wants st1 hn ht, OkV.w ((law st1 ht hs).1 hc)⟩⟩
        | false => rw [hc, cond_false] at h; exact ⟨_, _, h, fun st1 hn ha ht hs => .inl ⟨wants st1 hn ht, OkV.w ((law st1 ht hs).2 hc)⟩⟩
      · cases h
  · rename_i hw
    have hw' := wantX_spec hw
    refine ⟨.tp [], [], h, fun st1 hn ha ht hs => .inr ⟨?_, rfl, rfl⟩⟩
    rw [want_reads hi hn ht]; exact hw'
  · cases h

/-! the trace -/
structure TE where
  v : X
  u : XS
  ns : List Nat
def valsOf (tr : List TE) : List V := tr.map fun e => e.v.enc
def usOf (tr : List TE) (j : Nat) : XS := match tr[j]? with | some e => e.u | none => []
def nsOf (tr : List TE) (j : Nat) : List Nat := match tr[j]? with | some e => e.ns | none => []
def ordB (masks : List Nat) (i j : Nat) : Bool := Nat.testBit (masks.getD i 0) j || Nat.testBit (masks.getD j 0) i
def confB (masks : List Nat) (tr : List TE) : Bool :=
  (List.range tr.length).all fun j => cond (usOf tr j).isEmpty true ((List.range tr.length).all fun i => Nat.beq i j || ordB masks i j || (usOf tr j).all fun p => !(hasKey (nsOf tr i) p.1) && !(hasKey ((usOf tr i).map (·.1)) p.1))
def depL (ops : Array Oper) (i : Nat) : List Nat := match ops[i]? with | some o => (o.after.toList.filter (Region.binds .any)).map (·.on) | none => []
def maskB (ops : Array Oper) (masks : List Nat) : Bool :=
  (List.range ops.size).all fun i => Nat.beq ((depL ops i).foldl (fun m j => m ||| ((1 <<< j) ||| masks.getD j 0)) 0) (masks.getD i 0)
def preB (ops : Array Oper) (n : Nat) (masks : List Nat) : Bool :=
  (dsts ops).all (fun d => Nat.blt d n) && (List.range ops.size).all (fun j => match ops[j]? with | some o => (match o.dst with | some d => (match dAt ops d with | some i => Nat.beq i j | none => false) | none => true) | none => true)
  && (List.range ops.size).all (fun i => (rdOf ops i).all fun d => match dAt ops d with | some j => hasKey (depL ops i) j || hasKey (depL ops j) i || Nat.beq i j | none => true)
  && (List.range ops.size).all (fun i => (depL ops i).all fun j => Nat.blt j i) && maskB ops masks

omit [Mo] in
theorem depOn_iff {ops : Array Oper} {i j : Nat} : depOn ops i j = true ↔ j ∈ depL ops i := by
  unfold depOn depL
  cases ops[i]? with
  | none => simp
  | some o =>
    simp only [List.mem_map, List.mem_filter]
    rw [Array.any_eq_true']
    constructor
    · rintro ⟨e, he, hb⟩
      simp only [Bool.and_eq_true] at hb
      exact ⟨e, ⟨by simpa using he, hb.1⟩, Nat.eq_of_beq_eq_true hb.2⟩
    · rintro ⟨e, ⟨he, hb⟩, rfl⟩
      exact ⟨e, by simpa using he, by rw [hb]; simp⟩
omit [Mo] in
theorem fold_bit {f : Nat → Nat} {b : Nat} : ∀ (l : List Nat) (m : Nat), Nat.testBit (l.foldl (fun m j => m ||| ((1 <<< j) ||| f j)) m) b = true → Nat.testBit m b = true ∨ ∃ j ∈ l, j = b ∨ Nat.testBit (f j) b = true
  | [], m, h => .inl h
  | j :: l, m, h => by
    rcases fold_bit l _ h with h1 | ⟨k, hk, h1⟩
    · simp only [Nat.testBit_or, Bool.or_eq_true] at h1
      rcases h1 with h1 | h1 | h1
      · exact .inl h1
      · refine .inr ⟨j, by simp, .inl ?_⟩
        rw [Nat.one_shiftLeft, Nat.testBit_two_pow] at h1
        exact of_decide_eq_true h1
      · exact .inr ⟨j, by simp, .inr h1⟩
    · exact .inr ⟨k, by simp [hk], h1⟩
omit [Mo] in
theorem mask_way {ops : Array Oper} {masks : List Nat} (h : maskB ops masks = true) (hlow : ∀ i j, depOn ops i j = true → j < i) : ∀ (i : Nat), i < ops.size → ∀ j, Nat.testBit (masks.getD i 0) j = true → Way ops i j := by
  intro i
  induction i using Nat.strongRecOn with
  | _ i ih =>
    intro hi j hb
    have := List.all_eq_true.1 h i (List.mem_range.2 hi)
    rw [← Nat.eq_of_beq_eq_true this] at hb
    rcases fold_bit _ _ hb with h1 | ⟨k, hk, h1⟩
    · simp at h1
    · have hd : depOn ops i k = true := depOn_iff.2 hk
      rcases h1 with rfl | h1
      · exact .one hd
      · exact .step hd (ih k (hlow _ _ hd) (Nat.lt_trans (hlow _ _ hd) hi) j h1)

structure Pre (ops : Array Oper) (n : Nat) (masks : List Nat) : Prop where
  fit : ∀ (i : Nat) (o : Oper) (d : Nat), ops[i]? = some o → o.dst = some d → d < n
  uniq : ∀ (i : Nat) (o : Oper) (d : Nat), ops[i]? = some o → o.dst = some d → dAt ops d = some i
  reads : ∀ i, i < ops.size → ∀ d ∈ rdOf ops i, ∀ j, dAt ops d = some j → depOn ops i j = true ∨ depOn ops j i = true ∨ i = j
  low : ∀ i j, depOn ops i j = true → j < i
  mask : maskB ops masks = true
omit [Mo] in
theorem pre_of {ops : Array Oper} {n : Nat} {masks : List Nat} (h : preB ops n masks = true) : Pre ops n masks := by
  simp only [preB, Bool.and_eq_true] at h
  obtain ⟨⟨⟨⟨h1, h2⟩, h3⟩, h4⟩, h5⟩ := h
  refine ⟨?_, ?_, ?_, ?_, h5⟩
  · intro i o d ho hd
    have := List.all_eq_true.1 h1 d (List.mem_filterMap.2 ⟨o, by rw [← Array.getElem?_toList] at ho; exact List.mem_of_getElem? ho, hd⟩)
    simpa using this
  · intro i o d ho hd
    have hi := (Array.getElem?_eq_some_iff.1 ho).1
    have := List.all_eq_true.1 h2 i (List.mem_range.2 hi)
    simp only [ho, hd] at this
    split at this
    · rename_i j hj; rw [hj, Nat.eq_of_beq_eq_true this]
    · cases this
  · intro i hi d hd j hj
    have := List.all_eq_true.1 (List.all_eq_true.1 h3 i (List.mem_range.2 hi)) d hd
    simp only [hj, Bool.or_eq_true] at this
    rcases this with (h | h) | h
    · exact .inl (depOn_iff.2 (hasKey_mem.1 h))
    · exact .inr (.inl (depOn_iff.2 (hasKey_mem.1 h)))
    · exact .inr (.inr (Nat.eq_of_beq_eq_true h))
  · intro i j hd
    have hi := dep_size hd
    have := List.all_eq_true.1 (List.all_eq_true.1 h4 i (List.mem_range.2 hi)) j (depOn_iff.1 hd)
    simpa using this

structure Path (P : Program) (ops : Array Oper) (E : XE) (t0 : Nat → V) (s0 : Store) (k : Nat) (st : XSt) (tr : List TE) : Prop where
  len : tr.length = k
  t : (encSt E st).t = tL ops t0 (valsOf tr) (seqF k)
  s : (encSt E st).s = over s0 (acc (usOf tr) (seqF k) k)
  law : ∀ i, i < k → LawAtD P ops i ⟨tL ops t0 (valsOf tr) (seqF i), over s0 (acc (usOf tr) (seqF i) i), E.n, E.a⟩ (nsOf tr i) (vOf (valsOf tr) i) (usOf tr i)

omit [Mo] in
theorem acc_congr {us us' : Nat → XS} {f g : Nat → Bool} : ∀ (k : Nat), (∀ j, j < k → f j = g j ∧ us j = us' j) → acc us f k = acc us' g k
  | 0, _ => rfl
  | k + 1, h => by
    simp only [acc, (h k (by omega)).1, (h k (by omega)).2]
    rw [acc_congr k fun j hj => h j (by omega)]
omit [Mo] in
theorem usOf_append {tr : List TE} {e : TE} {j : Nat} (h : j < tr.length) : usOf (tr ++ [e]) j = usOf tr j := by unfold usOf; rw [List.getElem?_append_left h]
omit [Mo] in
theorem nsOf_append {tr : List TE} {e : TE} {j : Nat} (h : j < tr.length) : nsOf (tr ++ [e]) j = nsOf tr j := by unfold nsOf; rw [List.getElem?_append_left h]
omit [Mo] in
theorem vOf_append {tr : List TE} {e : TE} {j : Nat} (h : j < tr.length) : vOf (valsOf (tr ++ [e])) j = vOf (valsOf tr) j := by unfold vOf valsOf; rw [List.map_append, List.getElem?_append_left (by simpa using h)]
omit [Mo] in
theorem tL_congr {ops : Array Oper} {t0 : Nat → V} {vs vs' : List V} {f : Nat → Bool} (h : ∀ j, f j = true → vOf vs j = vOf vs' j) : tL ops t0 vs f = tL ops t0 vs' f := by
  funext d
  unfold tL
  cases dAt ops d with
  | none => rfl
  | some j =>
    simp only
    cases hf : f j with
    | false => rfl
    | true => simp only [cond_true, h j hf]
omit [Mo] in
theorem seqF_lt {i j : Nat} : seqF i j = true ↔ j < i := by unfold seqF; rw [Nat.blt_eq]

theorem Path.step {ops : Array Oper} {E : XE} {t0 : Nat → V} {s0 : Store} {k : Nat} {st : XSt} {tr : List TE} {masks : List Nat} (hp : Pre ops E.n masks) (h : Path P ops E t0 s0 k st tr) {o : Oper} (ho : ops[k]? = some o) {v : X} {u : XS} {ns : List Nat}
    (hl : LawAtD P ops k (encSt E st) ns v.enc u) : Path P ops E t0 s0 (k + 1) (putX st o.dst v u) (tr ++ [⟨v, u, ns⟩]) := by
  have hlen := h.len
  have hu : usOf (tr ++ [⟨v, u, ns⟩]) k = u := by unfold usOf; rw [← hlen]; simp
  have hns : nsOf (tr ++ [⟨v, u, ns⟩]) k = ns := by unfold nsOf; rw [← hlen]; simp
  have hv : vOf (valsOf (tr ++ [⟨v, u, ns⟩])) k = v.enc := by unfold vOf valsOf; rw [← hlen]; simp
  have hts : ∀ i, i ≤ k → tL ops t0 (valsOf (tr ++ [⟨v, u, ns⟩])) (seqF i) = tL ops t0 (valsOf tr) (seqF i) := fun i hi => tL_congr fun j hj => vOf_append (by have := seqF_lt.1 hj; omega)
  have hacc : ∀ i, i ≤ k → acc (usOf (tr ++ [⟨v, u, ns⟩])) (seqF i) i = acc (usOf tr) (seqF i) i := fun i hi => acc_congr i fun j hj => ⟨rfl, usOf_append (by omega)⟩
  refine ⟨by simp [hlen], ?_, ?_, fun i hi => ?_⟩
  · rw [putX_enc]
    have e1 : ((encSt E st).put o.dst v.enc (over (encSt E st).s u)).t = match o.dst with | some d => upd (encSt E st).t d v.enc | none => (encSt E st).t := rfl
    rw [e1, h.t, ← hts k (Nat.le_refl _)]
    have step : ∀ j, j ≠ k → seqF (k + 1) j = seqF k j := by
      intro j hj
      rw [Bool.eq_iff_iff, seqF_lt, seqF_lt]; omega
    cases hd : o.dst with
    | none =>
      funext d
      show tL ops t0 (valsOf (tr ++ [⟨v, u, ns⟩])) (seqF k) d = tL ops t0 (valsOf (tr ++ [⟨v, u, ns⟩])) (seqF (k + 1)) d
      unfold tL
      cases hq : dAt ops d with
      | none => rfl
      | some q =>
        obtain ⟨oq, hoq, hdq⟩ := dAt_some hq
        have : q ≠ k := by rintro rfl; rw [ho] at hoq; cases hoq; rw [hd] at hdq; cases hdq
        simp only [step q this]
    | some d' =>
      funext d
      show upd _ d' v.enc d = _
      by_cases hdd : d = d'
      · subst hdd
        rw [upd_self]
        unfold tL
        rw [hp.uniq k o d ho hd]
        have : seqF (k + 1) k = true := seqF_lt.2 (by omega)
        simp only [this, cond_true, hv]
      · rw [upd_ne _ _ hdd]
        unfold tL
        cases hq : dAt ops d with
        | none => rfl
        | some q =>
          obtain ⟨oq, hoq, hdq⟩ := dAt_some hq
          have : q ≠ k := by rintro rfl; rw [ho] at hoq; cases hoq; rw [hd] at hdq; exact hdd (Option.some.inj hdq).symm
          simp only [step q this]
  · rw [putX_enc]
    show over (encSt E st).s u = _
    rw [h.s]
    have : seqF (k + 1) k = true := seqF_lt.2 (by omega)
    simp only [acc, this, cond_true, hu]
    have e2 : acc (usOf (tr ++ [⟨v, u, ns⟩])) (seqF (k + 1)) k = acc (usOf tr) (seqF k) k := acc_congr k fun j hj => ⟨by rw [Bool.eq_iff_iff, seqF_lt, seqF_lt]; omega, usOf_append (by omega)⟩
    rw [e2]
    funext m
    rw [over_lk, over_lk, over_lk, lk_append]
    cases lk u m <;> rfl
  · by_cases hik : i = k
    · subst hik
      rw [hu, hns, hv, hts i (Nat.le_refl _), hacc i (Nat.le_refl _), ← h.t, ← h.s]
      exact hl
    · have hik' : i < k := by omega
      rw [hts i (by omega), hacc i (by omega), nsOf_append (by omega), usOf_append (by omega), vOf_append (by omega)]
      exact h.law i hik'

omit [Mo] in
theorem acc_stop {us : Nat → XS} {i : Nat} : ∀ (k : Nat), i ≤ k → acc us (seqF i) k = acc us (seqF i) i
  | 0, h => by have : i = 0 := by omega
               subst this; rfl
  | k + 1, h => by
    by_cases hik : i = k + 1
    · subst hik; rfl
    · simp only [acc]
      have : seqF i k = false := by rw [← Bool.not_eq_true, seqF_lt]; omega
      rw [this, cond_false, List.nil_append]
      exact acc_stop k (by omega)

theorem Path.done {ops : Array Oper} {E : XE} {st0 st : XSt} {tr : List TE} {masks : List Nat} (hp : Pre ops E.n masks) (h : Path P ops E (encSt E st0).t (encSt E st0).s ops.size st tr) (hc : confB masks tr = true) {id : Nat} {Q : Exit → St → Prop} (hm : P.follows .mixedOrders = true)
    (k : Q .normal (encSt E st)) : Tr P noG (.region id ops true) (encSt E st0) Q := by
  have chk : Chk2 ops E.n (usOf tr) (nsOf tr) := by
    refine ⟨hp.fit, hp.uniq, hp.reads, hp.low, fun i j hi hj hij => ?_⟩
    have h1 := List.all_eq_true.1 hc j (List.mem_range.2 (by rw [h.len]; exact hj))
    cases he : (usOf tr j).isEmpty with
    | true =>
      right; right
      intro m x hx
      rw [List.isEmpty_iff] at he
      rw [he] at hx; cases hx
    | false =>
      rw [he, cond_false] at h1
      have h2 := List.all_eq_true.1 h1 i (List.mem_range.2 (by rw [h.len]; exact hi))
      simp only [Bool.or_eq_true] at h2
      rcases h2 with (h2 | h2) | h2
      · exact absurd (Nat.eq_of_beq_eq_true h2) hij
      · unfold ordB at h2
        rw [Bool.or_eq_true] at h2
        rcases h2 with h2 | h2
        · exact .inl (mask_way hp.mask hp.low i hi j h2)
        · exact .inr (.inl (mask_way hp.mask hp.low j hj i h2))
      · right; right
        intro m x hx
        have h3 := List.all_eq_true.1 h2 _ (lk_mem hx)
        simp only [Bool.and_eq_true, Bool.not_eq_true'] at h3
        refine ⟨fun hm => ?_, ?_⟩
        · rw [hasKey_mem.2 hm] at h3; cases h3.1
        · cases hl : lk (usOf tr i) m with
          | none => rfl
          | some y =>
            have := h3.2
            rw [hasKey_mem.2 (List.mem_map.2 ⟨_, lk_mem hl, rfl⟩)] at this; cases this
  have := Tr.any (id := id) (t := (encSt E st0).t) (s := (encSt E st0).s) (n := E.n) (an := E.a) (vals := valsOf tr) (Q := Q) hm chk (fun i hi => ?_) ?_
  · exact this
  · have hl := h.law i hi
    intro st1 hn ha ht hs
    refine hl st1 hn ha ht fun m hm => ?_
    rw [hs m hm, acc_stop ops.size (by omega)]
  · rw [← h.t, ← h.s]; exact k

noncomputable def execD {R : Type} (D : Dec) (rows : Nat → Option Row) (Γ : List (Con P)) (ops : Array Oper) (E : XE) (masks : List Nat) : List Oper → XSt → List TE → (XSt → Option R) → Option R
  | [], st, tr, K => grd (confB masks tr) (K st)
  | o :: l, st, tr, K =>
    let step := fun st' => opRunD D rows Γ ops E o st' (gR (opNs E st' o) (gE E st')) fun v u => execD D rows Γ ops E masks l (putX st' o.dst v u) (tr ++ [⟨v, u, opNs E st' o⟩]) K
    guardX ops E o st step step

theorem Path.lit {ops : Array Oper} {E : XE} {t0 : Nat → V} {s0 : Store} {k : Nat} {st st' : XSt} {tr : List TE} (h : Path P ops E t0 s0 k st tr) (he : encSt E st' = encSt E st) : Path P ops E t0 s0 k st' tr :=
  ⟨h.len, by rw [he]; exact h.t, by rw [he]; exact h.s, h.law⟩

theorem execD_sound (hg : Good P D) {R : Type} {rows : Nat → Option Row} {Γ : List (Con P)} {ops : Array Oper} {E : XE} {masks : List Nat} (hp : Pre ops E.n masks) {st0 : XSt} {r : R} : ∀ (l : List Oper) (k : Nat) (st : XSt) (tr : List TE) (K : XSt → Option R),
    ops.toList.drop k = l → k ≤ ops.size → Path P ops E (encSt E st0).t (encSt E st0).s k st tr → execD D rows Γ ops E masks l st tr K = some r →
    ∃ st' tr', Path P ops E (encSt E st0).t (encSt E st0).s ops.size st' tr' ∧ confB masks tr' = true ∧ K st' = some r
  | [], k, st, tr, K, hl, hk, hpath, h => by
    obtain ⟨hc, h⟩ := grd_out h
    have : k = ops.size := by
      have := congrArg List.length hl
      simp at this; omega
    subst this
    exact ⟨st, tr, hpath, hc, h⟩
  | o :: l, k, st, tr, K, hl, hk, hpath, h => by
    have hks : k < ops.size := by
      have := congrArg List.length hl
      simp at this; omega
    have ho : ops[k]? = some o := by
      have := congrArg (fun l => l[0]?) hl
      simpa using this
    have hoA : oA ops k = o := by unfold oA; rw [Array.getElem?_toList, ho]; rfl
    have hl' : ops.toList.drop (k + 1) = l := by
      have := congrArg (List.drop 1) hl
      rw [List.drop_drop] at this
      simpa [Nat.add_comm] using this
    simp only [execD] at h
    obtain ⟨st', he, h⟩ := guardX_out h
    have h : opRunD D rows Γ ops E o st' (gR (opNs E st' o) (gE E st')) (fun v u => execD D rows Γ ops E masks l (putX st' o.dst v u) (tr ++ [⟨v, u, opNs E st' o⟩]) K) = some r := h.elim id id
    rw [← hoA] at h
    obtain ⟨v, u, h1, h2⟩ := opRunD_sound hg hks h
    rw [hoA] at h1 h2
    exact execD_sound hg hp l (k + 1) _ _ K hl' hks (Path.step hp (hpath.lit he) ho h2) h1
end Go.Proofs.YtobfoiomjfdjjaaDoor.Mc

/- THE MACHINE (58): code run, typed; that what comes out is what the code does. -/
namespace Go.Proofs.YtobfoiomjfdjjaaDoor.Mc
open Go.RowKit
variable [Mo]
set_option linter.constructorNameAsVariable false
variable {P : Program} {D : Dec}

/-- notes on code: where states are joined, loops, masks of regions that draw. kt, ko: slots and objects that stay as they are; ts: the ends and their templates -/
inductive An where
  | nd
  | sq (a b : An)
  | jn (kt ko : List Nat) (ts : List (Nat × Tpl)) (hs : List (List HTy)) (a b : An)
  | lp (kt ko : List Nat) (L : Tpl) (h : List HTy) (ts : List (Nat × Tpl)) (hs : List (List HTy)) (a : An)
  | lc (kt ko : List Nat) (L : Tpl) (h : List HTy) (ts : List (Nat × Tpl)) (hs : List (List HTy)) (a : An)
  | mk (frz masks : List Nat)
  | fr (fz : List (Nat × Nat))
  | al (i : Nat) (a b : An)
  | am (o n : Nat) (a b : An)
def An.fst : An → An | .sq a _ => a | _ => .nd
def An.snd : An → An | .sq _ b => b | _ => .nd
def An.ms : An → List Nat | .mk _ l => l | _ => []
def An.fr' : An → List (Nat × Nat) | .fr l => l | _ => []
def An.fz : An → List Nat | .mk l _ => l | _ => []

def isCX : X → Bool | .c _ => true | _ => false
/-- has a box so many cells? -/
def boxLen (g : XG) (o n : Nat) : Bool := match gx g o with | some (.bx _ cells) => Nat.beq cells.length n | _ => false
/-- the note that holds at a state: of two, the first one where a slot holds a constant -/
def An.at (E : XE) (st : XSt) : An → An
  | .al i a b => cond (isCX (lkE E st i)) (a.at E st) (b.at E st)
  | .am o n a b => cond (boxLen (gE E st) o n) (a.at E st) (b.at E st)
  | a => a
def exNum : Exit → Option Nat
  | .normal => some 0
  | .ret => some 1
  | .exit id => some (id + 2)
  | _ => none

def keepL {α : Type} (t : List (Nat × α)) : List Nat → List (Nat × α)
  | [] => []
  | i :: l => match lk t i with | some x => (i, x) :: keepL t l | none => keepL t l
def dropL {α : Type} (l : List Nat) : List (Nat × α) → List (Nat × α)
  | [] => []
  | p :: t => cond (hasKey l p.1) (dropL l t) (p :: dropL l t)
def inE (kt ko : List Nat) (E : XE) (st : XSt) : XE := ⟨keepL st.t kt ++ E.t, keepL st.s ko ++ E.s, E.n, E.a⟩
def inSt (kt ko : List Nat) (st : XSt) : XSt := ⟨dropL kt st.t, dropL ko st.s⟩
def backSt (kt ko : List Nat) (st : XSt) (f : XSt) : XSt := ⟨f.t ++ keepL st.t kt, f.s ++ keepL st.s ko⟩

omit [Mo] in
theorem lk_keepL {α : Type} (t : List (Nat × α)) : ∀ (l : List Nat) (n : Nat), lk (keepL t l) n = if n ∈ l then lk t n else none
  | [], n => by simp [keepL, lk]
  | i :: l, n => by
    simp only [keepL]
    cases hl : lk t i with
    | none =>
      simp only []
      rw [lk_keepL t l n]
      by_cases hn : n = i
      · subst hn; simp [hl]
      · simp [hn]
    | some x =>
      simp only [lk]
      cases hb : Nat.beq i n with
      | true => have := Nat.eq_of_beq_eq_true hb; subst this; simp [hl]
      | false =>
        have hn : ¬ n = i := by rintro rfl; simp at hb
        rw [cond_false, lk_keepL t l n]; simp [hn]
omit [Mo] in
theorem lk_dropL {α : Type} (l : List Nat) : ∀ (t : List (Nat × α)) (n : Nat), lk (dropL l t) n = if n ∈ l then none else lk t n
  | [], n => by simp [dropL, lk]
  | (i, x) :: t, n => by
    simp only [dropL, lk]
    cases hk : hasKey l i with
    | true =>
      rw [cond_true, lk_dropL l t n]
      cases hb : Nat.beq i n with
      | true => have := Nat.eq_of_beq_eq_true hb; subst this; simp [hasKey_mem.1 hk]
      | false => rfl
    | false =>
      rw [cond_false, lk]
      cases hb : Nat.beq i n with
      | true =>
        have := Nat.eq_of_beq_eq_true hb; subst this
        have : i ∉ l := fun h => by rw [hasKey_mem.2 h] at hk; cases hk
        simp [this]
      | false => rw [cond_false, lk_dropL l t n]; rfl
omit [Mo] in
theorem lk_split {α : Type} (l : List Nat) (t u : List (Nat × α)) (n : Nat) : lk (dropL l t ++ (keepL t l ++ u)) n = lk (t ++ u) n := by
  rw [lk_append, lk_append, lk_append, lk_dropL, lk_keepL]
  by_cases h : n ∈ l
  · rw [if_pos h, if_pos h]
  · rw [if_neg h, if_neg h]
omit [Mo] in
theorem encT_ext {t u : XT} (h : ∀ i, lk t i = lk u i) : encT t = encT u := by funext i; unfold encT; rw [h]
omit [Mo] in
theorem encS_ext {t u : XS} (h : ∀ i, lk t i = lk u i) : encS t = encS u := by funext i; unfold encS; rw [h]
omit [Mo] in
theorem encSt_in (kt ko : List Nat) (E : XE) (st : XSt) : encSt (inE kt ko E st) (inSt kt ko st) = encSt E st := by
  unfold encSt inE inSt
  simp only
  rw [encT_ext (lk_split kt st.t E.t), encS_ext (lk_split ko st.s E.s)]
omit [Mo] in
theorem encSt_back (kt ko : List Nat) (E : XE) (st f : XSt) : encSt E (backSt kt ko st f) = encSt (inE kt ko E st) f := by
  unfold encSt inE backSt
  simp only [List.append_assoc]

/-! ends -/
def leafX (E : XE) (hs : List (List HTy)) : Nat → List (Nat × Tpl) → Nat → XSt → Option (AltT hs)
  | _, [], _, _ => none
  | i, (x, tp) :: ts, e, st => cond (Nat.beq x e) (match conform E tp st with
    | some l => mkAlt hs i l
    | none => leafX E hs (i + 1) ts e st) (leafX E hs (i + 1) ts e st)
def endAt (ts : List (Nat × Tpl)) (i : Nat) : Nat × Tpl := match ts[i]? with | some p => p | none => (0, ⟨[], []⟩)
omit [Mo] in
theorem leafX_out {E : XE} {hs : List (List HTy)} {e : Nat} {st : XSt} {y : AltT hs} {ts0 : List (Nat × Tpl)} : ∀ (ts : List (Nat × Tpl)) (i : Nat), (∀ j, ts0[i + j]? = ts[j]?) → leafX E hs i ts e st = some y →
    ∃ k l, (endAt ts0 k).1 = e ∧ conform E (endAt ts0 k).2 st = some l ∧ mkAlt hs k l = some y
  | [], i, _, h => by cases h
  | (x, tp) :: ts, i, h0, h => by
    have hn : ∀ j, ts0[i + 1 + j]? = ts[j]? := fun j => by have := h0 (j + 1); simpa [Nat.add_assoc, Nat.add_comm 1 j] using this
    simp only [leafX] at h
    cases hb : Nat.beq x e with
    | false => rw [hb] at h; exact leafX_out ts (i + 1) hn h
    | true =>
      rw [hb] at h
      simp only [cond_true] at h
      split at h
      · rename_i l hl
        have he : endAt ts0 i = (x, tp) := by unfold endAt; have := h0 0; simp at this; rw [this]
        exact ⟨i, l, by rw [he]; exact Nat.eq_of_beq_eq_true hb, by rw [he]; exact hl, h⟩
      · exact leafX_out ts (i + 1) hn h

/-- a loop, by fuel -/
def loopN {α β : Type} (f : α → Option (α ⊕ β)) : Nat → α → Option β
  | 0, _ => none
  | k + 1, a => (f a).bind (sel (loopN f k) some)

def leafL (E : XE) (L : Tpl) (h : List HTy) (ts : List (Nat × Tpl)) (hs : List (List HTy)) (e : Nat) (st : XSt) : Option (Tup h ⊕ AltT hs) :=
  cond (Nat.beq e 0) (match conform E L st with
    | some l => match toTup h l with | some y => some (.inl y) | none => none
    | none => none) (match leafX E hs 0 ts e st with | some y => some (.inr y) | none => none)

/-- a loop whose steps may go several ways: with what comes behind it -/
def loopC {α β R : Type} (f : α → (α → Option R) → (β → Option R) → Option R) : Nat → α → (β → Option R) → Option R
  | 0, _, _ => none
  | k + 1, a, K => f a (fun b => loopC f k b K) K
def leafC {R : Type} (E : XE) (L : Tpl) (h : List HTy) (ts : List (Nat × Tpl)) (hs : List (List HTy)) (Kin : Tup h → Option R) (Kout : AltT hs → Option R) (e : Nat) (st : XSt) : Option R :=
  cond (Nat.beq e 0) (match conform E L st with
    | some l => match toTup h l with | some y => Kin y | none => none
    | none => none) (match leafX E hs 0 ts e st with | some y => Kout y | none => none)

noncomputable def exec (D : Dec) (rows : Nat → Option Row) (Γ : List (Con P)) (fuel : Nat) : Code → ∀ {R : Type}, An → XE → XSt → (Nat → XSt → Option R) → Option R
  | .skip, _, _, _, st, K => K 0 st
  | .ret, _, _, _, st, K => K 1 st
  | .exit id, _, _, _, st, K => K (id + 2) st
  | .region _ ops draw, _, an, E, st, K => cond draw
      (grd (preB ops E.n (an.at E st).ms) (match freezeL E (an.at E st).fz st with
        | some st' => execD D rows Γ ops E (an.at E st).ms ops.toList st' [] (K 0)
        | none => none))
      (execOps D rows Γ ops E (an.at E st).fr' 0 ops.toList st (K 0))
  | .seq a b, _, an, E, st, K => match an.at E st with
    | .jn kt ko ts hs A B =>
      (exec D rows Γ fuel a A (inE kt ko E st) (inSt kt ko st) (leafX (inE kt ko E st) hs 0 ts)).bind fun y => elimAlt hs y fun i l =>
        cond (Nat.beq (endAt ts i).1 0) (exec D rows Γ fuel b B E (backSt kt ko st (fillTpl (endAt ts i).2 l)) K) (K (endAt ts i).1 (backSt kt ko st (fillTpl (endAt ts i).2 l)))
    | an => exec D rows Γ fuel a an.fst E st fun e st' => cond (Nat.beq e 0) (exec D rows Γ fuel b an.snd E st' K) (K e st')
  | .cond c a b, _, an, E, st, K => match evE E st c with
    | .b q => cond q (exec D rows Γ fuel a (an.at E st).fst E st K) (exec D rows Γ fuel b (an.at E st).snd E st K)
    | _ => none
  | .block id c, _, an, E, st, K => exec D rows Γ fuel c an E st fun e st' => cond (Nat.beq e (id + 2)) (K 0 st') (K e st')
  | .loop c, _, an, E, st, K => match an.at E st with
    | .lp kt ko L h ts hs A => match conform (inE kt ko E st) L (inSt kt ko st) with
      | some l => match toTup h l with
        | some y0 => (loopN (fun y => exec D rows Γ fuel c A (inE kt ko E st) (fillTpl L (ofTup h y)) (leafL (inE kt ko E st) L h ts hs)) fuel y0).bind fun x => elimAlt hs x fun i l =>
            K (endAt ts i).1 (backSt kt ko st (fillTpl (endAt ts i).2 l))
        | none => none
      | none => none
    | .lc kt ko L h ts hs A => match conform (inE kt ko E st) L (inSt kt ko st) with
      | some l => match toTup h l with
        | some y0 => loopC (fun y Kin Kout => exec D rows Γ fuel c A (inE kt ko E st) (fillTpl L (ofTup h y)) (leafC (inE kt ko E st) L h ts hs Kin Kout)) fuel y0 fun x => elimAlt hs x fun i l =>
            K (endAt ts i).1 (backSt kt ko st (fillTpl (endAt ts i).2 l))
        | none => none
      | none => none
    | _ => none
  | _, _, _, _, _, _ => none

def PostX {R : Type} (E : XE) (K : Nat → XSt → Option R) (r : R) : Exit → St → Prop := fun e s => ∃ x st', exNum e = some x ∧ Conv noG s (encSt E st') ∧ K x st' = some r

omit [Mo] in
theorem exNum_normal {e : Exit} (h : exNum e = some 0) : e = .normal := by cases e <;> simp [exNum] at h <;> rfl

theorem leafX_post {R : Type} {E : XE} {kt ko : List Nat} {st : XSt} {hs : List (List HTy)} {ts : List (Nat × Tpl)} {y : AltT hs} {x : Nat} {st' : XSt} (h : leafX (inE kt ko E st) hs 0 ts x st' = some y) (f : Nat → List HV → Option R) {r : R} (hf : elimAlt hs y f = some r) :
    ∃ k l, (endAt ts k).1 = x ∧ f k l = some r ∧ Conv noG (encSt (inE kt ko E st) st') (encSt E (backSt kt ko st (fillTpl (endAt ts k).2 l))) := by
  obtain ⟨k, l, h1, h2, h3⟩ := leafX_out (ts0 := ts) ts 0 (fun j => by simp) h
  refine ⟨k, l, h1, ?_, ?_⟩
  · rw [← elim_mk hs k l y f h3]; exact hf
  · rw [encSt_back]; exact Conv.conform h2

theorem exec_sound (hg : Good P D) (hm : P.follows .mixedOrders = true) {rows : Nat → Option Row} {Γ : List (Con P)} {fuel : Nat} : ∀ (c : Code) {R : Type} (an : An) (E : XE) (st : XSt) (K : Nat → XSt → Option R) (r : R), exec D rows Γ fuel c an E st K = some r →
    Tr P noG c (encSt E st) (PostX E K r) := by
  intro c
  induction c with
  | skip => intro R an E st K r h; exact Tr.skip ⟨0, st, rfl, Conv.refl _, by simpa only [exec] using h⟩
  | ret => intro R an E st K r h; exact Tr.ret ⟨1, st, rfl, Conv.refl _, by simpa only [exec] using h⟩
  | exit id => intro R an E st K r h; exact Tr.exit ⟨id + 2, st, rfl, Conv.refl _, by simpa only [exec] using h⟩
  | region id ops draw =>
    intro R an E st K r h
    simp only [exec] at h
    cases draw with
    | false =>
      simp only [cond_false] at h
      exact Tr.region (execOps_sound hg ops.toList 0 st (K 0) h fun st' h' => ⟨0, st', rfl, Conv.refl _, h'⟩)
    | true =>
      simp only [cond_true] at h
      obtain ⟨hp, h⟩ := grd_out h
      have hp := pre_of hp
      split at h
      · rename_i st1 hf
        refine Tr.conv (freezeL_conv hf) ?_
        have p0 : Path P ops E (encSt E st1).t (encSt E st1).s 0 st1 [] := by
          refine ⟨rfl, ?_, rfl, fun i hi => by omega⟩
          funext d
          unfold tL
          cases dAt ops d with
          | none => rfl
          | some q =>
            have : seqF 0 q = false := by rw [← Bool.not_eq_true, seqF_lt]; omega
            simp only [this, cond_false]
        obtain ⟨st', tr', h1, h2, h3⟩ := execD_sound hg hp ops.toList 0 st1 [] (K 0) (by simp) (Nat.zero_le _) p0 h
        exact h1.done hp h2 hm ⟨0, st', rfl, Conv.refl _, h3⟩
      · cases h
  | seq a b iha ihb =>
    intro R an E st K r h
    have plain : ∀ (A B : An), exec D rows Γ fuel a A E st (fun e st' => cond (Nat.beq e 0) (exec D rows Γ fuel b B E st' K) (K e st')) = some r → Tr P noG (.seq a b) (encSt E st) (PostX E K r) := by
      intro A B h
      refine Tr.seq ((iha A E st _ r h).mono ?_)
      rintro e s ⟨x, st', h1, h2, h3⟩
      replace h3 : (cond (Nat.beq x 0) (exec D rows Γ fuel b B E st' K) (K x st')) = some r := h3
      cases hx : Nat.beq x 0 with
      | true =>
        rw [hx] at h3
        have hx0 := Nat.eq_of_beq_eq_true hx
        subst hx0
        obtain rfl := exNum_normal h1
        exact Tr.conv h2 (ihb B E st' K r h3)
      | false =>
        rw [hx] at h3
        have hne : e ≠ .normal := by rintro rfl; cases h1; cases hx
        have : thenQ P noG b (PostX E K r) e s = PostX E K r e s := by cases e <;> first | rfl | exact absurd rfl hne
        rw [this]; exact ⟨x, st', h1, h2, h3⟩
    simp only [exec] at h
    generalize an.at E st = an at h
    cases an with
    | jn kt ko ts hs A B =>
      obtain ⟨y, hy, h⟩ := bind_out h
      have ha := iha A (inE kt ko E st) (inSt kt ko st) _ y hy
      rw [encSt_in] at ha
      refine Tr.seq (ha.mono ?_)
      rintro e s ⟨x, st', h1, h2, h3⟩
      obtain ⟨k, l, h4, h5, h6⟩ := leafX_post h3 _ h
      cases hx : Nat.beq (endAt ts k).1 0 with
      | true =>
        rw [hx] at h5
        have hx0 := Nat.eq_of_beq_eq_true hx
        rw [h4] at hx0
        subst hx0
        obtain rfl := exNum_normal h1
        exact Tr.conv (h2.trans h6) (ihb B E _ K r h5)
      | false =>
        rw [hx] at h5
        have hne : e ≠ .normal := by rintro rfl; cases h1; rw [h4] at hx; cases hx
        have : thenQ P noG b (PostX E K r) e s = PostX E K r e s := by cases e <;> first | rfl | exact absurd rfl hne
        rw [this]; exact ⟨x, _, h1, h2.trans h6, by rw [← h4]; exact h5⟩
    | nd => exact plain _ _ h
    | sq A B => exact plain _ _ h
    | lp => exact plain _ _ h
    | lc => exact plain _ _ h
    | mk => exact plain _ _ h
    | al => exact plain _ _ h
    | am => exact plain _ _ h
    | fr => exact plain _ _ h
  | cond c a b iha ihb =>
    intro R an E st K r h
    simp only [exec] at h
    split at h
    · rename_i q hq
      refine Tr.cond q (by rw [evE_enc, hq]; rfl) (fun e => ?_) (fun e => ?_)
      · subst e; exact iha _ E st K r h
      · subst e; exact ihb _ E st K r h
    · cases h
  | block id c ih =>
    intro R an E st K r h
    simp only [exec] at h
    refine Tr.block ((ih an E st _ r h).mono ?_)
    rintro e s ⟨x, st', h1, h2, h3⟩
    replace h3 : (cond (Nat.beq x (id + 2)) (K 0 st') (K x st')) = some r := h3
    cases hx : Nat.beq x (id + 2) with
    | true =>
      rw [hx] at h3
      have hx' := Nat.eq_of_beq_eq_true hx
      subst hx'
      cases e with
      | exit id' =>
        simp only [exNum, Option.some.injEq] at h1
        have : id' = id := by omega
        subst this
        show if id' = id' then _ else _
        rw [if_pos rfl]; exact ⟨0, st', rfl, h2, h3⟩
      | _ => simp [exNum] at h1
    | false =>
      rw [hx] at h3
      cases e with
      | exit id' =>
        simp only [exNum, Option.some.injEq] at h1
        have : id' ≠ id := by rintro rfl; rw [← h1] at hx; simp at hx
        show if id' = id then _ else _
        rw [if_neg this]; exact ⟨x, st', by simp [exNum, h1], h2, h3⟩
      | _ => exact ⟨x, st', h1, h2, h3⟩
  | loop c ih =>
    intro R an E st K r h
    simp only [exec] at h
    generalize an.at E st = an at h
    cases an with
    | lp kt ko L hh ts hs A =>
      simp only at h
      split at h
      · rename_i l0 hl0
        split at h
        · rename_i y0 hy0
          obtain ⟨z, hz, h⟩ := bind_out h
          have c0 := Conv.conform hl0
          rw [encSt_in, ← toTup_of hh l0 y0 hy0] at c0
          refine Tr.conv c0 ?_
          refine Tr.loop (fun n s => ∃ y, Conv noG s (encSt (inE kt ko E st) (fillTpl L (ofTup hh y))) ∧ loopN (fun y => exec D rows Γ fuel c A (inE kt ko E st) (fillTpl L (ofTup hh y)) (leafL (inE kt ko E st) L hh ts hs)) n y = some z) fuel ⟨y0, Conv.refl _, hz⟩ ?_
          rintro n s ⟨y, hcv, hn⟩
          cases n with
          | zero => cases hn
          | succ n =>
            simp only [loopN] at hn
            obtain ⟨q, hq, hn⟩ := bind_out hn
            refine Tr.conv hcv ((ih A _ _ _ q hq).mono ?_)
            rintro e s' ⟨x, st', h1, h2, h3⟩
            unfold leafL at h3
            cases hx : Nat.beq x 0 with
            | true =>
              rw [hx] at h3
              simp only [cond_true] at h3
              have hx0 := Nat.eq_of_beq_eq_true hx
              subst hx0
              obtain rfl := exNum_normal h1
              split at h3
              · rename_i l1 hl1
                split at h3
                · rename_i y1 hy1
                  cases h3
                  refine ⟨n, Nat.lt_succ_self n, y1, h2.trans ?_, hn⟩
                  rw [toTup_of hh l1 y1 hy1]; exact Conv.conform hl1
                · cases h3
              · cases h3
            | false =>
              rw [hx] at h3
              simp only [cond_false] at h3
              split at h3
              · rename_i y1 hy1
                cases h3
                simp only [sel] at hn
                cases hn
                obtain ⟨k, l, h4, h5, h6⟩ := leafX_post hy1 _ h
                have hne : e ≠ .normal := by rintro rfl; cases h1; cases hx
                have : loopQ (fun n s => ∃ y, Conv noG s (encSt (inE kt ko E st) (fillTpl L (ofTup hh y))) ∧ loopN (fun y => exec D rows Γ fuel c A (inE kt ko E st) (fillTpl L (ofTup hh y)) (leafL (inE kt ko E st) L hh ts hs)) n y = some z) (n + 1) (PostX E K r) e s' = PostX E K r e s' := by
                  cases e <;> first | rfl | exact absurd rfl hne
                rw [this]
                exact ⟨x, _, h1, h2.trans h6, by rw [← h4]; exact h5⟩
              · cases h3
        · cases h
      · cases h
    | lc kt ko L hh ts hs A =>
      simp only at h
      split at h
      · rename_i l0 hl0
        split at h
        · rename_i y0 hy0
          have c0 := Conv.conform hl0
          rw [encSt_in, ← toTup_of hh l0 y0 hy0] at c0
          refine Tr.conv c0 ?_
          generalize hK : (fun x => elimAlt hs x fun i l => K (endAt ts i).1 (backSt kt ko st (fillTpl (endAt ts i).2 l))) = KK at h
          refine Tr.loop (fun n s => ∃ y, Conv noG s (encSt (inE kt ko E st) (fillTpl L (ofTup hh y))) ∧ loopC (fun y Kin Kout => exec D rows Γ fuel c A (inE kt ko E st) (fillTpl L (ofTup hh y)) (leafC (inE kt ko E st) L hh ts hs Kin Kout)) n y KK = some r) fuel ⟨y0, Conv.refl _, h⟩ ?_
          rintro n s ⟨y, hcv, hn⟩
          cases n with
          | zero => cases hn
          | succ n =>
            simp only [loopC] at hn
            refine Tr.conv hcv ((ih A _ _ _ r hn).mono ?_)
            rintro e s' ⟨x, st', h1, h2, h3⟩
            unfold leafC at h3
            cases hx : Nat.beq x 0 with
            | true =>
              rw [hx] at h3
              simp only [cond_true] at h3
              have hx0 := Nat.eq_of_beq_eq_true hx
              subst hx0
              obtain rfl := exNum_normal h1
              split at h3
              · rename_i l1 hl1
                split at h3
                · rename_i y1 hy1
                  refine ⟨n, Nat.lt_succ_self n, y1, h2.trans ?_, h3⟩
                  rw [toTup_of hh l1 y1 hy1]; exact Conv.conform hl1
                · cases h3
              · cases h3
            | false =>
              rw [hx] at h3
              simp only [cond_false] at h3
              split at h3
              · rename_i y1 hy1
                rw [← hK] at h3
                obtain ⟨k, l, h4, h5, h6⟩ := leafX_post hy1 _ h3
                have hne : e ≠ .normal := by rintro rfl; cases h1; cases hx
                have : loopQ (fun n s => ∃ y, Conv noG s (encSt (inE kt ko E st) (fillTpl L (ofTup hh y))) ∧ loopC (fun y Kin Kout => exec D rows Γ fuel c A (inE kt ko E st) (fillTpl L (ofTup hh y)) (leafC (inE kt ko E st) L hh ts hs Kin Kout)) n y KK = some r) (n + 1) (PostX E K r) e s' = PostX E K r e s' := by
                  cases e <;> first | rfl | exact absurd rfl hne
                rw [this]
                exact ⟨x, _, h1, h2.trans h6, by rw [← h4]; exact h5⟩
              · cases h3
        · cases h
      · cases h
    | nd => cases h
    | sq A B => cases h
    | jn => cases h
    | mk => cases h
    | al => cases h
    | am => cases h
    | fr => cases h
  | _ => intro R an E st K r h; simp [exec] at h
end Go.Proofs.YtobfoiomjfdjjaaDoor.Mc

/- THE MACHINE (59): from a function's run, typed, to its contract. -/
namespace Go.Proofs.YtobfoiomjfdjjaaDoor.Mc
open Go.RowKit
variable [Mo]
set_option linter.constructorNameAsVariable false
variable {P : Program} {D : Dec}

theorem Tr.post {G : Glob} {c : Code} {st : St} {Q Q2 : Exit → St → Prop} (h : Tr P G c st Q) (hq : ∀ e s, Q e s → ∃ s2, Conv G s s2 ∧ Q2 e s2) : Tr P G c st Q2 := by
  intro B F loc a w hR hd
  refine wp_mono (h B F loc a w hR hd) ?_
  rintro e a' w' ⟨h1, F', loc', st', h2, h3⟩
  obtain ⟨s2, hc, hq2⟩ := hq e st' h3
  obtain ⟨F2, loc2, hR2⟩ := hc B F' loc' a'.tmps w' h2
  exact ⟨h1, F2, loc2, s2, hR2, hq2⟩

def resX1 (D : Dec) (E : XE) (st : XSt) : ResultVar → Option X
  | .tmp t => some (lkE E st t)
  | .cell a t => match xload D (gE E st) t (lkE E st a) with | .ok v _ => some v | _ => none
def resXs (D : Dec) (E : XE) (st : XSt) : List ResultVar → Option (List X)
  | [] => some []
  | r :: rs => match resX1 D E st r, resXs D E st rs with
    | some x, some xs => some (x :: xs)
    | _, _ => none
def oneX : List X → X
  | [x] => x
  | xs => .tp xs
def resX (D : Dec) (E : XE) (st : XSt) (rs : List ResultVar) : Option X := match resXs D E st rs with | some xs => some (oneX xs) | none => none
omit [Mo] in
theorem resX1_spec {E : XE} {st : XSt} {r : ResultVar} {x : X} (h : resX1 D E st r = some x) : oneRes D (encSt E st) r = some x.enc := by
  cases r with
  | tmp t => simp only [resX1] at h; cases h; show some ((encSt E st).t t) = _; rw [lkE_enc]
  | cell a t =>
    simp only [resX1] at h
    have law := xload_spec (D := D) (agreeE E st) (e := fun o => match o with | .tmp i => (encSt E st).t i | _ => .dead) (t := t) (op := .tmp a) (p := lkE E st a) (lkE_enc E st a)
    split at h
    · rename_i v u hx
      cases h
      rw [hx] at law
      exact law.2
    · cases h
omit [Mo] in
theorem resXs_spec {E : XE} {st : XSt} : ∀ {rs : List ResultVar} {xs : List X}, resXs D E st rs = some xs → manyRes D (encSt E st) rs = some (xs.map X.enc)
  | [], xs, h => by cases h; rfl
  | r :: rs, xs, h => by
    simp only [resXs] at h
    split at h
    · rename_i x xs' h1 h2
      cases h
      simp only [manyRes, resX1_spec h1, resXs_spec h2, List.map_cons]
    · cases h
omit [Mo] in
theorem resX_spec {E : XE} {st : XSt} {rs : List ResultVar} {x : X} (h : resX D E st rs = some x) : resV D (encSt E st) rs = some x.enc := by
  unfold resX at h
  split at h
  · rename_i xs hxs
    cases h
    unfold resV
    rw [resXs_spec hxs]
    cases xs with
    | nil => rfl
    | cons x xs =>
      cases xs with
      | nil => rfl
      | cons y ys => simp [oneX, X.enc, encL_map]
  · cases h

/-- where a call begins -/
def argT : Nat → List X → XT
  | _, [] => []
  | i, x :: xs => (i, x) :: argT (i + 1) xs
def fnE (fn : Func) (A : CTpl) (kp : List Nat) (q : List X × XS) : XE := ⟨[], keptOf kp q.2, q.1.length + (fn.ntmps - q.1.length), A.o.map (·.1)⟩
def fnSt (kp : List Nat) (q : List X × XS) : XSt := ⟨argT 0 q.1, dropL kp q.2⟩
/-- how it ends: the first of the results that fits -/
def leafR (D : Dec) (E : XE) (rs : List ResultVar) (hs : List (List HTy)) (R : List RTpl) (e : Nat) (st : XSt) : Option (AltT hs) :=
  cond (Nat.ble e 1) (match resX D E st rs with
    | some x => leafX ⟨[], E.s, 1, E.a⟩ hs 0 (R.map fun r => (0, ⟨[(0, r.v)], r.o⟩)) 0 ⟨[(0, x)], st.s⟩
    | none => none) none

omit [Mo] in
theorem lk_argT : ∀ (xs : List X) (i n : Nat), lk (argT i xs) n = if i ≤ n then xs[n - i]? else none
  | [], i, n => by simp [argT, lk]
  | x :: xs, i, n => by
    simp only [argT, lk]
    cases hb : Nat.beq i n with
    | true => have := Nat.eq_of_beq_eq_true hb; subst this; simp
    | false =>
      have hne : i ≠ n := by rintro rfl; simp at hb
      rw [cond_false, lk_argT xs (i + 1) n]
      by_cases h : i ≤ n
      · rw [if_pos (by omega), if_pos h]
        have : n - i = (n - (i + 1)) + 1 := by omega
        rw [this, List.getElem?_cons_succ]
      · rw [if_neg (by omega), if_neg h]

def altOf (hs : List (List HTy)) (y : AltT hs) : Nat × List HV := elimAlt hs y fun i l => (i, l)
omit [Mo] in
theorem elim_altOf {β : Type} : ∀ (hs : List (List HTy)) (y : AltT hs) (f : Nat → List HV → β), elimAlt hs y f = f (altOf hs y).1 (altOf hs y).2
  | [], y, _ => y.elim
  | [_], _, _ => rfl
  | _ :: _ :: _, .inl _, _ => rfl
  | _ :: g :: t, .inr z, f => by
    have h1 := elim_altOf (g :: t) z fun i l => f (i + 1) l
    have h2 := elim_altOf (g :: t) z fun i l => (i + 1, l)
    show elimAlt (g :: t) z (fun i l => f (i + 1) l) = f (elimAlt (g :: t) z fun i l => (i + 1, l)).1 (elimAlt (g :: t) z fun i l => (i + 1, l)).2
    rw [h1, h2]

theorem con_ok (hg : Good P D) (hm : P.follows .mixedOrders = true) {f : FuncId} {fn : Func} {c : Code} (hfn : P.funcs[f]? = some fn) (hb : fn.body = some c) {rows : Nat → Option Row} {Γ : List (Con P)} {fuel : Nat} {A : CTpl} {h : List HTy} {kp : List Nat} {R : List RTpl} (an : An) (y : Tup h) {r : AltT (R.map (·.h))}
    (he : exec D rows Γ fuel c an (fnE fn A kp (inOf A (ofTup h y))) (fnSt kp (inOf A (ofTup h y))) (leafR D (fnE fn A kp (inOf A (ofTup h y))) fn.results.toList (R.map (·.h)) R) = some r) :
    elimAlt (R.map (·.h)) r fun i l => CTx P f (inOf A (ofTup h y)).1 (inOf A (ofTup h y)).2 (outOf (rAt R i) l).1 ((outOf (rAt R i) l).2 ++ keptOf kp (inOf A (ofTup h y)).2) := by
  generalize hq : inOf A (ofTup h y) = q at he ⊢
  have hkeys : q.2.map (·.1) = A.o.map (·.1) := by
    rw [← hq]; unfold inOf; exact fillS_keys _ _
  rw [elim_altOf]
  generalize hk : altOf _ r = kl
  obtain ⟨i, l⟩ := kl
  have tr := exec_sound hg hm (rows := rows) (Γ := Γ) (fuel := fuel) c an _ _ _ r he
  -- the walk's start
  have start : Conv noG (st0 (q.1.map X.enc) (encS q.2) fn.ntmps (A.o.map (·.1))) (encSt (fnE fn A kp q) (fnSt kp q)) := by
    intro B F loc tmps w hR
    refine ⟨F, loc, ⟨?_, fun j => ?_, ?_, hR.a⟩⟩
    · have h1 : RelS noG B w F loc (encS q.2) := hR.s
      have h2 : encS (dropL kp q.2 ++ keptOf kp q.2) = encS q.2 := encS_ext fun n => by
        rw [lk_append, lk_dropL, lk_keptOf]
        by_cases hn : n ∈ kp
        · simp [hn]
        · simp only [if_neg hn]; cases lk q.2 n <;> rfl
      show RelS noG B w F loc (encS (dropL kp q.2 ++ keptOf kp q.2))
      rw [h2]; exact h1
    · have h1 := hR.t j
      show RelV w F loc (encT (argT 0 q.1 ++ []) j) _
      rw [List.append_nil, encT_lk, lk_argT, if_pos (Nat.zero_le _), Nat.sub_zero]
      have h2 : RelV w F loc (((q.1.map X.enc)[j]?).getD vU) (tmps.getD j undef) := h1
      rw [List.getElem?_map] at h2
      cases hx : q.1[j]? with
      | none => exact .dead _
      | some x => rw [hx] at h2; exact h2
    · have := hR.n
      show tmps.size = _
      rw [this]; simp [st0, fnE]; rfl
  have han : ∀ n x, encS q.2 n = some x → n ∈ A.o.map (·.1) := by
    intro n x hx
    rw [← hkeys]
    unfold encS at hx
    cases hl : lk q.2 n with
    | none => rw [hl] at hx; cases hx
    | some z => exact List.mem_map.2 ⟨_, lk_mem hl, rfl⟩
  have ct := CT.of_tr hg hfn hb (vs := q.1.map X.enc) (s := encS q.2) (an := A.o.map (·.1)) (Q := fun r' s' => ∃ st', ∃ x, r' = x.enc ∧ s' = (encSt (fnE fn A kp q) st').s ∧ leafX ⟨[], (fnE fn A kp q).s, 1, (fnE fn A kp q).a⟩ (R.map (·.h)) 0 (R.map fun r => (0, ⟨[(0, r.v)], r.o⟩)) 0 ⟨[(0, x)], st'.s⟩ = some r) han
    (Tr.conv start (tr.post fun e s hp => by
      obtain ⟨x, st', h1, h2, h3⟩ := hp
      refine ⟨_, h2, ?_⟩
      unfold leafR at h3
      cases hx : Nat.ble x 1 with
      | false => rw [hx] at h3; cases h3
      | true =>
        rw [hx] at h3
        simp only [cond_true] at h3
        split at h3
        · rename_i z hz
          have := resX_spec hz
          have hx1 := Nat.le_of_ble_eq_true hx
          cases e with
          | normal => exact ⟨_, this, st', z, rfl, rfl, h3⟩
          | ret => exact ⟨_, this, st', z, rfl, rfl, h3⟩
          | exit id => simp only [exNum, Option.some.injEq] at h1; omega
          | _ => simp [exNum] at h1
        · cases h3))
  intro F loc w args hn hS hA
  refine (ct F loc w args hn hS hA).mono ?_
  rintro e w' ⟨v, F', loc', r', s', rfl, hS', hv, st', x, rfl, rfl, hleaf⟩
  obtain ⟨k, l', h4, h5, h6⟩ := leafX_out (ts0 := R.map fun r => (0, ⟨[(0, r.v)], r.o⟩)) _ 0 (fun j => by simp) hleaf
  have hkl : (k, l') = (i, l) := by rw [← hk]; exact (elim_mk _ k l' r (fun i l => (i, l)) h6).symm
  cases hkl
  have hend : endAt (R.map fun r => (0, ⟨[(0, r.v)], r.o⟩)) i = (0, ⟨[(0, (rAt R i).v)], (rAt R i).o⟩) ∨ endAt (R.map fun r => (0, ⟨[(0, r.v)], r.o⟩)) i = (0, ⟨[], []⟩) := by
    unfold endAt rAt
    rw [List.getElem?_map]
    cases R[i]? with
    | none => exact .inr rfl
    | some z => exact .inl rfl
  have hmk : (R.map (·.h))[i]? ≠ none := by
    have : ∀ (hs : List (List HTy)) (i : Nat) (l : List HV) (y : AltT hs), mkAlt hs i l = some y → hs[i]? ≠ none := by
      intro hs
      induction hs with
      | nil => intro i l y; exact y.elim
      | cons a t ih =>
        intro i l y h
        cases i with
        | zero => simp
        | succ i =>
          cases t with
          | nil => simp [mkAlt] at h
          | cons b t =>
            simp only [mkAlt] at h
            split at h
            · rename_i z hz; simpa using ih i l z hz
            · cases h
    exact this _ _ _ _ h6
  have hri : R[i]? ≠ none := by rw [List.getElem?_map] at hmk; intro h; rw [h] at hmk; exact hmk rfl
  have hend : endAt (R.map fun r => (0, (⟨[(0, r.v)], r.o⟩ : Tpl))) i = (0, ⟨[(0, (rAt R i).v)], (rAt R i).o⟩) := by
    unfold endAt rAt
    rw [List.getElem?_map]
    cases hz : R[i]? with
    | none => exact absurd hz hri
    | some z => rfl
  rw [hend] at h5
  have cv := Conv.conform h5
  have hR : Rel noG (baseOf loc w F hn) F' loc' (encSt ⟨[], (fnE fn A kp q).s, 1, (fnE fn A kp q).a⟩ ⟨[(0, x)], st'.s⟩) #[v] w' := by
    refine ⟨hS', fun j => ?_, rfl, fun o l hl => ?_⟩
    · show RelV w' F' loc' (encT [(0, x)] j) _
      cases j with
      | zero => exact hv
      | succ j => exact .dead _
    · obtain ⟨obj, hobj⟩ := hS.dom o l hl
      exact han o obj hobj
  obtain ⟨F2, loc2, hR2⟩ := cv _ _ _ _ _ hR
  refine ⟨v, F2, loc2, _, _, rfl, hR2.s, hR2.t 0, ?_, ?_⟩
  · show encT ((fillTpl ⟨[(0, (rAt R i).v)], (rAt R i).o⟩ l).t ++ []) 0 = (fillSh (rAt R i).v l).1.enc
    simp [fillTpl, fillT, encT, lk]
  · show encS ((fillTpl ⟨[(0, (rAt R i).v)], (rAt R i).o⟩ l).s ++ keptOf kp q.2) = encS ((fillS (rAt R i).o (fillSh (rAt R i).v l).2).1 ++ keptOf kp q.2)
    simp [fillTpl, fillT]
end Go.Proofs.YtobfoiomjfdjjaaDoor.Mc

/- THE MACHINE (60): what is handed in, as typed values; from a contract to the row's call. -/
namespace Go.Proofs.YtobfoiomjfdjjaaDoor.Mc
open Go.RowKit
variable [Mo]
variable {P : Program} {W : World} {H : Type} {enc : TypeId × Value → H} {base : Nat} {sp : Nat → Bool} {held : Bool}

omit [Mo] in
theorem cond_ok {α : Type} {c : Bool} {a : Option α} {b : α} (h : cond c a none = some b) : c = true ∧ a = some b := by
  cases c
  · cases h
  · exact ⟨rfl, h⟩

/-! rows in a row -/
def Row.cat : Row → Row → Row
  | .nil, s => s
  | .int k r, s => .int k (r.cat s)
  | .bool r, s => .bool (r.cat s)
  | .str r, s => .str (r.cat s)
  | .sl e r, s => .sl e (r.cat s)
def catD : (r s : Row) → r.den → s.den → (r.cat s).den
  | .nil, _, _, y => y
  | .int _ r, s, x, y => prM (r.cat s) (prF r x) (catD r s (prS r x) y)
  | .bool r, s, x, y => prM (r.cat s) (prF r x) (catD r s (prS r x) y)
  | .str r, s, x, y => prM (r.cat s) (prF r x) (catD r s (prS r x) y)
  | .sl _ r, s, x, y => prM (r.cat s) (prF r x) (catD r s (prS r x) y)
omit [Mo] in
theorem en_cat : ∀ (r s : Row) (x : r.den) (y : s.den), (r.cat s).en (catD r s x y) = r.en x ++ s.en y
  | .nil, _, _, _ => rfl
  | .int _ r, s, x, y => by simp only [Row.cat, catD, Row.en, prF_mk, prS_mk, en_cat r s, List.cons_append]
  | .bool r, s, x, y => by simp only [Row.cat, catD, Row.en, prF_mk, prS_mk, en_cat r s, List.cons_append]
  | .str r, s, x, y => by simp only [Row.cat, catD, Row.en, prF_mk, prS_mk, en_cat r s, List.cons_append]
  | .sl _ r, s, x, y => by simp only [Row.cat, catD, Row.en, prF_mk, prS_mk, en_cat r s, List.cons_append]

/-- what is known of data that was handed in -/
def Row.gd : (r : Row) → r.den → Prop
  | .nil, _ => True
  | .int k r, x => (Lit.int k (prF r x)).wf = true ∧ r.gd (prS r x)
  | .bool r, x => r.gd (prS r x)
  | .str r, x => (prF r x).size ≤ maxLen ∧ r.gd (prS r x)
  | .sl e r, x => ((prF r x).length ≤ maxLen ∧ ∀ z ∈ prF r x, e.gd z) ∧ r.gd (prS r x)
/-- how much it holds -/
def Row.blk : (r : Row) → r.den → Nat
  | .nil, _ => 0
  | .int _ r, x => r.blk (prS r x)
  | .bool r, x => r.blk (prS r x)
  | .str r, x => (prF r x).size + r.blk (prS r x)
  | .sl e r, x => ((prF r x).map fun z => e.blk z + 1).sum + r.blk (prS r x)
omit [Mo] in
theorem blk_cat : ∀ (r s : Row) (x : r.den) (y : s.den), (r.cat s).blk (catD r s x y) = r.blk x + s.blk y
  | .nil, _, _, _ => by simp only [Row.cat, catD, Row.blk, Nat.zero_add]
  | .int _ r, s, x, y => by simp only [Row.cat, catD, Row.blk, prS_mk, blk_cat r s]
  | .bool r, s, x, y => by simp only [Row.cat, catD, Row.blk, prS_mk, blk_cat r s]
  | .str r, s, x, y => by simp only [Row.cat, catD, Row.blk, prS_mk, prF_mk, blk_cat r s, Nat.add_assoc]
  | .sl e r, s, x, y => by simp only [Row.cat, catD, Row.blk, prS_mk, prF_mk, blk_cat r s, Nat.add_assoc]
omit [Mo] in
theorem blk_sum {α : Type} (f : α → Nat) : ∀ (xs : List α) (ns : List Nat), ns.length = xs.length → (∀ i (h : i < xs.length), f xs[i] + 1 ≤ ns.getD i 0) → (xs.map fun z => f z + 1).sum ≤ ns.sum
  | [], ns, _, _ => by simp
  | x :: xs, n :: ns, hl, h => by
    have h0 := h 0 (by simp)
    have := blk_sum f xs ns (by simpa using hl) (fun i hi => by have := h (i + 1) (by simpa using hi); simpa using this)
    simp only [List.getElem_cons_zero, List.getD_cons_zero] at h0
    simp only [List.map_cons, List.sum_cons]
    omega
  | _ :: _, [], hl, _ => by simp at hl
omit [Mo] in
theorem sum_drop : ∀ (ns : List Nat) (i : Nat), i < ns.length → (ns.drop i).sum = ns.getD i 0 + (ns.drop (i + 1)).sum
  | [], _, h => by simp at h
  | n :: ns, 0, _ => by simp
  | n :: ns, i + 1, h => by
    have := sum_drop ns i (by simpa using h)
    simpa using this
omit [Mo] in
theorem gd_cat : ∀ (r s : Row) (x : r.den) (y : s.den), r.gd x → s.gd y → (r.cat s).gd (catD r s x y)
  | .nil, _, _, _, _, k => k
  | .int _ r, s, x, y, h, k => by simp only [Row.cat, catD, Row.gd, prF_mk, prS_mk]; exact ⟨h.1, gd_cat r s _ _ h.2 k⟩
  | .bool r, s, x, y, h, k => by simp only [Row.cat, catD, Row.gd, prS_mk]; exact gd_cat r s _ _ h k
  | .str r, s, x, y, h, k => by simp only [Row.cat, catD, Row.gd, prF_mk, prS_mk]; exact ⟨h.1, gd_cat r s _ _ h.2 k⟩
  | .sl _ r, s, x, y, h, k => by simp only [Row.cat, catD, Row.gd, prF_mk, prS_mk]; exact ⟨h.1, gd_cat r s _ _ h.2 k⟩

/-- a type's cells as a row -/
def rowFs (P : Program) (f : TypeId → Option Row) (n : Nat) : Nat → List Field → Option Row
  | off, [] => cond (Nat.beq off n) (some .nil) none
  | off, fl :: fs => cond (Nat.beq fl.offset off) (match f fl.type, rowFs P f n (off + P.cellsOf fl.type) fs with
    | some r, some s => cond (Nat.beq r.len (P.cellsOf fl.type)) (some (r.cat s)) none
    | _, _ => none) none
def rowT (P : Program) : Nat → TypeId → Option Row
  | 0, _ => none
  | n + 1, t => match P.underlying t with
    | some (.int k) => some (.int k .nil)
    | some .bool => some (.bool .nil)
    | some .string => some (.str .nil)
    | some (.slice e) => cond (Nat.blt 0 (P.cellsOf e)) (match rowT P n e with | some r => some (.sl r .nil) | none => none) none
    | some (.struct fs) => rowFs P (rowT P n) (P.cellsOf t) 0 fs.toList
    | _ => none

instance rowInh : (r : Row) → Inhabited r.den := fun r => ⟨r.zero⟩
omit [Mo] in
theorem rowFs_opens {f : TypeId → Option Row} {n : Nat} {cs : List Value} (hl : cs.length = n) {fs : Array Field} {ns : List Nat} (hns : ns.length = fs.size)
    (hf : ∀ (i : Nat) (fl : Field) (r : Row), fs[i]? = some fl → f fl.type = some r → ∃ a : r.den, RelCells W ((cs.drop fl.offset).take (P.cellsOf fl.type)) (r.en a) ∧ r.gd a ∧ r.blk a + 1 ≤ ns.getD i 0) :
    ∀ (l : List Field) (i off : Nat) (r : Row), (∀ j fl, l[j]? = some fl → fs[i + j]? = some fl) → rowFs P f n off l = some r → ∃ a : r.den, RelCells W ((cs.drop off).take (n - off)) (r.en a) ∧ r.gd a ∧ off ≤ n ∧ r.blk a ≤ (ns.drop i).sum
  | [], i, off, r, _, h => by
    unfold rowFs at h
    obtain ⟨h1, h2⟩ := cond_some h
    cases h2
    have := Nat.eq_of_beq_eq_true h1
    subst this
    exact ⟨(), by rw [Nat.sub_self, List.take_zero]; exact ⟨rfl, fun j y hj => by simp [Row.en] at hj⟩, trivial, Nat.le_refl _, Nat.zero_le _⟩
  | fl :: l, i, off, r, hi, h => by
    unfold rowFs at h
    obtain ⟨h1, h2⟩ := cond_ok h
    have ho := Nat.eq_of_beq_eq_true h1
    split at h2
    · rename_i r1 s1 hr hs
      obtain ⟨h3, h4⟩ := cond_some h2
      cases h4
      have hlen := Nat.eq_of_beq_eq_true h3
      obtain ⟨a, ha, ga, ka⟩ := hf i fl r1 (hi 0 fl rfl) hr
      obtain ⟨b, hb, gb, hle, kb⟩ := rowFs_opens hl hns hf l (i + 1) _ s1 (fun j fl' hj => by have := hi (j + 1) fl' (by simpa using hj); rwa [Nat.add_assoc, Nat.add_comm 1]) hs
      have hi' : i < ns.length := by rw [hns]; exact (Array.getElem?_eq_some_iff.1 (hi 0 fl rfl)).1
      refine ⟨catD r1 s1 a b, ?_, gd_cat _ _ _ _ ga gb, by omega, by rw [blk_cat, sum_drop ns i hi']; omega⟩
      rw [en_cat]
      rw [ho] at ha
      have := RelCells.cat ha hb (by rw [Row.en_len, hlen])
      rwa [show P.cellsOf fl.type + (n - (off + P.cellsOf fl.type)) = n - off by omega] at this
    · cases h2
omit [Mo] in
theorem opens_rowT : ∀ (n : Nat) (t : TypeId) (r : Row), rowT P n t = some r → Opens P W enc base sp held t r.en (fun a m => r.gd a ∧ r.blk a + 1 ≤ m)
  | 0, _, _, h => by cases h
  | n + 1, t, r, h => by
    unfold rowT at h
    split at h
    · rename_i k hu
      cases h
      intro fuel cs x hx
      obtain ⟨m, hc, hw⟩ := opens_int hu fuel cs x hx
      exact ⟨m, hc, ⟨hw, trivial⟩, bulk_pos _⟩
    · rename_i hu
      cases h
      intro fuel cs x hx
      obtain ⟨m, hc, hw⟩ := opens_bool hu fuel cs x hx
      exact ⟨m, hc, trivial, bulk_pos _⟩
    · rename_i hu
      cases h
      intro fuel cs x hx
      obtain ⟨m, hc, hw, hk⟩ := opens_string hu fuel cs x hx
      exact ⟨m, hc, ⟨hw, trivial⟩, hk⟩
    · rename_i e hu
      obtain ⟨h1, h2⟩ := cond_ok h
      split at h2
      · rename_i q hq
        cases h2
        have hp : 0 < P.cellsOf e := by simpa [Nat.blt_eq] using h1
        intro fuel cs x hx
        obtain ⟨m, hc, hw, ns, h1, h2, h3⟩ := opens_slice hu hp (opens_rowT n e q hq) fuel cs x hx
        exact ⟨m, hc, ⟨⟨hw, fun z hz => by obtain ⟨i, hi, rfl⟩ := List.getElem_of_mem hz; exact (h3 i hi).1⟩, trivial⟩, Nat.le_trans (Nat.succ_le_succ (blk_sum q.blk m ns h1 fun i hi => (h3 i hi).2)) h2⟩
      · cases h2
    · rename_i fs hu
      intro fuel cs x hx
      obtain ⟨hl, ns, h1, h2, hf⟩ := opens_field hu hx
      obtain ⟨a, ha, ga, _, ka⟩ := rowFs_opens hl h1 (fun i fl q hi hq => hf i fl hi (opens_rowT n fl.type q hq)) fs.toList 0 0 r (fun j fl hj => by simpa using hj) h
      rw [Nat.sub_zero] at ha
      exact ⟨a, ha.whole hl, ga, by rw [List.drop_zero] at ka; omega⟩
    · cases h

/-! holes, with what is known of them -/
inductive Gd where | int (k : IntKind) | bool | str | sl (r : Row)
def Gd.ty : Gd → HTy | .int _ => .ti | .bool => .tb | .str => .ts | .sl r => .tl r
def Gd.ok : (g : Gd) → g.ty.den → Prop
  | .int k, n => (Lit.int k n).wf = true
  | .bool, _ => True
  | .str, (s : ByteArray) => s.size ≤ maxLen
  | .sl r, (xs : List r.den) => xs.length ≤ maxLen ∧ ∀ z ∈ xs, r.gd z
def Gd.blk : (g : Gd) → g.ty.den → Nat
  | .int _, _ => 0
  | .bool, _ => 0
  | .str, (s : ByteArray) => s.size
  | .sl r, (xs : List r.den) => (xs.map fun z => r.blk z + 1).sum
def blkT : (gs : List Gd) → Tup (gs.map Gd.ty) → Nat
  | [], _ => 0
  | [g], x => g.blk x
  | g :: g' :: gs, x => g.blk x.1 + blkT (g' :: gs) x.2
def gdT : (gs : List Gd) → Tup (gs.map Gd.ty) → Prop
  | [], _ => True
  | [g], x => g.ok x
  | g :: g' :: gs, x => g.ok x.1 ∧ gdT (g' :: gs) x.2
def rowGs : Row → List Gd
  | .nil => []
  | .int k r => .int k :: rowGs r
  | .bool r => .bool :: rowGs r
  | .str r => .str :: rowGs r
  | .sl e r => .sl e :: rowGs r
def rowSh : Row → List Sh
  | .nil => []
  | .int k r => .i k :: rowSh r
  | .bool r => .b :: rowSh r
  | .str r => .s :: rowSh r
  | .sl e r => .fz .u e :: rowSh r
def rowHV : (r : Row) → r.den → List HV
  | .nil, _ => []
  | .int _ r, x => ⟨.ti, prF r x⟩ :: rowHV r (prS r x)
  | .bool r, x => ⟨.tb, prF r x⟩ :: rowHV r (prS r x)
  | .str r, x => ⟨.ts, prF r x⟩ :: rowHV r (prS r x)
  | .sl e r, x => ⟨.tl e, prF r x⟩ :: rowHV r (prS r x)
omit [Mo] in
theorem fill_row : ∀ (r : Row) (x : r.den) (l : List HV), fillL (rowSh r) (rowHV r x ++ l) = (r.cells x, l)
  | .nil, _, _ => rfl
  | .int _ r, x, l => by simp only [rowSh, rowHV, List.cons_append, fillL, fillSh, fill_row r, Row.cells]; rfl
  | .bool r, x, l => by simp only [rowSh, rowHV, List.cons_append, fillL, fillSh, fill_row r, Row.cells]; rfl
  | .str r, x, l => by simp only [rowSh, rowHV, List.cons_append, fillL, fillSh, fill_row r, Row.cells]; rfl
  | .sl _ r, x, l => by simp only [rowSh, rowHV, List.cons_append, fillL, fillSh, fill_row r, Row.cells]; rfl

/-- holes that are as they should be -/
inductive HvOk : List Gd → List HV → Nat → Prop where
  | nil : HvOk [] [] 0
  | cons (g : Gd) (v : g.ty.den) (gs : List Gd) (l : List HV) (m : Nat) (h : g.ok v) (hs : HvOk gs l m) : HvOk (g :: gs) (⟨g.ty, v⟩ :: l) (g.blk v + m)
omit [Mo] in
theorem HvOk.append : ∀ {gs gs' : List Gd} {l l' : List HV} {m m' : Nat}, HvOk gs l m → HvOk gs' l' m' → HvOk (gs ++ gs') (l ++ l') (m + m')
  | _, _, _, _, _, m', .nil, k => by rw [Nat.zero_add]; exact k
  | _, _, _, _, _, m', .cons g v gs l m h hs, k => by rw [Nat.add_assoc]; exact .cons g v _ _ _ h (hs.append k)
omit [Mo] in
theorem hvOk_row : ∀ (r : Row) (x : r.den), r.gd x → HvOk (rowGs r) (rowHV r x) (r.blk x)
  | .nil, _, _ => .nil
  | .int k r, x, h => by have := HvOk.cons (.int k) (prF r x) _ _ _ h.1 (hvOk_row r _ h.2); simp only [Gd.blk, Nat.zero_add] at this; exact this
  | .bool r, x, h => by have := HvOk.cons .bool (prF r x) _ _ _ trivial (hvOk_row r _ h); simp only [Gd.blk, Nat.zero_add] at this; exact this
  | .str r, x, h => .cons .str _ _ _ _ h.1 (hvOk_row r _ h.2)
  | .sl e r, x, h => .cons (.sl e) _ _ _ _ h.1 (hvOk_row r _ h.2)
omit [Mo] in
theorem HvOk.tup : ∀ {gs : List Gd} {l : List HV} {m : Nat}, HvOk gs l m → ∃ y : Tup (gs.map Gd.ty), ofTup (gs.map Gd.ty) y = l ∧ gdT gs y ∧ blkT gs y = m
  | _, _, _, .nil => ⟨(), rfl, trivial, rfl⟩
  | _, _, _, .cons g v _ _ _ h .nil => ⟨v, rfl, h, rfl⟩
  | _, _, _, .cons g v _ _ _ h (.cons g' v' gs l m h' hs) => by
    obtain ⟨y, hy, gy, ky⟩ := (HvOk.cons g' v' gs l m h' hs).tup
    exact ⟨(v, y), by rw [← hy]; rfl, ⟨h, gy⟩, by rw [← ky]; rfl⟩

/-- an argument's shape and holes -/
def argSh (P : Program) (n : Nat) (t : TypeId) : Option (Sh × List Gd) :=
  match P.underlying t with
  | some (.int k) => some (.i k, [.int k])
  | some .bool => some (.b, [.bool])
  | some .string => some (.s, [.str])
  | some (.slice e) => cond (Nat.blt 0 (P.cellsOf e)) (match rowT P n e with | some r => some (.fz .u r, [.sl r]) | none => none) none
  | some (.struct _) => match rowT P n t with | some r => some (.ag (rowSh r), rowGs r) | none => none
  | _ => none
omit [Mo] in
theorem arg_one {v : Value} {y : T} (hv : v.cells = #[v]) (h : RelCells W v.cells.toList [y]) : RelV W (oldF W) noLoc (.t y) v := by
  obtain ⟨u, hu, _, hrel⟩ := h.2 0 _ rfl
  rw [hv] at hu
  cases hu
  exact .t _ _ hrel
def plainD : TypeDesc → Bool
  | .int _ => true
  | .bool => true
  | .string => true
  | .slice _ => true
  | _ => false
omit [Mo] in
theorem cells1 {r : Reach} {b0 : Nat} {t : TypeId} {v : Value} {d : TypeDesc} (hval : Value.okWide P W r b0 t v) (hu : P.underlying t = some d) (hd : plainD d = true) : v.cells = #[v] := by
  unfold Value.okWide at hval
  rw [hu] at hval
  cases d <;> first
    | (cases hd; done)
    | (cases v with
      | agg cs => exfalso; simp [Cell.okWide, Cell.ok, hu] at hval
      | _ => rfl)
omit [Mo] in
theorem argSh_opens {n : Nat} {t : TypeId} {s : Sh} {gs : List Gd} (h : argSh P n t = some (s, gs)) {r : Reach} {b0 : Nat} {v : Value} {d : DataW H} {ps : List MemPlace} (hval : Value.okWide P W r b0 t v) (hd : DataW.Trod enc P W base sp held t v d ps) :
    ∃ l m, HvOk gs l m ∧ m + 1 ≤ bulkD d ∧ ∃ x, (∀ l', fillSh s (l ++ l') = (x, l')) ∧ RelV W (oldF W) noLoc x.enc v := by
  have hd' := hd
  obtain ⟨fuel, hf⟩ := hd
  unfold argSh at h
  split at h
  · rename_i k hu
    cases h
    obtain ⟨m, hc, hw⟩ := opens_int hu fuel _ _ hf
    exact ⟨[⟨.ti, m⟩], _, .cons (.int k) m _ _ _ hw .nil, bulk_pos _, .i k m, fun _ => rfl, arg_one (cells1 hval hu rfl) hc⟩
  · rename_i hu
    cases h
    obtain ⟨m, hc, hw⟩ := opens_bool hu fuel _ _ hf
    exact ⟨[⟨.tb, m⟩], _, .cons .bool m _ _ _ trivial .nil, bulk_pos _, .b m, fun _ => rfl, arg_one (cells1 hval hu rfl) hc⟩
  · rename_i hu
    cases h
    obtain ⟨m, hc, hw, hk⟩ := opens_string hu fuel _ _ hf
    exact ⟨[⟨.ts, m⟩], _, .cons .str m _ _ _ hw .nil, hk, .s m, fun _ => rfl, arg_one (cells1 hval hu rfl) hc⟩
  · rename_i e hu
    obtain ⟨h1, h2⟩ := cond_ok h
    split at h2
    · rename_i q hq
      cases h2
      have hp : 0 < P.cellsOf e := by simpa [Nat.blt_eq] using h1
      obtain ⟨m, hc, hw, ns, k1, k2, k3⟩ := opens_slice hu hp (opens_rowT n e q hq) fuel _ _ hf
      exact ⟨[⟨.tl q, m⟩], _, .cons (.sl q) m _ _ _ ⟨hw, fun z hz => by obtain ⟨i, hi, rfl⟩ := List.getElem_of_mem hz; exact (k3 i hi).1⟩ .nil, Nat.le_trans (Nat.succ_le_succ (blk_sum q.blk m ns k1 fun i hi => (k3 i hi).2)) k2, .fz .u q m, fun _ => rfl, arg_one (cells1 hval hu rfl) hc⟩
    · cases h2
  · rename_i fs hu
    split at h
    · rename_i q hq
      cases h
      obtain ⟨a, ha, ga, ka⟩ := arg_row hu hval (opens_rowT n t q hq) hd'
      refine ⟨rowHV q a, _, hvOk_row q a ga, ka, .ag (q.cells a), fun l' => by simp only [fillSh, fill_row], ?_⟩
      rw [X.enc, encL_map, Row.cells_enc]
      exact ha
    · cases h
  · cases h

/-- all arguments -/
def argsSh (P : Program) (n : Nat) : List TypeId → Option (List Sh × List Gd)
  | [] => some ([], [])
  | t :: ts => match argSh P n t, argsSh P n ts with
    | some (s, g), some (ss, gs) => some (s :: ss, g ++ gs)
    | _, _ => none
omit [Mo] in
theorem args_opens {n : Nat} {r : Reach} {b0 : Nat} : ∀ {ts : List TypeId} {ss : List Sh} {gs : List Gd} {vs : List Value} {ds : List (DataW H)} {ps : List MemPlace}, argsSh P n ts = some (ss, gs) →
    (∀ (j : Nat) t v, ts[j]? = some t → vs[j]? = some v → Value.okWide P W r b0 t v) → DataW.TrodAll enc P W base sp held ts vs ds ps →
    ∃ l m, HvOk gs l m ∧ m ≤ bulkL ds ∧ ∃ xs, (∀ l', fillL ss (l ++ l') = (xs, l')) ∧ RelL W (oldF W) noLoc (xs.map X.enc) vs
  | [], _, _, vs, ds, ps, h, _, hd => by
    cases h
    cases vs <;> cases ds <;> simp [DataW.TrodAll] at hd
    exact ⟨[], 0, .nil, Nat.zero_le _, [], fun _ => rfl, relL_nil⟩
  | t :: ts, ss, gs, vs, ds, ps, h, hval, hd => by
    unfold argsSh at h
    split at h
    · rename_i s g ss' gs' h1 h2
      cases h
      cases vs <;> cases ds <;> simp only [DataW.TrodAll] at hd
      all_goals first | exact hd.elim | skip
      rename_i v vs d ds
      obtain ⟨p, q, hp, hq, e⟩ := hd
      obtain ⟨l, m, hl, k1, x, hx, rx⟩ := argSh_opens h1 (hval 0 t v rfl rfl) hp
      obtain ⟨l2, m2, hl2, k2, xs, hxs, rxs⟩ := args_opens h2 (fun j t' v' a b => hval (j + 1) t' v' (by simpa using a) (by simpa using b)) hq
      refine ⟨l ++ l2, m + m2, hl.append hl2, by simp only [bulkL]; omega, x :: xs, fun l' => ?_, relL_cons rx rxs⟩
      rw [List.append_assoc]
      simp only [fillL, hx, hxs]
    · cases h

/-- a row's call: what the law says of all that may be handed in -/
theorem row_calls_upto (hG : HoldsG W) {n : Nat} {f : FuncId} {ts : List TypeId} {ss : List Sh} {gs : List Gd} (ha : argsSh P n ts = some (ss, gs)) {ds : List (DataW H)} 
    (law : ∀ y : Tup (gs.map Gd.ty), gdT gs y → blkT gs y ≤ bulkL ds → CTx P f (inOf ⟨ss, []⟩ (ofTup (gs.map Gd.ty) y)).1 [] (.b true) [])
    {r : Reach} {b0 : Nat} {args : Array Value} {ps : List MemPlace}
    (hval : ∀ (j : Nat) t v, ts[j]? = some t → args[j]? = some v → Value.okWide P W r b0 t v) (hd : DataW.TrodAll enc P W base sp held ts args.toList ds ps) :
    Calls P f args W fun e w' => e = .returned (.bool true) ∧ Below W.heap.size W w' := by
  obtain ⟨l, m, hl, hm, xs, hxs, rxs⟩ := args_opens ha (fun j t v a b => hval j t v a (by simpa using b)) hd
  obtain ⟨y, hy, gy, ky⟩ := hl.tup
  have h := law y gy (by omega)
  rw [hy] at h
  have e : (inOf ⟨ss, []⟩ l).1 = xs := by
    have := hxs []
    rw [List.append_nil] at this
    simp only [inOf, this]
  rw [e] at h
  exact CTd.calls (f := f) (vs := xs.map X.enc) h hG rxs
theorem row_calls (hG : HoldsG W) {n : Nat} {f : FuncId} {ts : List TypeId} {ss : List Sh} {gs : List Gd} (ha : argsSh P n ts = some (ss, gs))
    (law : ∀ y : Tup (gs.map Gd.ty), gdT gs y → CTx P f (inOf ⟨ss, []⟩ (ofTup (gs.map Gd.ty) y)).1 [] (.b true) [])
    {r : Reach} {b0 : Nat} {args : Array Value} {ds : List (DataW H)} {ps : List MemPlace}
    (hval : ∀ (j : Nat) t v, ts[j]? = some t → args[j]? = some v → Value.okWide P W r b0 t v) (hd : DataW.TrodAll enc P W base sp held ts args.toList ds ps) :
    Calls P f args W fun e w' => e = .returned (.bool true) ∧ Below W.heap.size W w' :=
  row_calls_upto hG ha (fun y g _ => law y g) hval hd
end Go.Proofs.YtobfoiomjfdjjaaDoor.Mc

/- THE MACHINE (61): the library's functions by their proved contracts; package variables that are told. -/
namespace Go.Proofs.YtobfoiomjfdjjaaDoor.Mc
open Go.RowKit
variable [Mo]
variable {P : Program}

/-- what the told package variables hold, where it is plain -/
def HoldsS (w : World) : Prop := ∀ g cells, noG g = some cells → ∀ (j : Nat) v, cells[j]? = some (T.sc v) → w.cell? ⟨g, j, none⟩ = some v
theorem RelS.holdsS {B : Base} {w : World} {F : Nat → Prop} {loc : Nat → Option Loc} {s : Store} (hS : RelS noG B w F loc s) : HoldsS w := by
  intro g cells hg j v hj
  obtain ⟨_, val, hc, hr⟩ := hS.glob g cells hg
  rw [hc j (List.getElem?_eq_some_iff.1 hj).1]
  have := hr j _ hj
  cases this with
  | sc => rfl

theorem RelS.below {G : Glob} {B : Base} {w w' : World} {F : Nat → Prop} {loc : Nat → Option Loc} {s : Store} (hS : RelS G B w F loc s) (hb : Below w.heap.size w w') (hdr : Mo.m = true → w.drawn ≤ w'.drawn) : RelS G B w' F loc s := by
  have hk : Kept w F w' F := fun b hF => ⟨hF, hb.block b (hS.frz b hF).1⟩
  refine ⟨?_, hS.dom, hS.inj, ?_, ?_, hS.fr0, hb.os.trans hS.os, hb.tape.trans hS.tape, hb.output.trans hS.output, Nat.le_trans hS.size hb.size, ?_, hS.anc, ?_, fun h => Nat.le_trans (hS.drw h) (hdr h)⟩
  · intro o obj ho
    obtain ⟨l, hl, hr⟩ := hS.obs o obj ho
    exact ⟨l, hl, hr.mono hk (Same.refl _) (fun b hb' => hb.block b (hS.own o l b hl hb').1) fun c _ _ _ _ ⟨i, hi⟩ _ => hb.block c (hS.own i _ c hi rfl).1⟩
  · intro o l b h1 h2
    have := hS.own o l b h1 h2
    exact ⟨Nat.lt_of_lt_of_le this.1 hb.size, this.2⟩
  · intro b hF
    have := hS.frz b hF
    exact ⟨Nat.lt_of_lt_of_le this.1 hb.size, this.2⟩
  · intro b hb1 hx
    rw [hb.block b (Nat.lt_of_lt_of_le hb1 hS.size)]
    exact hS.keep b hb1 hx
  · intro g cells hg
    obtain ⟨hF, val, hc, hr⟩ := hS.glob g cells hg
    exact ⟨hF, val, fun j hj => (cell_of_block (w := w) (hk g hF).2).trans (hc j hj), fun j x hj => (hr j x hj).mono hk⟩

omit [Mo] in
theorem relL_sc {w : World} {F : Nat → Prop} {loc : Nat → Option Loc} : ∀ {vs args : List Value}, RelL w F loc (vs.map fun v => V.t (.sc v)) args → args = vs
  | [], [], _ => rfl
  | [], _ :: _, h => by have := h.1; simp at this
  | _ :: _, [], h => by have := h.1; simp at this
  | v :: vs, a :: bs, h => by
    obtain ⟨u, hu, hr⟩ := h.2 0 _ rfl
    cases hu
    have h1 := relV_sc hr
    have h2 : bs = vs := relL_sc ⟨by have := h.1; simpa using this, fun j y hj => by
      obtain ⟨u, hu, hr⟩ := h.2 (j + 1) y (by simpa using hj)
      exact ⟨u, by simpa using hu, hr⟩⟩
    rw [h1, h2]
/-- a function of the library, by its contract: of plain values -/
theorem CTx.lib {f : FuncId} {xs : List X} {vs : List Value} {r : X} {u : Value} (hx : xs.map X.enc = vs.map fun v => V.t (.sc v)) (hr : ∀ (w : World) (F : Nat → Prop) (loc : Nat → Option Loc), RelV w F loc r.enc u)
    (h : ∀ w, HoldsS w → Calls P f vs.toArray w fun e w' => e = .returned u ∧ Below w.heap.size w w' ∧ (Mo.m = true → w.drawn ≤ w'.drawn)) : CTx P f xs [] r [] := by
  intro F loc w args hn hS hA
  rw [hx] at hA
  obtain rfl := relL_sc hA
  refine (h w hS.holdsS).mono ?_
  rintro e w' ⟨rfl, hb, hd⟩
  exact ⟨u, F, loc, r.enc, encS [], rfl, hS.below hb hd, hr w' F loc, rfl, rfl⟩
omit [Mo] in
theorem relV_two {w : World} {F : Nat → Prop} {loc : Nat → Option Loc} {k k' : IntKind} {a b : Int} : RelV w F loc (X.enc (.tp [.i k a, .i k' b])) (.tuple #[.int k a, .int k' b]) := by
  refine .tp _ [.int k a, .int k' b] (fun j => [Value.int k a, .int k' b].getD j undef) rfl (fun j hj => ?_) (fun j y hj => ?_)
  · match j, hj with
    | 0, _ => rfl
    | 1, _ => rfl
    | j + 2, hj => exact absurd (show j + 2 < 2 from hj) (by omega)
  · match j, hj with
    | 0, hj => cases hj; exact .t _ _ (.sc _ rfl)
    | 1, hj => cases hj; exact .t _ _ (.sc _ rfl)
    | j + 2, hj => simp [encL] at hj

/-! the decoder's two tables -/
def firstT' : List T := (List.range 256).map fun c => T.sc (.int .u8 ((Lib.firstT c : Nat) : Int))
def accT' : List T := (List.range 32).map fun j => T.sc (.int .u8 ((if j % 2 = 0 then Lib.accLo (j / 2) else Lib.accHi (j / 2) : Nat) : Int))
omit [Mo] in
theorem tabs_of {g3 g4 : Nat} (h3 : noG g3 = some firstT') (h4 : noG g4 = some accT') {w : World} (h : HoldsS w) : Lib.Utf8Tabs g3 g4 w := by
  refine ⟨fun c hc => h g3 _ h3 c _ (by simp [firstT', hc]), fun i hi => ⟨h g4 _ h4 (2 * i) _ ?_, h g4 _ h4 (2 * i + 1) _ ?_⟩⟩
  · simp [accT', show 2 * i < 32 by omega]
  · simp [accT', show 2 * i + 1 < 32 by omega, show (2 * i + 1) % 2 ≠ 0 by omega, show (2 * i + 1) / 2 = i by omega]
omit [Mo] in
theorem holds_tab {g : Nat} {w : World} {n : Nat} {v : Nat → Value} {cells : List T} (hc : cells = (List.range n).map fun j => T.sc (v j)) (hn : 0 < n) (hp : ∀ j, j < n → plain (v j) = true) (h : ∀ j, j < n → w.cell? ⟨g, j, none⟩ = some (v j)) :
    g < w.heap.size ∧ ∃ val : Nat → Value, (∀ j, j < cells.length → w.cell? ⟨g, j, none⟩ = some (val j)) ∧ ∀ (j : Nat) (x : T), cells[j]? = some x → RelT w (oldF w) x (val j) := by
  subst hc
  refine ⟨?_, v, fun j hj => h j (by simpa using hj), fun j x hj => ?_⟩
  · have := h 0 hn
    unfold World.cell? at this
    by_cases hb : g < w.heap.size
    · exact hb
    · simp [Array.getElem?_eq_none (Nat.le_of_not_lt hb)] at this
  · have hj' : j < n := by have := (List.getElem?_eq_some_iff.1 hj).1; simpa using this
    simp [hj'] at hj
    subst hj
    exact .sc _ (hp j hj')
omit [Mo] in
theorem holds_first {g3 g4 : Nat} {w : World} (h : Lib.Utf8Tabs g3 g4 w) : g3 < w.heap.size ∧ ∃ val : Nat → Value, (∀ j, j < firstT'.length → w.cell? ⟨g3, j, none⟩ = some (val j)) ∧ ∀ (j : Nat) (x : T), firstT'[j]? = some x → RelT w (oldF w) x (val j) :=
  holds_tab (n := 256) rfl (by omega) (fun _ _ => rfl) fun j hj => h.1 j hj
omit [Mo] in
theorem holds_acc {g3 g4 : Nat} {w : World} (h : Lib.Utf8Tabs g3 g4 w) : g4 < w.heap.size ∧ ∃ val : Nat → Value, (∀ j, j < accT'.length → w.cell? ⟨g4, j, none⟩ = some (val j)) ∧ ∀ (j : Nat) (x : T), accT'[j]? = some x → RelT w (oldF w) x (val j) :=
  holds_tab (n := 32) rfl (by omega) (fun _ _ => rfl) fun j hj => by
    by_cases hm : j % 2 = 0
    · have := (h.2 (j / 2) (by omega)).1
      rw [show 2 * (j / 2) = j by omega] at this
      rw [if_pos hm]; exact this
    · have := (h.2 (j / 2) (by omega)).2
      rw [show 2 * (j / 2) + 1 = j by omega] at this
      rw [if_neg hm]; exact this
omit [Mo] in
theorem holdsG_u8 {g3 g4 : Nat} (h3 : noG g3 = some firstT') (h4 : noG g4 = some accT') (hn : ∀ g, g ≠ g3 → g ≠ g4 → noG g = none) {W : World} (h : Lib.Utf8Tabs g3 g4 W) : HoldsG W := by
  intro g cells hg
  by_cases e3 : g = g3
  · subst e3; rw [h3] at hg; cases hg; exact holds_first h
  · by_cases e4 : g = g4
    · subst e4; rw [h4] at hg; cases hg; exact holds_acc h
    · rw [hn g e3 e4] at hg; cases hg
/-! an array of texts -/
def TextsAt (W : World) (g : Nat) (ss : List ByteArray) : Prop := ∀ (j : Nat) (s : ByteArray), ss[j]? = some s → W.cell? ⟨g, j, none⟩ = some (.string s)
def textsT (ss : List ByteArray) : List T := ss.map fun s => T.sc (.string s)
omit [Mo] in
theorem textsAt_of {P : Program} {W : World} {n : String} {ss : List ByteArray} {g t e m : Nat} (h : Lib.VarReads P W n (.agg (ss.map fun s => .lit (.string s.data.toList)))) (hg : P.globalNamed n = some g) (hty : (P.globals[g]?).map (·.type) = some t)
    (ht : P.underlying t = some (.array m e)) (he : P.underlying e = some .string) (hc : P.cellsOf e = 1) (hl : ss.length = m) : TextsAt W g ss := by
  intro j s hj
  obtain ⟨g', t', cs, fuel, p, hg', hty', hvar, hd⟩ := h
  obtain rfl := Option.some.inj (hg.symm.trans hg')
  obtain rfl := Option.some.inj (hty.symm.trans hty')
  have hjl : j < m := by rw [← hl]; exact (List.getElem?_eq_some_iff.1 hj).1
  obtain ⟨fuel', d, q, hdi, hel⟩ := Lib.array_elem ht hd j hjl
  rw [List.getElem?_map, hj] at hdi
  simp only [Option.map_some, Option.some.injEq] at hdi
  subst hdi
  rw [hc, Nat.mul_one] at hel
  obtain ⟨s', hcs, hx, _⟩ := DataW.trod_string he hel
  have e1 : s.data.toList = s'.data.toList := by
    have := congrArg Prod.fst hx
    simpa using this
  have e2 : s = s' := by
    apply ByteArray.ext
    exact Array.toList_inj.1 e1
  subst e2
  have e3 := congrArg (·[0]?) hcs
  simp only [List.getElem?_take, List.getElem?_drop] at e3
  rw [World.var?_cell hg hvar j, ← Array.getElem?_toList]
  simpa using e3
omit [Mo] in
theorem holds_texts {g : Nat} {w : World} {ss : List ByteArray} (hn : 0 < ss.length) (h : TextsAt w g ss) :
    g < w.heap.size ∧ ∃ val : Nat → Value, (∀ j, j < (textsT ss).length → w.cell? ⟨g, j, none⟩ = some (val j)) ∧ ∀ (j : Nat) (x : T), (textsT ss)[j]? = some x → RelT w (oldF w) x (val j) := by
  refine ⟨?_, fun j => .string (ss.getD j ⟨#[]⟩), fun j hj => ?_, fun j x hj => ?_⟩
  · have := h 0 ss[0] (List.getElem?_eq_getElem hn)
    unfold World.cell? at this
    by_cases hb : g < w.heap.size
    · exact hb
    · simp [Array.getElem?_eq_none (Nat.le_of_not_lt hb)] at this
  · have hj' : j < ss.length := by unfold textsT at hj; simpa using hj
    rw [h j _ (List.getElem?_eq_getElem hj')]
    simp [List.getD, hj']
  · unfold textsT at hj
    rw [List.getElem?_map] at hj
    obtain ⟨s, hs, rfl⟩ := Option.map_eq_some_iff.1 hj
    have : ss.getD j ⟨#[]⟩ = s := by simp [List.getD, hs]
    dsimp only
    rw [this]
    exact .sc _ rfl
omit [Mo] in
theorem holdsG_names {g0 : Nat} {ss : List ByteArray} (h0 : noG g0 = some (textsT ss)) (hn : 0 < ss.length) (hno : ∀ g, g ≠ g0 → noG g = none) {W : World} (h : TextsAt W g0 ss) : HoldsG W := by
  intro g cells hg
  by_cases e0 : g = g0
  · subst e0; rw [h0] at hg; cases hg; exact holds_texts hn h
  · rw [hno g e0] at hg; cases hg
omit [Mo] in
theorem holdsG_three {g0 g3 g4 : Nat} {ss : List ByteArray} (h0 : noG g0 = some (textsT ss)) (hn : 0 < ss.length) (h3 : noG g3 = some firstT') (h4 : noG g4 = some accT') (hno : ∀ g, g ≠ g0 → g ≠ g3 → g ≠ g4 → noG g = none) {W : World} (h : TextsAt W g0 ss) (hu : Lib.Utf8Tabs g3 g4 W) : HoldsG W := by
  intro g cells hg
  by_cases e0 : g = g0
  · subst e0; rw [h0] at hg; cases hg; exact holds_texts hn h
  · by_cases e3 : g = g3
    · subst e3; rw [h3] at hg; cases hg; exact holds_first hu
    · by_cases e4 : g = g4
      · subst e4; rw [h4] at hg; cases hg; exact holds_acc hu
      · rw [hno g e0 e3 e4] at hg; cases hg
omit [Mo] in
theorem lkG_none : ∀ (l : List (Nat × (r : Row) × List r.den)) (g : Nat), (∀ p ∈ l, g ≠ p.1) → lkG l g = none
  | [], _, _ => rfl
  | (i, a) :: l, g, h => by
    have h1 : Nat.beq i g = false := by rw [← Bool.not_eq_true, Nat.beq_eq]; exact fun e => h (i, a) (by simp) e.symm
    rw [lkG, h1, cond_false]
    exact lkG_none l g fun p hp => h p (by simp [hp])
omit [Mo] in
theorem noG_none {g : Nat} (h : ∀ p ∈ gTab, g ≠ p.1) : noG g = none := by unfold noG; rw [lkG_none gTab g h]
end Go.Proofs.YtobfoiomjfdjjaaDoor.Mc

/- THE MACHINE (62): slices.SortFunc by its proved contract: of texts, under a function that is known by its own contract. -/
namespace Go.Proofs.YtobfoiomjfdjjaaDoor.Mc
open Go.RowKit Go.Sort
variable {P : Program}
/-- a function's contract as the world that it leaves -/
theorem CTx.grows {g : FuncId} {a b : ByteArray} {n : Int} (h : @CTx ⟨true⟩ P g [.s a, .s b] [] (.i .i64 n) []) {W : World} {F : Nat → Prop} (hfz : ∀ k, F k → k < W.heap.size)
    (hgl : ∀ g cells, noG g = some cells → F g ∧ ∃ val : Nat → Value, (∀ j, j < cells.length → W.cell? ⟨g, j, none⟩ = some (val j)) ∧ ∀ (j : Nat) (x : T), cells[j]? = some x → RelT W F x (val j)) :
    Calls P g #[.string a, .string b] W fun e w' => e = .returned (.int .i64 n) ∧ ∃ q os', w' = grow (W.drewN q) os' := by
  letI : Mo := ⟨true⟩
  have hno : ∀ (o : Nat) (l : Loc), (fun _ => none : Nat → Option Loc) o = some l → 1000000 ≤ o := fun _ _ h => by cases h
  have hS : RelS noG (baseOf (fun _ => none) W F hno) W F (fun _ => none) (encS []) := by
    refine ⟨?_, ?_, ?_, ?_, fun b hb => ⟨hfz b hb, .inl hb⟩, fun b hb => hb, rfl, rfl, rfl, Nat.le_refl _, fun _ _ _ => rfl, ?_, hgl, fun _ => Nat.le_refl _⟩
    · intro o obj ho; exact absurd (show (none : Option (Option O)) = some obj from ho) (by simp)
    · intro o l hl; cases hl
    · intro o o' l l' b h1; cases h1
    · intro o l b h1; cases h1
    · intro o l ho; cases ho
  have hA : RelL W F (fun _ => none) ([X.s a, X.s b].map X.enc) [.string a, .string b] := by
    refine ⟨rfl, fun j x hj => ?_⟩
    match j, hj with
    | 0, hj => cases hj; exact ⟨_, rfl, .t _ _ (.sc _ rfl)⟩
    | 1, hj => cases hj; exact ⟨_, rfl, .t _ _ (.sc _ rfl)⟩
    | j + 2, hj => simp at hj
  refine (h F (fun _ => none) W [.string a, .string b] hno hS hA).mono ?_
  rintro e w' ⟨v, F', loc', r, s', rfl, hS', hr, rfl, rfl⟩
  have hv : v = .int .i64 n := relV_sc hr
  subst hv
  refine ⟨rfl, w'.drawn - W.drawn, w'.heap.extract W.heap.size w'.heap.size, ?_⟩
  have hd : W.drawn ≤ w'.drawn := hS'.drw rfl
  have hsz : W.heap.size ≤ w'.heap.size := hS'.size
  have hk : ∀ k, k < W.heap.size → w'.heap[k]? = W.heap[k]? := fun k hk => hS'.keep k hk fun ⟨o, l, h, _⟩ => by cases h
  have e1 := hS'.os
  have e2 := hS'.tape
  have e3 := hS'.output
  obtain ⟨heap', tape', drawn', os', output'⟩ := w'
  simp only at e1 e2 e3 hd hsz hk
  subst e1 e2 e3
  have eh : heap' = W.heap ++ heap'.extract W.heap.size heap'.size := by
    apply Array.ext_getElem?
    intro k
    by_cases hk' : k < W.heap.size
    · rw [Array.getElem?_append_left hk']; exact hk k hk'
    · rw [Array.getElem?_append_right (by omega), Array.getElem?_extract]
      by_cases hk2 : k < heap'.size
      · rw [if_pos (by omega)]; congr 1; omega
      · rw [if_neg (by omega), Array.getElem?_eq_none (by omega)]
  simp only [grow, World.drewN]
  congr 1
  omega
variable [Mo]
/-- what a text's order says -/
def ltc (cmp : ByteArray → ByteArray → Option Int) (x y : ByteArray) : Bool := match cmp x y with | some n => decide (n < 0) | none => false
structure SortOk (cmp : ByteArray → ByteArray → Option Int) (xs : List ByteArray) : Prop where
  some : ∀ a ∈ xs, ∀ b ∈ xs, ∃ n, cmp a b = some n
  irrefl : ∀ a ∈ xs, ltc cmp a a = false
  trans : ∀ a ∈ xs, ∀ b ∈ xs, ∀ c ∈ xs, ltc cmp a b = true → ltc cmp b c = true → ltc cmp a c = true
  ntrans : ∀ a ∈ xs, ∀ b ∈ xs, ∀ c ∈ xs, ltc cmp a b = false → ltc cmp b c = false → ltc cmp a c = false
  total : ∀ a ∈ xs, ∀ b ∈ xs, ltc cmp a b = false → ltc cmp b a = false → a = b
  size : xs.length < 4611686018427387904
noncomputable def sortF (cmp : ByteArray → ByteArray → Option Int) (xs : List ByteArray) : Option (List ByteArray) :=
  open Classical in if SortOk cmp xs then some (xs.mergeSort fun x y => !(ltc cmp y x)) else none
omit [Mo] in
theorem sortF_out {cmp : ByteArray → ByteArray → Option Int} {xs ys : List ByteArray} (h : sortF cmp xs = some ys) : SortOk cmp xs ∧ ys = xs.mergeSort fun x y => !(ltc cmp y x) := by
  unfold sortF at h
  split at h
  · cases h; exact ⟨by assumption, rfl⟩
  · cases h
omit [Mo] in
theorem sortF_of {cmp : ByteArray → ByteArray → Option Int} {xs : List ByteArray} (h : SortOk cmp xs) : sortF cmp xs = some (xs.mergeSort fun x y => !(ltc cmp y x)) := by
  unfold sortF; rw [if_pos h]
def strRow : Row := .str .nil
/-- a sorted row, in the world that the sort leaves -/
theorem RelS.sorted {B : Base} {w : World} {F : Nat → Prop} {loc : Nat → Option Loc} {s : Store} (hS : RelS noG B w F loc s) {α : Type} [Inhabited α] {en : α → ByteArray} {o e : Nat} {rows : List (List T)} {g cap : Nat} {cells : List Value} {D : Array α} {n : Nat} {os : Array Obj}
    (he1 : e < 1000000) (ho : loc o = some (.arr (some g) rows.length cap 1)) (hown : w.ownsRow 0 e 1 (.slice (some ⟨g, 0, none⟩) rows.length cap) rows.length cells) (hD : D.size = rows.length) :
    RelS noG B (sortWorld (fun x => Value.string (en x)) w g 0 n D os) F loc (upd s o (some (some (.ar e 1 (D.toList.map fun x => [T.sc (.string (en x))]))))) := by
  obtain ⟨cur, hg, hnc, hcm, hcs, htake⟩ : ∃ cur, w.heap[g]? = some (.cells cur e (0, 0)) ∧ rows.length ≤ cap ∧ cap ≤ maxLen ∧ cur.size = cap * 1 ∧ cur.toList.take (rows.length * 1) = cells := by
    rcases hown.2 with ⟨h, _⟩ | ⟨g', cap', cur, hv, _, h2, h3, h4, h5, h6⟩
    · cases h
    · cases hv; exact ⟨cur, h2, h3, h4, h5, h6⟩
  let w1 := putRow (fun x => Value.string (en x)) w g 0 D
  have hg1 : w1.heap[g]? = some (.cells (putCells (fun x => Value.string (en x)) 0 D cur) e (0, 0)) := by
    simp only [w1, putRow, mapBlock, Array.getElem?_modify, hg, if_true, Option.map_some, onCells]
  have hot : ∀ k, k ≠ g → w1.heap[k]? = w.heap[k]? := fun k hk => by
    simp only [w1, putRow, mapBlock, Array.getElem?_modify]
    rw [if_neg (Ne.symm hk)]
  have hcell : ∀ (i : Nat) (x : α), D[i]? = some x → (putCells (fun x => Value.string (en x)) 0 D cur)[i]? = some (.string (en x)) := by
    intro i x hx
    have hi : i < D.size := (Array.getElem?_eq_some_iff.1 hx).1
    have hic : i < cur.size := by omega
    simp only [putCells, Array.getElem?_mapIdx, Array.getElem?_eq_getElem hic, Option.map_some, Nat.zero_add, Nat.zero_le, true_and, if_pos hi, Nat.sub_zero]
    rw [getElem!_pos D i hi]
    congr 3
    exact Option.some.inj ((Array.getElem?_eq_getElem hi).symm.trans hx)
  have hlen : (D.toList.map fun x => [T.sc (.string (en x))]).length = rows.length := by rw [List.length_map, Array.length_toList]; exact hD
  have hx : RelO w1 F loc (some (.ar e 1 (D.toList.map fun x => [T.sc (.string (en x))]))) (.arr (some g) rows.length cap 1) := by
    have := RelO.ar (w := w1) (F := F) (loc := loc) e 1 (D.toList.map fun x => [T.sc (.string (en x))]) (some g) cap ((putCells (fun x => Value.string (en x)) 0 D cur).toList.take rows.length) (by decide) (by
      intro r hr; obtain ⟨x, _, rfl⟩ := List.mem_map.1 hr; rfl) (by
      rw [hlen]
      refine ownsR_of ⟨?_, .inr ⟨g, cap, _, rfl, Nat.zero_le _, hg1, hnc, hcm, ?_, by rw [Nat.mul_one]⟩⟩ he1
      · simp [putCells]; omega
      · simp [putCells]; omega) (by
      intro u hu
      obtain ⟨i, hi⟩ := List.getElem?_of_mem hu
      rw [List.getElem?_take] at hi
      split at hi
      · rename_i hlt
        have hiD : i < D.size := by omega
        rw [Array.getElem?_toList, hcell i _ (Array.getElem?_eq_getElem hiD)] at hi
        cases hi; rfl
      · cases hi) (by
      intro i r hi j x hj
      rw [List.getElem?_map] at hi
      obtain ⟨y, hy, rfl⟩ := Option.map_eq_some_iff.1 hi
      rw [Array.getElem?_toList] at hy
      have hiD : i < D.size := (Array.getElem?_eq_some_iff.1 hy).1
      cases j with
      | zero =>
        cases hj
        refine ⟨.string (en y), ?_, .sc _ rfl⟩
        rw [List.getElem?_take, if_pos (by omega), Nat.mul_one, Nat.add_zero, Array.getElem?_toList]
        exact hcell i y hy
      | succ j => simp at hj)
    rwa [hlen] at this
  obtain ⟨h1, hk⟩ := hS.turn (w' := w1) ho rfl (by simp [w1]) rfl rfl rfl hot hx (fun m h => by
    obtain ⟨l, h1, h2⟩ := hS.obs o _ h
    rw [ho] at h1
    cases h1; cases h2)
  refine h1.below (w' := sortWorld (fun x => Value.string (en x)) w g 0 n D os) ?_ (fun _ => ?_)
  · have e : sortWorld (fun x => Value.string (en x)) w g 0 n D os = grow (Go.Sort.ahead w1 n) os := by unfold sortWorld; rw [putRow_ahead]
    rw [e]
    exact ⟨rfl, rfl, rfl, by simp [grow], fun k hk => by simp only [grow, heap_ahead]; rw [Array.getElem?_append_left hk]⟩
  · show w1.drawn ≤ _
    simp [sortWorld, grow, w1]
/-- slices.SortFunc of texts -/
theorem CTx.sortFunc {ρ : Shelf.Ren} (L : SlLaysF.n6 P ρ) (Lz : SlLaysF0.n6 P ρ) {g : FuncId} (eg : ∀ args w, (callFunc g args).run P w = .ok (.enter g args) w) {cmp : ByteArray → ByteArray → Option Int} (hc : ∀ a b n, cmp a b = some n → @CTx ⟨true⟩ P g [.s a, .s b] [] (.i .i64 n) [])
    (e : TypeId) (he1 : e < 1000000) {xs ys : List ByteArray} (h : sortF cmp xs = some ys) :
    CTx P (ρ.f 6) [.sl .u 1000000, .c (.func (.func g) #[] #[])] [(1000000, some (.ar e strRow xs))] (.tp []) [(1000000, some (.ar e strRow ys))] := by
  obtain ⟨hok, rfl⟩ := sortF_out h
  intro F loc w args hn hS hA
  have ho : encS [(1000000, some (.ar e strRow xs))] 1000000 = some (some (.ar e 1 (xs.map strRow.en))) := rfl
  obtain ⟨b, cap, cells, hl, _, hrl, hownR, h1, hr⟩ := hS.row (o := 1000000) (e := e) (sz := 1) (rows := xs.map strRow.en) (by unfold Mc.get; rw [ho])
  have hown := ownsR_row hownR he1
  have hml : (xs.map strRow.en).length = xs.length := List.length_map _
  rw [hml] at hl hown
  obtain ⟨v0, hv0, r0⟩ := hA.2 0 _ rfl
  obtain ⟨v1, hv1, r1⟩ := hA.2 1 _ rfl
  have hv0' := (relV_sl r0 hl).1
  have hv1' : v1 = .func (.func g) #[] #[] := relV_sc r1
  have hargs : args = [.slice (b.map fun b => ⟨b, 0, none⟩) xs.length cap, .func (.func g) #[] #[]] := by
    have hlen := hA.1
    match args, hlen, hv0, hv1 with
    | [a, c], _, hv0, hv1 => cases hv0; cases hv1; rw [hv0', hv1']
  subst hargs
  cases xs with
  | nil =>
    refine (AnyF.slices_SortFunc_none Lz (b.map fun b => ⟨b, 0, none⟩) cap (.func (.func g) #[] #[]) w).mono ?_
    rintro e' w' ⟨rfl, rfl⟩
    exact ⟨_, F, loc, vU, _, rfl, hS, .tp [] [] (fun _ => .nilIface) rfl (fun j hj => absurd hj (by simp)) (fun j x hj => by simp at hj), rfl, by rw [List.mergeSort_nil]⟩
  | cons x0 xs0 =>
    obtain ⟨g0, rfl⟩ := own_block (ownsR_of hown he1) (by simp)
    generalize hxs : x0 :: xs0 = xs at *
    let α := {a : ByteArray // a ∈ xs}
    haveI : Inhabited α := ⟨⟨x0, by rw [← hxs]; simp⟩⟩
    let d : Array α := xs.attach.toArray
    let cf : α → α → Int := fun x y => (cmp x.1 y.1).getD 0
    have hcf : ∀ x y : α, cmp x.1 y.1 = some (cf x y) := fun x y => by
      obtain ⟨n, hn⟩ := hok.some x.1 x.2 y.1 y.2
      simp only [cf, hn, Option.getD_some]
    have hlt : ∀ x y : α, ltOf cf x y = ltc cmp x.1 y.1 := fun x y => by
      unfold ltOf ltc; rw [hcf x y]
    have hO : SWO (ltOf cf) := ⟨fun x => by rw [hlt]; exact hok.irrefl _ x.2, fun x y z => by simp only [hlt]; exact hok.trans _ x.2 _ y.2 _ z.2, fun x y z => by simp only [hlt]; exact hok.ntrans _ x.2 _ y.2 _ z.2⟩
    have hT : ∀ x y : α, ltOf cf x y = false → ltOf cf y x = false → x = y := fun x y => by
      simp only [hlt]; exact fun a b => Subtype.ext (hok.total _ x.2 _ y.2 a b)
    have hds : d.size = xs.length := by show xs.attach.toArray.size = _; rw [List.size_toArray, List.length_attach]
    have hgw := hS.own 1000000 _ g0 hl rfl
    have hfzw : ∀ k, F k → k < w.heap.size := fun k hk => (hS.frz k hk).1
    have hH : Holds (fun x : α => Value.string x.1) w g0 0 d := by
      intro j hj
      have hj' : j < xs.length := by omega
      obtain ⟨cur, hg, hnc, hcm, hcs, htake⟩ : ∃ cur, w.heap[g0]? = some (.cells cur e (0, 0)) ∧ xs.length ≤ cap ∧ cap ≤ maxLen ∧ cur.size = cap * 1 ∧ cur.toList.take (xs.length * 1) = cells := by
        rcases hown.2 with ⟨h, _⟩ | ⟨g', cap', cur, hv, _, h2, h3, h4, h5, h6⟩
        · cases h
        · cases hv; exact ⟨cur, h2, h3, h4, h5, h6⟩
      obtain ⟨u, hu, hrel⟩ := hr j [.sc (.string xs[j])] (by
        have e : (xs.map fun s => [T.sc (.string s)])[j]? = some [T.sc (.string xs[j])] := by rw [List.getElem?_map, List.getElem?_eq_getElem hj']; rfl
        exact e) 0 (.sc (.string xs[j])) rfl
      have hu' : u = .string xs[j] := by cases hrel; rfl
      subst hu'
      refine ⟨?_, ?_⟩
      · have := own_cell (ownsR_of hown he1) (g := g0) rfl hu
        rw [Nat.mul_one, Nat.add_zero] at this
        rw [Nat.zero_add, this, getElem!_pos d j hj]
        show some (Value.string xs[j]) = some (Value.string (xs.attach.toArray[j]).1)
        rw [List.getElem_toArray, List.getElem_attach]
      · simp [World.frozen?, hg]
    let W := fun (m : Nat) (dk : Array α) (os : Array Obj) => sortWorld (fun x : α => Value.string x.1) w g0 0 m dk os
    have hW : ∀ m dk os k, k < w.heap.size → k ≠ g0 → (W m dk os).heap[k]? = w.heap[k]? := by
      intro m dk os k hk hne
      simp only [W, sortWorld, grow, putRow, mapBlock, heap_ahead]
      rw [Array.getElem?_append_left (by simpa using hk), Array.getElem?_modify, if_neg (Ne.symm hne)]
    have hWs : ∀ m dk os, w.heap.size ≤ (W m dk os).heap.size := by
      intro m dk os
      simp [W, sortWorld, grow]
    have hcmp : CmpLays1 P g #[] (fun x : α => Value.string x.1) cf g0 0 d.size w := by
      intro m os dk hdk x y
      have hk : Kept w F (W m dk os) F := fun k hk => ⟨hk, hW m dk os k (hfzw k hk) (fun e => hgw.2.1 (e ▸ hk))⟩
      have := CTx.grows (hc x.1 y.1 _ (hcf x y)) (W := W m dk os) (F := F) (fun k hk => Nat.lt_of_lt_of_le (hfzw k hk) (hWs m dk os)) (fun g' cells' hg' => by
        obtain ⟨hF, val, h2, h3⟩ := hS.glob g' cells' hg'
        exact ⟨hF, val, fun j hj => (cell_of_block (w := w) (hk g' hF).2).trans (h2 j hj), fun j z hj => (h3 j z hj).mono hk⟩)
      exact this
    have hsort := Any.slices_SortFunc_total L (fun x : α => Value.string x.1) (fun _ => rfl) cf hO g #[] g0 0 cap d w eg hcmp hH hgw.1 (by rw [hds]; exact hok.size) hT
    rw [hds] at hsort
    refine Calls.mono hsort ?_
    rintro e' w' ⟨rfl, n, os, rfl⟩
    have hsd := hS.sorted (he1 := he1) (α := α) (en := fun x => x.1) (o := 1000000) (e := e) (rows := xs.map strRow.en) (g := g0) (cap := cap) (cells := cells) (D := (d.toList.mergeSort fun x y => !(ltOf cf) y x).toArray) (n := n) (os := os) (by rw [hml]; exact hl) (by rw [hml]; exact hown) (by rw [hml]; show (List.mergeSort d.toList _).toArray.size = _; rw [List.size_toArray, List.length_mergeSort, Array.length_toList, hds])
    have hm : (d.toList.mergeSort fun x y => !(ltOf cf) y x).map (fun x => x.1) = xs.mergeSort fun x y => !(ltc cmp y x) := by
      rw [List.map_mergeSort (s := fun x y => !(ltc cmp y x)) (fun a _ b _ => by rw [hlt])]
      congr 1
      simp only [d]
      exact List.attach_map_subtype_val xs
    have hst : upd (encS [(1000000, some (.ar e strRow xs))]) 1000000 (some (some (.ar e 1 (((d.toList.mergeSort fun x y => !(ltOf cf) y x).toArray).toList.map fun x => [T.sc (.string x.1)])))) = encS [(1000000, some (.ar e strRow (xs.mergeSort fun x y => !(ltc cmp y x))))] := by
      rw [← hm]
      funext k
      by_cases hk : k = 1000000
      · subst hk
        rw [upd_self]
        show _ = some (some (O.ar e 1 (List.map (fun s : ByteArray => [T.sc (.string s)]) _)))
        rw [List.map_map]
        rfl
      · rw [upd_ne _ _ hk]
        have hb : Nat.beq 1000000 k = false := by rw [← Bool.not_eq_true, Nat.beq_eq]; exact Ne.symm hk
        simp only [encS, lk, hb, cond_false]
    rw [hst] at hsd
    exact ⟨_, F, loc, vU, _, rfl, hsd, .tp [] [] (fun _ => .nilIface) rfl (fun j hj => absurd hj (by simp)) (fun j x hj => by simp at hj), rfl, rfl⟩
end Go.Proofs.YtobfoiomjfdjjaaDoor.Mc

/- THE MACHINE (63): strings.Builder: its check, and its text, by contracts; an object that goes with its block. -/
namespace Go.Proofs.YtobfoiomjfdjjaaDoor.Mc
open Go.RowKit Go.Shelf
variable {P : Program} {ρ : Shelf.Ren}
set_option maxHeartbeats 1000000 in
set_option maxRecDepth 100000 in
/-- String of a builder that holds a byte: what turns is the buffer's block alone -/
theorem builderString (L : Lays.n169 P ρ) (X : Builder.Extra P ρ) (b g cap : Nat) (p : Value) (cur : Array Value) (fr : Nat × Nat) (l : List UInt8) (w : World) (hbk : w.heap[b]? = some (.cells #[p, .slice (some ⟨g, 0, none⟩) l.length cap] (ρ.t 72) (0, 0)))
    (hg : w.heap[g]? = some (.cells cur (ρ.t 5) fr)) (hnc : l.length ≤ cap) (hcm : cap ≤ maxLen) (hcs : cur.size = cap) (htake : cur.toList.take l.length = Lib.byteCells l) (h0 : l ≠ []) :
    Calls P (ρ.f 169) #[.pointer (some ⟨b, 0, none⟩)] w fun e w' => e = .returned (.string ⟨l.toArray⟩) ∧ w' = w.drew.freeze ⟨g, 0, none⟩ l.length := by
  have hl0 : l.length ≠ 0 := by simpa using h0
  have c1 : w.drew.cell? ⟨b, 1, none⟩ = some (.slice (some ⟨g, 0, none⟩) l.length cap) := by
    have : w.drew.heap[b]? = some (.cells #[p, .slice (some ⟨g, 0, none⟩) l.length cap] (ρ.t 72) (0, 0)) := hbk
    rw [Lib.cell_of_heap this]; rfl
  have hSD : (Builtin.unsafeSliceData_ #[(ρ.t 37)] (ρ.t 127) #[.slice (some ⟨g, 0, none⟩) l.length cap]).run P w.drew = .ok (.pointer (some ⟨g, 0, none⟩)) w.drew :=
    Lib.run_unsafeSliceData_row _ _ _ _ _ _ (by omega)
  have hUS : (Builtin.unsafeString_ #[(ρ.t 127), (ρ.t 3)] (ρ.t 9) #[.pointer (some ⟨g, 0, none⟩), .int .i64 l.length]).run P w.drew = .ok (.string ⟨l.toArray⟩) (w.drew.freeze ⟨g, 0, none⟩ l.length) := by
    refine Lib.run_unsafeString_row w.drew (ρ.t 127) (ρ.t 3) (ρ.t 9) (ρ.t 5) L.t127 X.cellsByte g cur.size (by have hg' : w.drew.heap[g]? = some (.cells cur (ρ.t 5) fr) := hg; simp [World.shape?, hg']) l h0 (by omega) (by unfold maxLen at hcm; omega) ?_
    intro j x hx
    have hadd : (⟨g, 0, none⟩ : Addr).add j = ⟨g, j, none⟩ := by unfold Addr.add; split <;> simp_all
    have hj : (Lib.byteCells l)[j]? = some (.int .u8 x.toNat) := by simp [Lib.byteCells, hx]
    rw [← htake, List.getElem?_take] at hj
    split at hj
    · rw [hadd]
      have hg' : w.drew.heap[g]? = some (.cells cur (ρ.t 5) fr) := hg
      rw [Lib.cell_of_heap hg', ← Array.getElem?_toList]
      exact hj
    · cases hj
  have mixed := L.mixed
  have t72 := L.t72; have a72 := L.a72; have z72 := L.z72; have v72 := L.v72; have u72 := run_underlying L.t72
  have t70 := L.t70; have a70 := L.a70; have z70 := L.z70; have v70 := L.v70; have u70 := run_underlying L.t70
  have t37 := L.t37; have a37 := L.a37; have z37 := L.z37; have v37 := L.v37; have u37 := run_underlying L.t37
  have t127 := L.t127; have a127 := L.a127; have z127 := L.z127; have v127 := L.v127; have u127 := run_underlying L.t127
  have t3 := L.t3; have a3 := L.a3; have z3 := L.z3; have v3 := L.v3; have u3 := run_underlying L.t3
  have t9 := L.t9; have a9 := L.a9; have z9 := L.z9; have v9 := L.v9; have u9 := run_underlying L.t9
  have t5 := X.t5; have a5 := X.a5; have z5 := X.z5; have v5 := X.v5; have u5 := run_underlying X.t5
  go_enter L.f169, Body.n169_ntmps ρ
  go_wp2
  go_region_o
  all_goals (go_wp2; go_ret; exact ⟨rfl, rfl⟩)
set_option maxHeartbeats 2000000 in
set_option maxRecDepth 100000 in
/-- String of one that holds none -/
theorem builderString0 (L : Lays.n169 P ρ) (X : Builder.Extra P ρ) (b : Nat) (bb : Option Nat) (cap : Nat) (p : Value) (w : World) (hbk : w.heap[b]? = some (.cells #[p, .slice (bb.map fun g => ⟨g, 0, none⟩) 0 cap] (ρ.t 72) (0, 0)))
    (hg : ∀ g, bb = some g → ∃ cur fr, w.heap[g]? = some (.cells cur (ρ.t 5) fr)) (hn : bb = none → cap = 0) :
    Calls P (ρ.f 169) #[.pointer (some ⟨b, 0, none⟩)] w fun e w' => e = .returned (.string ⟨#[]⟩) ∧ (w' = w.drew ∨ ∃ o, w' = (w.alloc o).drew) := by
  have hUS := Any.unsafeString_none L X
  have mixed := L.mixed
  have t72 := L.t72; have a72 := L.a72; have z72 := L.z72; have v72 := L.v72; have u72 := run_underlying L.t72
  have t70 := L.t70; have a70 := L.a70; have z70 := L.z70; have v70 := L.v70; have u70 := run_underlying L.t70
  have t37 := L.t37; have a37 := L.a37; have z37 := L.z37; have v37 := L.v37; have u37 := run_underlying L.t37
  have t127 := L.t127; have a127 := L.a127; have z127 := L.z127; have v127 := L.v127; have u127 := run_underlying L.t127
  have t3 := L.t3; have a3 := L.a3; have z3 := L.z3; have v3 := L.v3; have u3 := run_underlying L.t3
  have t9 := L.t9; have a9 := L.a9; have z9 := L.z9; have v9 := L.v9; have u9 := run_underlying L.t9
  have t5 := X.t5; have a5 := X.a5; have z5 := X.z5; have v5 := X.v5; have u5 := run_underlying X.t5
  cases bb with
  | none =>
    obtain rfl := hn rfl
    simp only [Option.map_none] at hbk
    have c1 : w.drew.cell? ⟨b, 1, none⟩ = some (.slice none 0 0) := by
      have : w.drew.heap[b]? = some (.cells #[p, .slice none 0 0] (ρ.t 72) (0, 0)) := hbk
      rw [Lib.cell_of_heap this]; rfl
    have hSD : (Builtin.unsafeSliceData_ #[(ρ.t 37)] (ρ.t 127) #[.slice none 0 0]).run P w.drew = .ok (.pointer none) w.drew := rfl
    go_enter L.f169, Body.n169_ntmps ρ
    go_wp2
    go_region_o
    all_goals (go_wp2; go_ret; exact ⟨rfl, .inl rfl⟩)
  | some g =>
    obtain ⟨cur, fr, hg⟩ := hg g rfl
    simp only [Option.map_some] at hbk
    by_cases hc0 : cap = 0
    · subst hc0
      have hlt : b < w.heap.size := by
        rcases Nat.lt_or_ge b w.heap.size with h' | h'
        · exact h'
        · simp [Array.getElem?_eq_none h'] at hbk
      have c1 : w.drew.cell? ⟨b, 1, none⟩ = some (.slice (some ⟨g, 0, none⟩) 0 0) := by
        have : w.drew.heap[b]? = some (.cells #[p, .slice (some ⟨g, 0, none⟩) 0 0] (ρ.t 72) (0, 0)) := hbk
        rw [Lib.cell_of_heap this]; rfl
      have hSD : (Builtin.unsafeSliceData_ #[(ρ.t 37)] (ρ.t 127) #[.slice (some ⟨g, 0, none⟩) 0 0]).run P w.drew = .ok (.pointer (some ⟨w.drew.heap.size, 0, none⟩)) (w.drew.alloc (.view ⟨g, 0, none⟩ (ρ.t 5))) :=
        Lib.run_unsafeSliceData_zero w.drew _ _ (ρ.t 5) L.t127 ⟨g, 0, none⟩ 0 ((ρ.t 5), cur.size) (by have hg' : w.drew.heap[g]? = some (.cells cur (ρ.t 5) fr) := hg; simp [World.shape?, hg'])
      have c2 : (w.drew.alloc (.view ⟨g, 0, none⟩ (ρ.t 5))).cell? ⟨b, 1, none⟩ = some (.slice (some ⟨g, 0, none⟩) 0 0) := by
        have : (w.drew.alloc (.view ⟨g, 0, none⟩ (ρ.t 5))).heap[b]? = _ := (Lib.alloc_old w.drew _ b hlt).trans hbk
        rw [Lib.cell_of_heap this]; rfl
      have c3 : (w.alloc (.view ⟨g, 0, none⟩ (ρ.t 5))).drew.cell? ⟨b, 1, none⟩ = some (.slice (some ⟨g, 0, none⟩) 0 0) := c2
      have c0 : w.cell? ⟨b, 1, none⟩ = some (.slice (some ⟨g, 0, none⟩) 0 0) := c1
      go_enter L.f169, Body.n169_ntmps ρ
      go_wp2
      go_region_o
      all_goals (go_wp2; go_ret; exact ⟨rfl, .inr ⟨_, rfl⟩⟩)
    · have c1 : w.drew.cell? ⟨b, 1, none⟩ = some (.slice (some ⟨g, 0, none⟩) 0 cap) := by
        have : w.drew.heap[b]? = some (.cells #[p, .slice (some ⟨g, 0, none⟩) 0 cap] (ρ.t 72) (0, 0)) := hbk
        rw [Lib.cell_of_heap this]; rfl
      have hSD : (Builtin.unsafeSliceData_ #[(ρ.t 37)] (ρ.t 127) #[.slice (some ⟨g, 0, none⟩) 0 cap]).run P w.drew = .ok (.pointer (some ⟨g, 0, none⟩)) w.drew :=
        Lib.run_unsafeSliceData_row _ _ _ _ _ _ hc0
      clear hc0
      go_enter L.f169, Body.n169_ntmps ρ
      go_wp2
      go_region_o
      all_goals (go_wp2; go_ret; exact ⟨rfl, .inl rfl⟩)
variable [Mo]
/-- an object that is forgotten, and with it what its block held -/
theorem RelS.kill {G : Glob} {B : Base} {w w' : World} {F : Nat → Prop} {loc : Nat → Option Loc} {s : Store} (hS : RelS G B w F loc s) {o : Nat} {l : Loc} (ho : loc o = some l) (hot : ∀ k, k < w.heap.size → l.block ≠ some k → w'.heap[k]? = w.heap[k]?)
    (hsz : w.heap.size ≤ w'.heap.size) (hos : w'.os = w.os) (htp : w'.tape = w.tape) (hout : w'.output = w.output) (hdr : w.drawn ≤ w'.drawn) (hmi : ∀ m, s o ≠ some (some (.mi m))) :
    RelS G B w' F (upd loc o (some .gone)) (upd s o (some none)) ∧ Kept w F w' F := by
  have hk : Kept w F w' F := fun k hF => ⟨hF, hot k (hS.frz k hF).1 (fun e => (hS.own o l k ho e).2.1 hF)⟩
  have hsm : Same loc (upd loc o (some .gone)) := same_kill (some o)
  refine ⟨⟨?_, ?_, ?_, ?_, ?_, hS.fr0, hos.trans hS.os, htp.trans hS.tape, hout.trans hS.output, Nat.le_trans hS.size hsz, ?_, ?_, ?_, fun h => Nat.le_trans (hS.drw h) hdr⟩, hk⟩
  · intro o' obj h'
    by_cases hod : o' = o
    · subst hod; rw [upd_self] at h'; cases h'; exact ⟨.gone, upd_self _ _ _, .gone⟩
    · rw [upd_ne _ _ hod] at h'
      obtain ⟨l', hl', hr⟩ := hS.obs o' obj h'
      exact ⟨l', by rw [upd_ne _ _ hod]; exact hl', hr.mono hk hsm (fun b' hb' => hot b' (hS.own o' l' b' hl' hb').1 (fun e => hod (hS.inj o' o l' l b' hl' ho hb' e))) fun c _ _ _ _ ⟨i, hi⟩ hc => hot c (hS.own i _ c hi rfl).1 fun e => by
        obtain ⟨m, hm⟩ := hS.iterIs ho e hc
        exact hmi m hm⟩
  · intro o' l' hl'
    by_cases hod : o' = o
    · subst hod; exact ⟨_, upd_self _ _ _⟩
    · rw [upd_ne _ _ hod] at hl' ⊢; exact hS.dom o' l' hl'
  · intro o1 o2 l1 l2 b h1 h2 h3 h4
    by_cases hod : o1 = o
    · subst hod; rw [upd_self] at h1; cases h1; cases h3
    · by_cases hod2 : o2 = o
      · subst hod2; rw [upd_self] at h2; cases h2; cases h4
      · rw [upd_ne _ _ hod] at h1; rw [upd_ne _ _ hod2] at h2; exact hS.inj o1 o2 l1 l2 b h1 h2 h3 h4
  · intro o' l' b' h1 h2
    by_cases hod : o' = o
    · subst hod; rw [upd_self] at h1; cases h1; cases h2
    · rw [upd_ne _ _ hod] at h1
      have := hS.own o' l' b' h1 h2
      exact ⟨Nat.lt_of_lt_of_le this.1 hsz, this.2⟩
  · intro b' hb'
    have := hS.frz b' hb'
    exact ⟨Nat.lt_of_lt_of_le this.1 hsz, this.2⟩
  · intro b' hb' hx'
    rw [hot b' (Nat.lt_of_lt_of_le hb' hS.size) ?_]
    · exact hS.keep b' hb' hx'
    · intro e
      rcases (hS.own o l b' ho e).2.2 with h | h
      · exact hx' h
      · omega
  · intro o' l' h'
    by_cases hod : o' = o
    · subst hod; exact .inr (upd_self _ _ _)
    · rw [upd_ne _ _ hod]; exact hS.anc o' l' h'
  · intro g cells hg
    obtain ⟨hF, val, hc, hr⟩ := hS.glob g cells hg
    exact ⟨hF, val, fun j hj => (cell_of_block (w := w) (hk g hF).2).trans (hc j hj), fun j x hj => (hr j x hj).mono hk⟩
/-- an object that becomes another in its place, whatever is new beside it -/
theorem RelS.become {G : Glob} {B : Base} {w w' : World} {F : Nat → Prop} {loc : Nat → Option Loc} {s : Store} (hS : RelS G B w F loc s) {o : Nat} {l : Loc} {x : O} (ho : loc o = some l) (hot : ∀ k, k < w.heap.size → l.block ≠ some k → w'.heap[k]? = w.heap[k]?)
    (hsz : w.heap.size ≤ w'.heap.size) (hos : w'.os = w.os) (htp : w'.tape = w.tape) (hout : w'.output = w.output) (hdr : w.drawn ≤ w'.drawn) (hx : RelO w' F loc (some x) l) (hmi : ∀ m, s o ≠ some (some (.mi m))) :
    RelS G B w' F loc (upd s o (some (some x))) ∧ Kept w F w' F := by
  have hk : Kept w F w' F := fun k hF => ⟨hF, hot k (hS.frz k hF).1 (fun e => (hS.own o l k ho e).2.1 hF)⟩
  refine ⟨⟨?_, ?_, hS.inj, ?_, ?_, hS.fr0, hos.trans hS.os, htp.trans hS.tape, hout.trans hS.output, Nat.le_trans hS.size hsz, ?_, hS.anc, ?_, fun h => Nat.le_trans (hS.drw h) hdr⟩, hk⟩
  · intro o' obj h'
    by_cases hod : o' = o
    · subst hod; rw [upd_self] at h'; cases h'; exact ⟨l, ho, hx⟩
    · rw [upd_ne _ _ hod] at h'
      obtain ⟨l', hl', hr⟩ := hS.obs o' obj h'
      exact ⟨l', hl', hr.mono hk (Same.refl _) (fun b' hb' => hot b' (hS.own o' l' b' hl' hb').1 (fun e => hod (hS.inj o' o l' l b' hl' ho hb' e))) fun c _ _ _ _ ⟨i, hi⟩ hc => hot c (hS.own i _ c hi rfl).1 fun e => by
        obtain ⟨m, hm⟩ := hS.iterIs ho e hc
        exact hmi m hm⟩
  · intro o' l' hl'
    by_cases hod : o' = o
    · subst hod; exact ⟨_, upd_self _ _ _⟩
    · rw [upd_ne _ _ hod]; exact hS.dom o' l' hl'
  · intro o' l' b' h1 h2
    have := hS.own o' l' b' h1 h2
    exact ⟨Nat.lt_of_lt_of_le this.1 hsz, this.2⟩
  · intro b' hb'
    have := hS.frz b' hb'
    exact ⟨Nat.lt_of_lt_of_le this.1 hsz, this.2⟩
  · intro b' hb' hx'
    rw [hot b' (Nat.lt_of_lt_of_le hb' hS.size) ?_]
    · exact hS.keep b' hb' hx'
    · intro e
      rcases (hS.own o l b' ho e).2.2 with h | h
      · exact hx' h
      · omega
  · intro g cells hg
    obtain ⟨hF, val, hc, hr⟩ := hS.glob g cells hg
    exact ⟨hF, val, fun j hj => (cell_of_block (w := w) (hk g hF).2).trans (hc j hj), fun j x hj => (hr j x hj).mono hk⟩
/-- a builder's two objects -/
def bldS (tb e : TypeId) (xs : List Int) : XS := [(1000000, some (.bx tb [.sp 1000000, .sl .u 1000001])), (1000001, some (.ar e byteRow xs))]
theorem bld_at {tb e : TypeId} (htb : Nat.blt tb 3000000 = true) {xs : List Int} {B : Base} {w : World} {F : Nat → Prop} {loc : Nat → Option Loc} (hS : RelS noG B w F loc (encS (bldS tb e xs))) :
    ∃ b g cap p cells, loc 1000000 = some (.blk b) ∧ loc 1000001 = some (.arr g xs.length cap 1) ∧ w.heap[b]? = some (.cells #[p, .slice (g.map fun g => ⟨g, 0, none⟩) xs.length cap] tb (0, 0)) ∧ (p = .pointer none ∨ p = .pointer (some ⟨b, 0, none⟩)) ∧
      World.ownsR w e 1 (.slice (g.map fun b => ⟨b, 0, none⟩) xs.length cap) xs.length cells ∧ (g = none → xs.length = 0 ∧ cap = 0) ∧ cells = xs.map fun n => Value.int .u8 n := by
  have h0 : encS (bldS tb e xs) 1000000 = some (some (.bx tb [.sp 1000000, .sl .u 1000001])) := rfl
  have h1 : encS (bldS tb e xs) 1000001 = some (some (.ar e 1 (xs.map byteRow.en))) := rfl
  obtain ⟨b, cs, hlb, hb, hl, hr⟩ := hS.var (o := 1000000) (by unfold Mc.get; rw [h0]) htb
  obtain ⟨g, cap, cells, hlg, _, hrl, hown, hone, hrow⟩ := hS.row (o := 1000001) (by unfold Mc.get; rw [h1])
  have hml : (xs.map byteRow.en).length = xs.length := List.length_map _
  rw [hml] at hlg hown
  obtain ⟨p, hp, _, rp⟩ := hr 0 _ rfl
  obtain ⟨v, hv, _, rv⟩ := hr 1 _ rfl
  obtain ⟨hv', _, _, hn0⟩ := relV_sl rv hlg
  refine ⟨b, g, cap, p, cells, hlb, hlg, ?_, ?_, hown, hn0, ?_⟩
  · rw [hb]
    congr 2
    apply Array.ext'
    have hl2 : cs.toList.length = 2 := by rw [Array.length_toList]; exact hl.symm
    rw [← Array.getElem?_toList] at hp hv
    match h : cs.toList, hl2, hp, hv with
    | [a, c], _, hp, hv =>
      cases hp; cases hv
      rw [hv']
  · cases rp with
    | gone _ o' _ hx ho => cases hx; rw [hlb] at ho; cases ho
    | sp _ b' ho => rw [hlb] at ho; cases ho; exact .inr rfl
    | spn _ => exact .inl rfl
  · apply List.ext_getElem?
    intro i
    have hcl : cells.length = xs.length := by have := ownsR_len hown; omega
    by_cases hi : i < xs.length
    · obtain ⟨u, hu, hrel⟩ := hrow i [.sc (.int .u8 xs[i])] (by
        have e : (xs.map fun n : Int => [T.sc (.int .u8 n)])[i]? = some [T.sc (.int .u8 xs[i])] := by rw [List.getElem?_map, List.getElem?_eq_getElem hi]; rfl
        exact e) 0 (.sc (.int .u8 xs[i])) rfl
      rw [Nat.mul_one, Nat.add_zero] at hu
      rw [hu, List.getElem?_map, List.getElem?_eq_getElem hi]
      cases hrel; rfl
    · rw [List.getElem?_eq_none (by omega), List.getElem?_eq_none (by rw [List.length_map]; omega)]
/-- copyCheck: nothing that is known turns -/
theorem CTx.copyCheck {f : FuncId} {tb : TypeId}
    (hfresh : ∀ b w, w.cell? ⟨b, 0, none⟩ = some (.pointer none) → w.shape? b = some (tb, 2) → w.frozen? ⟨b, 0, none⟩ = false → Calls P f #[.pointer (some ⟨b, 0, none⟩)] w fun e w' => e = .returned (.tuple #[]) ∧ w' = w.setCell ⟨b, 0, none⟩ (.pointer (some ⟨b, 0, none⟩)))
    (hused : ∀ b w, w.cell? ⟨b, 0, none⟩ = some (.pointer (some ⟨b, 0, none⟩)) → Calls P f #[.pointer (some ⟨b, 0, none⟩)] w fun e w' => e = .returned (.tuple #[]) ∧ w' = w)
    (htb : Nat.blt tb 3000000 = true) (e : TypeId) (xs : List Int) : CTx P f [.pt 1000000 0] (bldS tb e xs) (.tp []) (bldS tb e xs) := by
  intro F loc w args hn hS hA
  obtain ⟨b, g, cap, p, cells, hlb, hlg, hb, hp, hown, hn0, hcells⟩ := bld_at htb hS
  obtain ⟨v0, hv0, r0⟩ := hA.2 0 _ rfl
  have hv0' := relV_pt r0 hlb
  have hargs : args = [.pointer (some ⟨b, 0, none⟩)] := by
    have hlen := hA.1
    match args, hlen, hv0 with
    | [a], _, hv0 => cases hv0; rw [hv0']
  subst hargs
  have hu : ∀ w', RelV w' F loc vU (.tuple #[]) := fun w' => .tp [] [] (fun _ => .nilIface) rfl (fun j hj => absurd hj (by simp)) (fun j x hj => by simp at hj)
  rcases hp with rfl | rfl
  · refine (hfresh b w (by rw [Lib.cell_of_heap hb]; rfl) (by simp [World.shape?, hb]) (by simp [World.frozen?, hb])).mono ?_
    rintro e' w' ⟨rfl, rfl⟩
    have h0 : encS (bldS tb e xs) 1000000 = some (some (.bx tb [.sp 1000000, .sl .u 1000001])) := rfl
    obtain ⟨b', cs, hlb', hb', hl, hr⟩ := hS.var (o := 1000000) (by unfold Mc.get; rw [h0]) htb
    rw [hlb] at hlb'; cases hlb'
    have hot : ∀ k, k ≠ b → (w.setCell ⟨b, 0, none⟩ (.pointer (some ⟨b, 0, none⟩))).heap[k]? = w.heap[k]? := fun k hk => by
      simp only [World.setCell, Array.getElem?_modify]
      rw [if_neg (Ne.symm hk)]
    have hnew : (w.setCell ⟨b, 0, none⟩ (.pointer (some ⟨b, 0, none⟩))).heap[b]? = some (.cells #[.pointer (some ⟨b, 0, none⟩), .slice (g.map fun g => ⟨g, 0, none⟩) xs.length cap] tb (0, 0)) := by
      simp only [World.setCell, Array.getElem?_modify, if_true, hb, Option.map_some]
      rfl
    have hbn := hS.own 1000000 _ b hlb rfl
    have hk : Kept w F (w.setCell ⟨b, 0, none⟩ (.pointer (some ⟨b, 0, none⟩))) F := fun k hF => ⟨hF, hot k (fun e => hbn.2.1 (e ▸ hF))⟩
    obtain ⟨h1, _⟩ := hS.turn (w' := w.setCell ⟨b, 0, none⟩ (.pointer (some ⟨b, 0, none⟩))) (x := .bx tb [.sp 1000000, .sl .u 1000001]) hlb rfl (by simp [World.setCell]) rfl rfl rfl hot
      (.bx _ _ _ b htb hnew rfl fun j x hj => by
        match j, hj with
        | 0, hj => cases hj; exact ⟨_, rfl, rfl, .sp _ b hlb⟩
        | 1, hj =>
          cases hj
          obtain ⟨v, hv, h1c, rv⟩ := hr 1 _ rfl
          rw [hb] at hb'
          cases hb'
          cases hv
          exact ⟨_, rfl, h1c, rv.mono hk (Same.refl _)⟩
        | j + 2, hj => simp at hj) (fun m h => by rw [h0] at h; cases h)
    have hst : upd (encS (bldS tb e xs)) 1000000 (some (some (.bx tb [.sp 1000000, .sl .u 1000001]))) = encS (bldS tb e xs) := by
      funext k
      by_cases hk : k = 1000000
      · subst hk; rw [upd_self]; rfl
      · rw [upd_ne _ _ hk]
    rw [hst] at h1
    exact ⟨_, F, loc, vU, _, rfl, h1, hu _, rfl, rfl⟩
  · refine (hused b w (by rw [Lib.cell_of_heap hb]; rfl)).mono ?_
    rintro e' w' ⟨rfl, rfl⟩
    exact ⟨_, F, loc, vU, _, rfl, hS, hu _, rfl, rfl⟩
/-- are they bytes? -/
def byteB (xs : List Int) : Bool := xs.all fun n => decide (0 ≤ n) && decide (n < 256)
omit [Mo] in
theorem byteB_cells {xs : List Int} (h : byteB xs = true) : (xs.map fun n => Value.int .u8 n) = Lib.byteCells (xs.map fun n => UInt8.ofNat n.toNat) := by
  unfold Lib.byteCells
  rw [List.map_map]
  refine List.map_congr_left fun n hn => ?_
  have := List.all_eq_true.1 h n hn
  simp only [Bool.and_eq_true, decide_eq_true_eq] at this
  simp only [Function.comp_apply, UInt8.toNat_ofNat']
  congr 1
  omega
/-- the same, the buffer first -/
def bldR (tb e : TypeId) (xs : List Int) : XS := [(1000001, some (.ar e byteRow xs)), (1000000, some (.bx tb [.sp 1000000, .sl .u 1000001]))]
omit [Mo] in
theorem mark2 (n5 m : Nat) (fr : Nat × Nat) (h : n5 < 1000000) : marked (n5 + 2000000) m n5 fr := .inr ⟨by omega, by omega, fun h' => absurd h' (by omega)⟩
/-- String: its bytes; the buffer is none's to write any more -/
theorem CTx.builderStr (L : Lays.n169 P ρ) (X : Builder.Extra P ρ) {e : TypeId} (he : e = ρ.t 5 ∨ e = ρ.t 5 + 2000000) (h5 : ρ.t 5 < 1000000) (htb : Nat.blt (ρ.t 72) 3000000 = true) {xs : List Int} (hby : byteB xs = true) : CTx P (ρ.f 169) [.pt 1000000 0] (bldS (ρ.t 72) e xs) (.s (strOfNums xs)) (bldR (ρ.t 72) (ρ.t 5 + 2000000) xs) := by
  intro F loc w args hn hS hA
  obtain ⟨b, g, cap, p, cells, hlb, hlg, hb, hp, hown, hn0, hcells⟩ := bld_at htb hS
  obtain ⟨v0, hv0, r0⟩ := hA.2 0 _ rfl
  have hv0' := relV_pt r0 hlb
  have hargs : args = [.pointer (some ⟨b, 0, none⟩)] := by
    have hlen := hA.1
    match args, hlen, hv0 with
    | [a], _, hv0 => cases hv0; rw [hv0']
  subst hargs
  -- the buffer's block
  have hbuf : ∀ g0, g = some g0 → ∃ cur fr, w.heap[g0]? = some (.cells cur (ρ.t 5) fr) ∧ xs.length ≤ cap ∧ cap ≤ maxLen ∧ cur.size = cap * 1 ∧ cur.toList.take (xs.length * 1) = cells := by
    rintro g0 rfl
    rcases ownsR_out hown with ⟨h, _⟩ | ⟨g', cap', cur, te, fr, hv, h2, hm, h3, h4, h5', h6⟩
    · cases h
    · cases hv
      have key : ∀ (e te n5 : Nat), (e = n5 ∨ e = n5 + 2000000) → n5 < 1000000 → ((te = e ∧ e < 1000000) ∨ (1000000 ≤ e ∧ te = e % 1000000)) → te = n5 := by
        intro e te n5 h1 h2 h3
        rcases h1 with h1 | h1 <;> rcases h3 with ⟨h3, h4⟩ | ⟨h3, h4⟩ <;> omega
      have hte : te = ρ.t 5 := key e te (ρ.t 5) he h5 (hm.imp (fun h => ⟨h.1, h.2.2⟩) (fun h => ⟨h.1, h.2.1⟩))
      subst hte
      exact ⟨cur, fr, h2, h3, h4, h5', h6⟩
  have h0c : encS (bldS (ρ.t 72) e xs) 1000001 = some (some (.ar e 1 (xs.map byteRow.en))) := rfl
  obtain ⟨g', cap'', cells', hlg', _, hrl, _, hone, hrow⟩ := hS.row (o := 1000001) (by unfold Mc.get; rw [h0c])
  rw [hlg] at hlg'
  have hml : (xs.map byteRow.en).length = xs.length := List.length_map _
  have done : ∀ w', (∀ k, k < w.heap.size → g ≠ some k → w'.heap[k]? = w.heap[k]?) → (∀ g0 cur fr, g = some g0 → w.heap[g0]? = some (.cells cur (ρ.t 5) fr) → ∃ fr', w'.heap[g0]? = some (.cells cur (ρ.t 5) fr')) → w.heap.size ≤ w'.heap.size → w'.os = w.os → w'.tape = w.tape → w'.output = w.output → w.drawn ≤ w'.drawn →
      ∃ v F' loc' r s', Ending.returned (.string (strOfNums xs)) = .returned v ∧ RelS noG (baseOf loc w F hn) w' F' loc' s' ∧ RelV w' F' loc' r v ∧ r = (Mc.X.s (strOfNums xs)).enc ∧ s' = encS (bldR (ρ.t 72) (ρ.t 5 + 2000000) xs) := by
    intro w' hot hgw hsz hos htp hout hdr
    have hk : Kept w F w' F := fun k hF => ⟨hF, hot k (hS.frz k hF).1 (fun e' => (hS.own 1000001 _ k hlg e').2.1 hF)⟩
    have hx : RelO w' F loc (some (.ar (ρ.t 5 + 2000000) 1 (xs.map byteRow.en))) (.arr g xs.length cap 1) := by
      have hr' : ∀ (i : Nat) (r : List T), (xs.map byteRow.en)[i]? = some r → ∀ (j : Nat) (x : T), r[j]? = some x → ∃ v, cells[i * 1 + j]? = some v ∧ RelT w' F x v := by
        intro i r hi j x hj
        have hi' : (xs.map fun n : Int => [T.sc (.int .u8 n)])[i]? = some r := hi
        rw [List.getElem?_map, Option.map_eq_some_iff] at hi'
        obtain ⟨n, hn', rfl⟩ := hi'
        cases j with
        | zero =>
          cases hj
          exact ⟨.int .u8 n, by rw [hcells, Nat.mul_one, Nat.add_zero, List.getElem?_map, hn']; rfl, .sc _ rfl⟩
        | succ j => simp at hj
      have h1' : ∀ u ∈ cells, u.oneCell' = true := by
        intro u hu
        rw [hcells] at hu
        obtain ⟨n, _, rfl⟩ := List.mem_map.1 hu
        rfl
      have := RelO.ar (w := w') (F := F) (loc := loc) (ρ.t 5 + 2000000) 1 (xs.map byteRow.en) g cap cells (by decide) hrl (by
        rw [hml]
        cases hgg : g with
        | none =>
          obtain ⟨h1, h2⟩ := hn0 hgg
          have hc0 : cells = [] := List.eq_nil_of_length_eq_zero (by have := ownsR_len hown; omega)
          rw [h1, h2, hc0]
          exact ownsR_nil w' _ 1
        | some g0 =>
          obtain ⟨cur, fr, k1, k2, k3, k4, k5⟩ := hbuf g0 hgg
          obtain ⟨fr', k6⟩ := hgw g0 cur fr hgg k1
          exact ownsR_in (by have := ownsR_len hown; omega) k6 (mark2 (ρ.t 5) _ fr' h5) k2 k3 k4 k5) h1' hr'
      rw [hml] at this
      exact this
    obtain ⟨h1, _⟩ := hS.become (o := 1000001) (w' := w') (x := .ar (ρ.t 5 + 2000000) 1 (xs.map byteRow.en)) hlg (fun k hk1 hk2 => hot k hk1 hk2) hsz hos htp hout hdr hx (fun m h => by rw [h0c] at h; cases h)
    refine ⟨_, F, _, _, _, rfl, h1, .t _ _ (.sc _ rfl), rfl, ?_⟩
    funext k
    by_cases hk1 : k = 1000001
    · subst hk1; rw [upd_self]; rfl
    · rw [upd_ne _ _ hk1]
      have b1 : Nat.beq 1000001 k = false := by rw [← Bool.not_eq_true, Nat.beq_eq]; exact Ne.symm hk1
      simp only [bldR, bldS, encS, lk, b1, cond_false]
  by_cases h0 : xs = []
  · subst h0
    refine (builderString0 L X b g cap p w hb (fun g0 hg0 => ?_) (fun h => (hn0 h).2)).mono ?_
    · obtain ⟨cur, fr, k1, _⟩ := hbuf g0 hg0
      exact ⟨cur, fr, k1⟩
    · rintro e' w' ⟨rfl, h | ⟨o, h⟩⟩
      · subst h
        exact done w.drew (fun _ _ _ => rfl) (fun g0 cur fr _ h => ⟨fr, h⟩) (Nat.le_refl _) rfl rfl rfl (Nat.le_succ _)
      · subst h
        exact done (w.alloc o).drew (fun k hk _ => heap_alloc_old w o hk) (fun g0 cur fr hg0 h => ⟨fr, (heap_alloc_old w o (by
          rcases Nat.lt_or_ge g0 w.heap.size with h' | h'
          · exact h'
          · simp [Array.getElem?_eq_none h'] at h)).trans h⟩) (by simp) rfl rfl rfl (Nat.le_succ _)
  · have hlen0 : 0 < xs.length := List.length_pos_iff.2 h0
    obtain ⟨g0, rfl⟩ : ∃ g0, g = some g0 := by
      cases g with
      | none => have := (hn0 rfl).1; omega
      | some g0 => exact ⟨g0, rfl⟩
    obtain ⟨cur, fr, hg, hnc, hcm, hcs, htake⟩ := hbuf g0 rfl
    have hll : (xs.map fun n => UInt8.ofNat n.toNat).length = xs.length := List.length_map _
    refine (builderString L X b g0 cap p cur fr (xs.map fun n => UInt8.ofNat n.toNat) w (by rw [hll]; exact hb) hg (by rw [hll]; exact hnc) hcm (by omega) (by rw [hll, ← byteB_cells hby, ← hcells, ← htake, Nat.mul_one]) (by simpa using h0)).mono ?_
    rintro e' w' ⟨rfl, rfl⟩
    have hne : xs.length ≠ 0 := by omega
    have hfr : ∀ k, k ≠ g0 → (w.drew.freeze ⟨g0, 0, none⟩ xs.length).heap[k]? = w.heap[k]? := by
      intro k hk
      unfold World.freeze
      rw [if_neg hne]
      simp only [Array.getElem?_modify]
      rw [if_neg (Ne.symm hk)]
      rfl
    rw [hll]
    refine done _ (fun k _ hk => hfr k (fun e => hk (by rw [e]))) (fun g1 cur1 fr1 hg1 h => ?_) ?_ ?_ ?_ ?_ ?_
    · cases hg1
      refine ⟨if fr1.1 == fr1.2 then (0, 0 + xs.length) else (min fr1.1 0, max fr1.2 (0 + xs.length)), ?_⟩
      unfold World.freeze
      rw [if_neg hne]
      simp only [Array.getElem?_modify, if_true]
      have h' : w.drew.heap[g0]? = some (.cells cur1 (ρ.t 5) fr1) := h
      rw [h']; rfl
    all_goals (unfold World.freeze; rw [if_neg hne]; first | rfl | exact Nat.le_succ _ | simp)
end Go.Proofs.YtobfoiomjfdjjaaDoor.Mc

/- THE MACHINE (64): slices.Sort of whole numbers, by its proved contract. -/
namespace Go.Proofs.YtobfoiomjfdjjaaDoor.Mc
open Go.RowKit Go.Sort
variable {P : Program}
variable [Mo]
/-- a row of one cell each, sorted, in the world that the sort leaves -/
theorem RelS.sorted1 {B : Base} {w : World} {F : Nat → Prop} {loc : Nat → Option Loc} {s : Store} (hS : RelS noG B w F loc s) {α : Type} [Inhabited α] {en : α → Value} (hp : ∀ x, plain (en x) = true) {o e : Nat} {rows : List (List T)} {g cap : Nat} {cells : List Value} {D : Array α} {n : Nat} {os : Array Obj}
    (he1 : e < 1000000) (ho : loc o = some (.arr (some g) rows.length cap 1)) (hown : w.ownsRow 0 e 1 (.slice (some ⟨g, 0, none⟩) rows.length cap) rows.length cells) (hD : D.size = rows.length) :
    RelS noG B (sortWorld en w g 0 n D os) F loc (upd s o (some (some (.ar e 1 (D.toList.map fun x => [T.sc (en x)]))))) := by
  obtain ⟨cur, hg, hnc, hcm, hcs, htake⟩ : ∃ cur, w.heap[g]? = some (.cells cur e (0, 0)) ∧ rows.length ≤ cap ∧ cap ≤ maxLen ∧ cur.size = cap * 1 ∧ cur.toList.take (rows.length * 1) = cells := by
    rcases hown.2 with ⟨h, _⟩ | ⟨g', cap', cur, hv, _, h2, h3, h4, h5, h6⟩
    · cases h
    · cases hv; exact ⟨cur, h2, h3, h4, h5, h6⟩
  let w1 := putRow en w g 0 D
  have hg1 : w1.heap[g]? = some (.cells (putCells en 0 D cur) e (0, 0)) := by
    simp only [w1, putRow, mapBlock, Array.getElem?_modify, hg, if_true, Option.map_some, onCells]
  have hot : ∀ k, k ≠ g → w1.heap[k]? = w.heap[k]? := fun k hk => by
    simp only [w1, putRow, mapBlock, Array.getElem?_modify]
    rw [if_neg (Ne.symm hk)]
  have hcell : ∀ (i : Nat) (x : α), D[i]? = some x → (putCells en 0 D cur)[i]? = some (en x) := by
    intro i x hx
    have hi : i < D.size := (Array.getElem?_eq_some_iff.1 hx).1
    have hic : i < cur.size := by omega
    simp only [putCells, Array.getElem?_mapIdx, Array.getElem?_eq_getElem hic, Option.map_some, Nat.zero_add, Nat.zero_le, true_and, if_pos hi, Nat.sub_zero]
    rw [getElem!_pos D i hi]
    congr 2
    exact Option.some.inj ((Array.getElem?_eq_getElem hi).symm.trans hx)
  have hlen : (D.toList.map fun x => [T.sc (en x)]).length = rows.length := by rw [List.length_map, Array.length_toList]; exact hD
  have hx : RelO w1 F loc (some (.ar e 1 (D.toList.map fun x => [T.sc (en x)]))) (.arr (some g) rows.length cap 1) := by
    have := RelO.ar (w := w1) (F := F) (loc := loc) e 1 (D.toList.map fun x => [T.sc (en x)]) (some g) cap ((putCells en 0 D cur).toList.take rows.length) (by decide) (by
      intro r hr; obtain ⟨x, _, rfl⟩ := List.mem_map.1 hr; rfl) (by
      rw [hlen]
      refine ownsR_of ⟨?_, .inr ⟨g, cap, _, rfl, Nat.zero_le _, hg1, hnc, hcm, ?_, by rw [Nat.mul_one]⟩⟩ he1
      · simp [putCells]; omega
      · simp [putCells]; omega) (by
      intro u hu
      obtain ⟨i, hi⟩ := List.getElem?_of_mem hu
      rw [List.getElem?_take] at hi
      split at hi
      · rename_i hlt
        have hiD : i < D.size := by omega
        rw [Array.getElem?_toList, hcell i _ (Array.getElem?_eq_getElem hiD)] at hi
        cases hi; exact plain_one (hp _)
      · cases hi) (by
      intro i r hi j x hj
      rw [List.getElem?_map] at hi
      obtain ⟨y, hy, rfl⟩ := Option.map_eq_some_iff.1 hi
      rw [Array.getElem?_toList] at hy
      have hiD : i < D.size := (Array.getElem?_eq_some_iff.1 hy).1
      cases j with
      | zero =>
        cases hj
        refine ⟨en y, ?_, .sc _ (hp _)⟩
        rw [List.getElem?_take, if_pos (by omega), Nat.mul_one, Nat.add_zero, Array.getElem?_toList]
        exact hcell i y hy
      | succ j => simp at hj)
    rwa [hlen] at this
  obtain ⟨h1, hk⟩ := hS.turn (w' := w1) ho rfl (by simp [w1]) rfl rfl rfl hot hx (fun m h => by
    obtain ⟨l, h1, h2⟩ := hS.obs o _ h
    rw [ho] at h1
    cases h1; cases h2)
  refine h1.below (w' := sortWorld en w g 0 n D os) ?_ (fun _ => ?_)
  · have e : sortWorld en w g 0 n D os = grow (Go.Sort.ahead w1 n) os := by unfold sortWorld; rw [putRow_ahead]
    rw [e]
    exact ⟨rfl, rfl, rfl, by simp [grow], fun k hk => by simp only [grow, heap_ahead]; rw [Array.getElem?_append_left hk]⟩
  · show w1.drawn ≤ _
    simp [sortWorld, grow, w1]
def intRow : Row := .int .i64 .nil
def sortI (xs : List Int) : Option (List Int) := grd (decide (xs.length < 4611686018427387904)) (some (xs.mergeSort fun x y => decide (x ≤ y)))
/-- slices.Sort of whole numbers -/
theorem CTx.sortInt {ρ : Shelf.Ren} (L : Lays.n189 P ρ) (e : TypeId) (he1 : e < 1000000) {xs ys : List Int} (h : sortI xs = some ys) :
    CTx P (ρ.f 189) [.sl .u 1000000] [(1000000, some (.ar e intRow xs))] (.tp []) [(1000000, some (.ar e intRow ys))] := by
  obtain ⟨hlen, h⟩ := grd_out h
  cases h
  have hlen := of_decide_eq_true hlen
  intro F loc w args hn hS hA
  have ho : encS [(1000000, some (.ar e intRow xs))] 1000000 = some (some (.ar e 1 (xs.map intRow.en))) := rfl
  obtain ⟨b, cap, cells, hl, _, hrl, hownR, h1, hr⟩ := hS.row (o := 1000000) (e := e) (sz := 1) (rows := xs.map intRow.en) (by unfold Mc.get; rw [ho])
  have hown := ownsR_row hownR he1
  have hml : (xs.map intRow.en).length = xs.length := List.length_map _
  rw [hml] at hl hown
  obtain ⟨v0, hv0, r0⟩ := hA.2 0 _ rfl
  have hv0' := (relV_sl r0 hl).1
  have hargs : args = [.slice (b.map fun b => ⟨b, 0, none⟩) xs.length cap] := by
    have hlen := hA.1
    match args, hlen, hv0 with
    | [a], _, hv0 => cases hv0; rw [hv0']
  subst hargs
  cases xs with
  | nil =>
    refine (Any.slices_Sort_int_none L (b.map fun b => ⟨b, 0, none⟩) cap w).mono ?_
    rintro e' w' ⟨rfl, rfl⟩
    exact ⟨_, F, loc, vU, _, rfl, hS, .tp [] [] (fun _ => .nilIface) rfl (fun j hj => absurd hj (by simp)) (fun j x hj => by simp at hj), rfl, by rw [List.mergeSort_nil]⟩
  | cons x0 xs0 =>
    obtain ⟨g0, rfl⟩ := own_block (ownsR_of hown he1) (by simp)
    generalize hxs : x0 :: xs0 = xs at *
    have hgw := hS.own 1000000 _ g0 hl rfl
    have hH : Holds (Value.int .i64) w g0 0 xs.toArray := by
      intro j hj
      have hj' : j < xs.length := by simpa using hj
      obtain ⟨cur, hg, hnc, hcm, hcs, htake⟩ : ∃ cur, w.heap[g0]? = some (.cells cur e (0, 0)) ∧ xs.length ≤ cap ∧ cap ≤ maxLen ∧ cur.size = cap * 1 ∧ cur.toList.take (xs.length * 1) = cells := by
        rcases hown.2 with ⟨h, _⟩ | ⟨g', cap', cur, hv, _, h2, h3, h4, h5, h6⟩
        · cases h
        · cases hv; exact ⟨cur, h2, h3, h4, h5, h6⟩
      obtain ⟨u, hu, hrel⟩ := hr j [.sc (.int .i64 xs[j])] (by
        have e : (xs.map fun s => [T.sc (.int .i64 s)])[j]? = some [T.sc (.int .i64 xs[j])] := by rw [List.getElem?_map, List.getElem?_eq_getElem hj']; rfl
        exact e) 0 (.sc (.int .i64 xs[j])) rfl
      have hu' : u = .int .i64 xs[j] := by cases hrel; rfl
      subst hu'
      refine ⟨?_, ?_⟩
      · have := own_cell (ownsR_of hown he1) (g := g0) rfl hu
        rw [Nat.mul_one, Nat.add_zero] at this
        rw [Nat.zero_add, this, getElem!_pos xs.toArray j hj]
        rfl
      · simp [World.frozen?, hg]
    refine (calls_of_every_depth fun D => AnyS.slices_Sort_int_alone L D g0 0 cap xs w hH hgw.1 hlen).mono ?_
    rintro e' w' ⟨rfl, n, os, rfl⟩
    have hsd := hS.sorted1 (he1 := he1) (α := Int) (en := Value.int .i64) (fun _ => rfl) (o := 1000000) (e := e) (rows := xs.map intRow.en) (g := g0) (cap := cap) (cells := cells) (D := (xs.mergeSort fun x y => decide (x ≤ y)).toArray) (n := n) (os := os) (by rw [hml]; exact hl) (by rw [hml]; exact hown) (by rw [hml, List.size_toArray, List.length_mergeSort])
    have hst : upd (encS [(1000000, some (.ar e intRow xs))]) 1000000 (some (some (.ar e 1 (((xs.mergeSort fun x y => decide (x ≤ y)).toArray).toList.map fun x => [T.sc (.int .i64 x)])))) = encS [(1000000, some (.ar e intRow (xs.mergeSort fun x y => decide (x ≤ y))))] := by
      funext k
      by_cases hk : k = 1000000
      · subst hk
        rw [upd_self]
        rfl
      · rw [upd_ne _ _ hk]
        have hb : Nat.beq 1000000 k = false := by rw [← Bool.not_eq_true, Nat.beq_eq]; exact Ne.symm hk
        simp only [encS, lk, hb, cond_false]
    rw [hst] at hsd
    exact ⟨_, F, loc, vU, _, rfl, hsd, .tp [] [] (fun _ => .nilIface) rfl (fun j hj => absurd hj (by simp)) (fun j x hj => by simp at hj), rfl, rfl⟩
end Go.Proofs.YtobfoiomjfdjjaaDoor.Mc

/- THE MACHINE (65): slices.SortFunc of rows of several cells, by its proved contract. -/
namespace Go.Proofs.YtobfoiomjfdjjaaDoor.Mc
open Go.RowKit Go.Sort
variable {P : Program}
/-- cells that stand for a row -/
def RowV (W : World) (F : Nat → Prop) (ts : List T) (vs : List Value) : Prop := ts.length = vs.length ∧ ∀ (j : Nat) (x : T), ts[j]? = some x → ∃ v, vs[j]? = some v ∧ RelT W F x v
theorem RowV.mono {w w' : World} {F F' : Nat → Prop} (hk : Kept w F w' F') {ts : List T} {vs : List Value} (h : RowV w F ts vs) : RowV w' F' ts vs :=
  ⟨h.1, fun j x hj => by obtain ⟨v, h1, h2⟩ := h.2 j x hj; exact ⟨v, h1, h2.mono hk⟩⟩
theorem relV_row {W : World} {F : Nat → Prop} {loc : Nat → Option Loc} {r : Row} {a : r.den} {vs : List Value} (h : RowV W F (r.en a) vs) : RelV W F loc (X.enc (.ag (r.cells a))) (.agg vs.toArray) := by
  have e : X.enc (.ag (r.cells a)) = .ag ((r.en a).map .t) := by
    show V.ag (encL (r.cells a)) = _
    rw [encL_map, Row.cells_enc]
  rw [e]
  refine .ag _ vs (fun j => vs.getD j undef) (by rw [List.length_map]; exact h.1) (fun j hj => ?_) (fun j x hj => ?_)
  · rw [List.length_map, h.1] at hj
    rw [List.getD_eq_getElem?_getD, List.getElem?_eq_getElem hj]; rfl
  · rw [List.getElem?_map] at hj
    obtain ⟨y, hy, rfl⟩ := Option.map_eq_some_iff.1 hj
    obtain ⟨v, h1, h2⟩ := h.2 j y hy
    rw [List.getD_eq_getElem?_getD, h1]
    exact .t _ _ h2
/-- a function's contract as the world that it leaves: of two rows -/
theorem CTx.growsR {g : FuncId} {r : Row} {a b : r.den} {n : Int} (h : @CTx ⟨true⟩ P g [.ag (r.cells a), .ag (r.cells b)] [] (.i .i64 n) []) {W : World} {F : Nat → Prop} {va vb : List Value} (hfz : ∀ k, F k → k < W.heap.size)
    (hgl : ∀ g cells, noG g = some cells → F g ∧ ∃ val : Nat → Value, (∀ j, j < cells.length → W.cell? ⟨g, j, none⟩ = some (val j)) ∧ ∀ (j : Nat) (x : T), cells[j]? = some x → RelT W F x (val j))
    (ra : RowV W F (r.en a) va) (rb : RowV W F (r.en b) vb) :
    Calls P g #[.agg va.toArray, .agg vb.toArray] W fun e w' => e = .returned (.int .i64 n) ∧ ∃ q os', w' = grow (W.drewN q) os' := by
  letI : Mo := ⟨true⟩
  have hno : ∀ (o : Nat) (l : Loc), (fun _ => none : Nat → Option Loc) o = some l → 1000000 ≤ o := fun _ _ h => by cases h
  have hS : RelS noG (baseOf (fun _ => none) W F hno) W F (fun _ => none) (encS []) := by
    refine ⟨?_, ?_, ?_, ?_, fun b hb => ⟨hfz b hb, .inl hb⟩, fun b hb => hb, rfl, rfl, rfl, Nat.le_refl _, fun _ _ _ => rfl, ?_, hgl, fun _ => Nat.le_refl _⟩
    · intro o obj ho; exact absurd (show (none : Option (Option O)) = some obj from ho) (by simp)
    · intro o l hl; cases hl
    · intro o o' l l' b h1; cases h1
    · intro o l b h1; cases h1
    · intro o l ho; cases ho
  have hA : RelL W F (fun _ => none) ([X.ag (r.cells a), X.ag (r.cells b)].map X.enc) [.agg va.toArray, .agg vb.toArray] := by
    refine ⟨rfl, fun j x hj => ?_⟩
    match j, hj with
    | 0, hj => cases hj; exact ⟨_, rfl, relV_row ra⟩
    | 1, hj => cases hj; exact ⟨_, rfl, relV_row rb⟩
    | j + 2, hj => simp at hj
  refine (h F (fun _ => none) W [.agg va.toArray, .agg vb.toArray] hno hS hA).mono ?_
  rintro e w' ⟨v, F', loc', r', s', rfl, hS', hr, rfl, rfl⟩
  have hv : v = .int .i64 n := relV_sc hr
  subst hv
  refine ⟨rfl, w'.drawn - W.drawn, w'.heap.extract W.heap.size w'.heap.size, ?_⟩
  have hd : W.drawn ≤ w'.drawn := hS'.drw rfl
  have hsz : W.heap.size ≤ w'.heap.size := hS'.size
  have hk : ∀ k, k < W.heap.size → w'.heap[k]? = W.heap[k]? := fun k hk => hS'.keep k hk fun ⟨o, l, h, _⟩ => by cases h
  have e1 := hS'.os
  have e2 := hS'.tape
  have e3 := hS'.output
  obtain ⟨heap', tape', drawn', os', output'⟩ := w'
  simp only at e1 e2 e3 hd hsz hk
  subst e1 e2 e3
  have eh : heap' = W.heap ++ heap'.extract W.heap.size heap'.size := by
    apply Array.ext_getElem?
    intro k
    by_cases hk' : k < W.heap.size
    · rw [Array.getElem?_append_left hk']; exact hk k hk'
    · rw [Array.getElem?_append_right (by omega), Array.getElem?_extract]
      by_cases hk2 : k < heap'.size
      · rw [if_pos (by omega)]; congr 1; omega
      · rw [if_neg (by omega), Array.getElem?_eq_none (by omega)]
  simp only [grow, World.drewN]
  congr 1
  omega
variable [Mo]
/-- a row of several cells each, with its cells anew -/
theorem RelS.sortedK {B : Base} {w : World} {F : Nat → Prop} {loc : Nat → Option Loc} {s : Store} (hS : RelS noG B w F loc s) {o e sz : Nat} {rows rows' : List (List T)} {g cap : Nat} {cells : List Value} {C : Array Value} {n : Nat} {os : Array Obj}
    (he1 : e < 1000000) (hz : 0 < sz) (ho : loc o = some (.arr (some g) rows.length cap sz)) (hown : w.ownsRow 0 e sz (.slice (some ⟨g, 0, none⟩) rows.length cap) rows.length cells) (hC : C.size = rows.length * sz)
    (hl : rows'.length = rows.length) (hsz : ∀ r ∈ rows', r.length = sz) (h1 : ∀ u ∈ C.toList, u.oneCell' = true)
    (hr : ∀ (i : Nat) (r : List T), rows'[i]? = some r → ∀ (j : Nat) (x : T), r[j]? = some x → ∃ v, C[i * sz + j]? = some v ∧ RelT w F x v) :
    RelS noG B (sortWorld id w g 0 n C os) F loc (upd s o (some (some (.ar e sz rows')))) := by
  have hg0 := hS.own o _ g ho rfl
  obtain ⟨cur, hg, hnc, hcm, hcs, htake⟩ : ∃ cur, w.heap[g]? = some (.cells cur e (0, 0)) ∧ rows.length ≤ cap ∧ cap ≤ maxLen ∧ cur.size = cap * sz ∧ cur.toList.take (rows.length * sz) = cells := by
    rcases hown.2 with ⟨h, _⟩ | ⟨g', cap', cur, hv, _, h2, h3, h4, h5, h6⟩
    · cases h
    · cases hv; exact ⟨cur, h2, h3, h4, h5, h6⟩
  have hmul : rows.length * sz ≤ cap * sz := Nat.mul_le_mul_right _ hnc
  let w1 := putRow id w g 0 C
  have hg1 : w1.heap[g]? = some (.cells (putCells id 0 C cur) e (0, 0)) := by
    simp only [w1, putRow, mapBlock, Array.getElem?_modify, hg, if_true, Option.map_some, onCells]
  have hot : ∀ k, k ≠ g → w1.heap[k]? = w.heap[k]? := fun k hk => by
    simp only [w1, putRow, mapBlock, Array.getElem?_modify]
    rw [if_neg (Ne.symm hk)]
  have hkept : Kept w F w1 F := fun b hb => ⟨hb, hot b (fun e => hg0.2.1 (e ▸ hb))⟩
  have hcell : ∀ (i : Nat) (x : Value), C[i]? = some x → (putCells id 0 C cur)[i]? = some x := by
    intro i x hx
    have hi : i < C.size := (Array.getElem?_eq_some_iff.1 hx).1
    have hic : i < cur.size := by omega
    simp only [putCells, Array.getElem?_mapIdx, Array.getElem?_eq_getElem hic, Option.map_some, Nat.zero_add, Nat.zero_le, true_and, if_pos hi, Nat.sub_zero, id]
    rw [getElem!_pos C i hi]
    exact (Array.getElem?_eq_getElem hi).symm.trans hx
  have hx : RelO w1 F loc (some (.ar e sz rows')) (.arr (some g) rows.length cap sz) := by
    have := RelO.ar (w := w1) (F := F) (loc := loc) e sz rows' (some g) cap ((putCells id 0 C cur).toList.take (rows.length * sz)) hz hsz (by
      rw [hl]
      refine ownsR_of ⟨?_, .inr ⟨g, cap, _, rfl, Nat.zero_le _, hg1, hnc, hcm, ?_, rfl⟩⟩ he1
      · simp [putCells]; omega
      · simp [putCells]; omega) (by
      intro u hu
      obtain ⟨i, hi⟩ := List.getElem?_of_mem hu
      rw [List.getElem?_take] at hi
      split at hi
      · rename_i hlt
        have hiD : i < C.size := by omega
        rw [Array.getElem?_toList, hcell i _ (Array.getElem?_eq_getElem hiD)] at hi
        cases hi
        exact h1 _ (by simp)
      · cases hi) (by
      intro i r hi j x hj
      obtain ⟨v, hv, hrel⟩ := hr i r hi j x hj
      have hil : i < rows.length := by rw [← hl]; exact (List.getElem?_eq_some_iff.1 hi).1
      have hjl : j < sz := by rw [← hsz r (List.mem_of_getElem? hi)]; exact (List.getElem?_eq_some_iff.1 hj).1
      refine ⟨v, ?_, hrel.mono hkept⟩
      rw [List.getElem?_take, if_pos (row_lt hil hjl), Array.getElem?_toList]
      exact hcell _ _ hv)
    rwa [hl] at this
  obtain ⟨h1, hk⟩ := hS.turn (w' := w1) ho rfl (by simp [w1]) rfl rfl rfl hot hx (fun m h => by
    obtain ⟨l, h1, h2⟩ := hS.obs o _ h
    rw [ho] at h1
    cases h1; cases h2)
  refine h1.below (w' := sortWorld id w g 0 n C os) ?_ (fun _ => ?_)
  · have e : sortWorld id w g 0 n C os = grow (Go.Sort.ahead w1 n) os := by unfold sortWorld; rw [putRow_ahead]
    rw [e]
    exact ⟨rfl, rfl, rfl, by simp [grow], fun k hk => by simp only [grow, heap_ahead]; rw [Array.getElem?_append_left hk]⟩
  · show w1.drawn ≤ _
    simp [sortWorld, grow, w1]
def ltk {α : Type} (cmp : α → α → Option Int) (x y : α) : Bool := match cmp x y with | some n => decide (n < 0) | none => false
structure SortOkK {α : Type} (cmp : α → α → Option Int) (xs : List α) : Prop where
  some : ∀ a ∈ xs, ∀ b ∈ xs, ∃ n, cmp a b = some n
  irrefl : ∀ a ∈ xs, ltk cmp a a = false
  trans : ∀ a ∈ xs, ∀ b ∈ xs, ∀ c ∈ xs, ltk cmp a b = true → ltk cmp b c = true → ltk cmp a c = true
  ntrans : ∀ a ∈ xs, ∀ b ∈ xs, ∀ c ∈ xs, ltk cmp a b = false → ltk cmp b c = false → ltk cmp a c = false
  apart : xs.Pairwise fun a b => ltk cmp a b = true ∨ ltk cmp b a = true
  size : xs.length < 4611686018427387904
noncomputable def sortK {α : Type} (cmp : α → α → Option Int) (xs : List α) : Option (List α) :=
  open Classical in if SortOkK cmp xs then some (xs.mergeSort fun x y => !(ltk cmp y x)) else none
omit [Mo] in
theorem sortK_out {α : Type} {cmp : α → α → Option Int} {xs ys : List α} (h : sortK cmp xs = some ys) : SortOkK cmp xs ∧ ys = xs.mergeSort fun x y => !(ltk cmp y x) := by
  unfold sortK at h
  split at h
  · cases h; exact ⟨by assumption, rfl⟩
  · cases h
omit [Mo] in
theorem sortK_of {α : Type} {cmp : α → α → Option Int} {xs : List α} (h : SortOkK cmp xs) : sortK cmp xs = some (xs.mergeSort fun x y => !(ltk cmp y x)) := by
  unfold sortK; rw [if_pos h]
/-- slices.SortFunc of rows -/
theorem CTx.sortFuncK {ρ : Shelf.Ren} (L : SlLaysF0.n6 P ρ) {r : Row} (aE : ∀ w, (isAgg (ρ.t 24)).run P w = .ok true w) (zE : ∀ w, (Go.sizeOf (ρ.t 24)).run P w = .ok r.len w) (hz : 0 < r.len) {g : FuncId} (eg : ∀ args w, (callFunc g args).run P w = .ok (.enter g args) w)
    {cmp : r.den → r.den → Option Int} (hc : ∀ a b n, cmp a b = some n → @CTx ⟨true⟩ P g [.ag (r.cells a), .ag (r.cells b)] [] (.i .i64 n) []) (e : TypeId) (he1 : e < 1000000) {xs ys : List r.den} (h : sortK cmp xs = some ys) :
    CTx P (ρ.f 6) [.sl .u 1000000, .c (.func (.func g) #[] #[])] [(1000000, some (.ar e r xs))] (.tp []) [(1000000, some (.ar e r ys))] := by
  obtain ⟨hok, rfl⟩ := sortK_out h
  intro F loc w args hn hS hA
  have ho : encS [(1000000, some (.ar e r xs))] 1000000 = some (some (.ar e r.len (xs.map r.en))) := rfl
  obtain ⟨b, cap, cells, hl, _, hrl, hownR, h1, hr⟩ := hS.row (o := 1000000) (e := e) (sz := r.len) (rows := xs.map r.en) (by unfold Mc.get; rw [ho])
  have hown := ownsR_row hownR he1
  have hml : (xs.map r.en).length = xs.length := List.length_map _
  rw [hml] at hl hown
  obtain ⟨v0, hv0, r0⟩ := hA.2 0 _ rfl
  obtain ⟨v1, hv1, r1⟩ := hA.2 1 _ rfl
  have hv0' := (relV_sl r0 hl).1
  have hv1' : v1 = .func (.func g) #[] #[] := relV_sc r1
  have hargs : args = [.slice (b.map fun b => ⟨b, 0, none⟩) xs.length cap, .func (.func g) #[] #[]] := by
    have hlen := hA.1
    match args, hlen, hv0, hv1 with
    | [a, c], _, hv0, hv1 => cases hv0; cases hv1; rw [hv0', hv1']
  subst hargs
  by_cases hx0 : xs.length = 0
  · obtain rfl := List.eq_nil_of_length_eq_zero hx0
    refine (AnyF.slices_SortFunc_none L (b.map fun b => ⟨b, 0, none⟩) cap (.func (.func g) #[] #[]) w).mono ?_
    rintro e' w' ⟨rfl, rfl⟩
    exact ⟨_, F, loc, vU, _, rfl, hS, .tp [] [] (fun _ => .nilIface) rfl (fun j hj => absurd hj (by simp)) (fun j x hj => by simp at hj), rfl, by rw [List.mergeSort_nil]⟩
  · obtain ⟨g0, rfl⟩ := own_block (ownsR_of hown he1) (by omega)
    let α := Fin xs.length
    haveI : Inhabited α := ⟨⟨0, by omega⟩⟩
    let d : Array α := (List.finRange xs.length).toArray
    let cf : α → α → Int := fun x y => (cmp xs[x.1] xs[y.1]).getD 0
    have hcf : ∀ x y : α, cmp xs[x.1] xs[y.1] = some (cf x y) := fun x y => by
      obtain ⟨n, hn⟩ := hok.some xs[x.1] (List.getElem_mem _) xs[y.1] (List.getElem_mem _)
      simp only [cf, hn, Option.getD_some]
    have hlt : ∀ x y : α, ltOf cf x y = ltk cmp xs[x.1] xs[y.1] := fun x y => by
      unfold ltOf ltk; rw [hcf x y]
    have hm : ∀ x : α, xs[x.1] ∈ xs := fun x => List.getElem_mem _
    have hO : SWO (ltOf cf) := ⟨fun x => by rw [hlt]; exact hok.irrefl _ (hm x), fun x y z => by simp only [hlt]; exact hok.trans _ (hm x) _ (hm y) _ (hm z), fun x y z => by simp only [hlt]; exact hok.ntrans _ (hm x) _ (hm y) _ (hm z)⟩
    have hT : ∀ x y : α, ltOf cf x y = false → ltOf cf y x = false → x = y := fun x y h1 h2 => by
      rw [hlt] at h1 h2
      rcases Nat.lt_trichotomy x.1 y.1 with h | h | h
      · rcases List.pairwise_iff_getElem.1 hok.apart x.1 y.1 x.2 y.2 h with q | q
        · rw [h1] at q; cases q
        · rw [h2] at q; cases q
      · exact Fin.ext h
      · rcases List.pairwise_iff_getElem.1 hok.apart y.1 x.1 y.2 x.2 h with q | q
        · rw [h2] at q; cases q
        · rw [h1] at q; cases q
    have hds : d.size = xs.length := by show (List.finRange xs.length).toArray.size = _; rw [List.size_toArray, List.length_finRange]
    have hcl : cells.length = xs.length * r.len := hown.1
    let en : α → List Value := fun x => (cells.drop (x.1 * r.len)).take r.len
    have hrow : ∀ x : α, x.1 * r.len + r.len ≤ xs.length * r.len := fun x => by
      have := Nat.mul_le_mul_right r.len (show x.1 + 1 ≤ xs.length from x.2)
      rw [Nat.add_mul, Nat.one_mul] at this; exact this
    have hk : ∀ x : α, (en x).length = r.len := fun x => by
      have := hrow x
      simp only [en, List.length_take, List.length_drop]; omega
    have hen : ∀ (x : α) (j : Nat), j < r.len → (en x)[j]? = cells[x.1 * r.len + j]? := fun x j hj => by
      simp only [en]
      rw [List.getElem?_take, if_pos hj, List.getElem?_drop]
    have hen1 : ∀ x : α, ∀ v ∈ en x, v.oneCell' = true := fun x v hv => h1 v (List.mem_of_mem_drop (List.mem_of_mem_take hv))
    have hrv : ∀ x : α, RowV w F (r.en xs[x.1]) (en x) := fun x => by
      have hxl : (r.en xs[x.1]).length = r.len := hrl _ (List.mem_map.2 ⟨_, hm x, rfl⟩)
      refine ⟨by rw [hxl, hk], fun j y hj => ?_⟩
      have hjl : j < r.len := by rw [← hxl]; exact (List.getElem?_eq_some_iff.1 hj).1
      rw [hen x j hjl]
      exact hr x.1 _ (by rw [List.getElem?_map, List.getElem?_eq_getElem x.2]; rfl) j y hj
    have hgw := hS.own 1000000 _ g0 hl rfl
    have hfzw : ∀ k, F k → k < w.heap.size := fun k hk => (hS.frz k hk).1
    have hflat : ∀ (D : Array α), D.size = xs.length → ∀ (i j : Nat) (hi : i < D.size), j < r.len → (flatK en r.len D)[i * r.len + j]? = cells[D[i].1 * r.len + j]? := by
      intro D hD i j hi hj
      have hlt : i * r.len + j < D.size * r.len := row_lt hi hj
      obtain ⟨q1, q2⟩ := div_row (i := i) hj
      rw [Array.getElem?_eq_getElem (by rw [size_flatK]; exact hlt), ← getElem!_pos _ _ (by rw [size_flatK]; exact hlt), get_flatK en r.len D _ hlt, q1, q2, getElem!_pos D i hi, ← hen D[i] j hj, getElem!_pos _ _ (by rw [hk]; exact hj), List.getElem?_eq_getElem]
    have hH : HoldsK en r.len w g0 0 d := by
      intro t ht
      rw [size_flatK, hds] at ht
      obtain ⟨cur, hg, hnc, hcm, hcs, htake⟩ : ∃ cur, w.heap[g0]? = some (.cells cur e (0, 0)) ∧ xs.length ≤ cap ∧ cap ≤ maxLen ∧ cur.size = cap * r.len ∧ cur.toList.take (xs.length * r.len) = cells := by
        rcases hown.2 with ⟨h, _⟩ | ⟨g', cap', cur, hv, _, h2, h3, h4, h5, h6⟩
        · cases h
        · cases hv; exact ⟨cur, h2, h3, h4, h5, h6⟩
      have hti : t / r.len < xs.length := Nat.div_lt_of_lt_mul (by rw [Nat.mul_comm]; exact ht)
      have htj : t % r.len < r.len := Nat.mod_lt _ hz
      have hte : t / r.len * r.len + t % r.len = t := by rw [Nat.mul_comm]; exact Nat.div_add_mod t r.len
      have hfl := hflat d hds (t / r.len) (t % r.len) (by omega) htj
      rw [hte] at hfl
      have hdi : (d[t / r.len]'(by omega)).1 = t / r.len := by
        show ((List.finRange xs.length).toArray[t / r.len]'_).1 = _
        rw [List.getElem_toArray, List.getElem_finRange]; rfl
      rw [hdi, hte] at hfl
      have hu : ∃ u, cells[t]? = some u := ⟨_, List.getElem?_eq_getElem (by omega)⟩
      obtain ⟨u, hu⟩ := hu
      refine ⟨?_, ?_⟩
      · have := own_cell (ownsR_of hown he1) (g := g0) rfl hu
        rw [Nat.zero_add, this]
        rw [hu] at hfl
        have hlt2 : t < (flatK en r.len d).size := by rw [size_flatK, hds]; exact ht
        rw [getElem!_pos (flatK en r.len d) t hlt2]
        rw [Array.getElem?_eq_getElem hlt2] at hfl
        exact hfl.symm
      · simp [World.frozen?, hg]
    let W := fun (m : Nat) (dk : Array α) (os : Array Obj) => sortWorldK en r.len w g0 0 m dk os
    have hW : ∀ m dk os k, k < w.heap.size → k ≠ g0 → (W m dk os).heap[k]? = w.heap[k]? := by
      intro m dk os k hk hne
      simp only [W, sortWorldK, grow, putRowK, putRow, mapBlock, heap_ahead]
      rw [Array.getElem?_append_left (by rw [Array.size_modify]; exact hk), Array.getElem?_modify, if_neg (Ne.symm hne)]
    have hWs : ∀ m dk os, w.heap.size ≤ (W m dk os).heap.size := fun m dk os => size_sortWorldK_c en r.len w g0 0 m dk os
    have hcmp : CmpLays P g #[] en r.len cf g0 0 d.size w := by
      intro m os dk hdk x y
      have hkp : Kept w F (W m dk os) F := fun k hk => ⟨hk, hW m dk os k (hfzw k hk) (fun e => hgw.2.1 (e ▸ hk))⟩
      have := CTx.growsR (hc _ _ _ (hcf x y)) (W := W m dk os) (F := F) (fun k hk => Nat.lt_of_lt_of_le (hfzw k hk) (hWs m dk os)) (fun g' cells' hg' => by
        obtain ⟨hF, val, h2, h3⟩ := hS.glob g' cells' hg'
        exact ⟨hF, val, fun j hj => (cell_of_block (w := w) (hkp g' hF).2).trans (h2 j hj), fun j z hj => (h3 j z hj).mono hkp⟩) ((hrv x).mono hkp) ((hrv y).mono hkp)
      exact this
    have hsort := AnyQ.slices_SortFunc_total L r.len aE zE en hk hen1 cf hO g #[] g0 0 cap d w eg hcmp hH hgw.1 (by rw [hds]; exact hok.size) hT
    rw [hds] at hsort
    refine Calls.mono hsort ?_
    rintro e' w' ⟨rfl, n, os, rfl⟩
    have hperm : (d.toList.mergeSort fun x y => !(ltOf cf) y x).length = xs.length := by rw [List.length_mergeSort, Array.length_toList, hds]
    have hmap : (d.toList.mergeSort fun x y => !(ltOf cf) y x).map (fun x : α => xs[x.1]) = xs.mergeSort fun x y => !(ltk cmp y x) := by
      rw [List.map_mergeSort (s := fun x y => !(ltk cmp y x)) (fun a _ b _ => by rw [hlt])]
      congr 1
      show ((List.finRange xs.length).toArray.toList).map _ = _
      rw [List.toList_toArray]
      exact List.ext_getElem (by simp) fun i h1 h2 => by simp
    obtain ⟨Dl, hDe⟩ : ∃ Dl, Dl = (d.toList.mergeSort fun x y => !(ltOf cf) y x) := ⟨_, rfl⟩
    rw [← hDe] at hperm hmap ⊢
    have hDs : Dl.toArray.size = xs.length := by rw [List.size_toArray]; exact hperm
    have hsd := hS.sortedK (he1 := he1) (hz := hz) (o := 1000000) (e := e) (sz := r.len) (rows := xs.map r.en) (rows' := Dl.map fun x => r.en xs[x.1]) (g := g0) (cap := cap) (cells := cells) (C := flatK en r.len Dl.toArray) (n := n) (os := os) (by rw [hml]; exact hl) (by rw [hml]; exact hown) (by rw [size_flatK, hml, hDs]) (by rw [List.length_map, hml]; exact hperm)
      (fun q hq => by
        obtain ⟨x, _, rfl⟩ := List.mem_map.1 hq
        exact hrl _ (List.mem_map.2 ⟨_, hm x, rfl⟩))
      (fun u hu => by
        obtain ⟨t, ht⟩ := List.getElem?_of_mem hu
        rw [Array.getElem?_toList] at ht
        have htl : t < xs.length * r.len := by
          have := (Array.getElem?_eq_some_iff.1 ht).1
          rwa [size_flatK, hDs] at this
        have hti : t / r.len < xs.length := Nat.div_lt_of_lt_mul (by rw [Nat.mul_comm]; exact htl)
        have hte : t / r.len * r.len + t % r.len = t := by rw [Nat.mul_comm]; exact Nat.div_add_mod t r.len
        have hfl := hflat Dl.toArray hDs (t / r.len) (t % r.len) (by omega) (Nat.mod_lt _ hz)
        rw [hte, ht] at hfl
        exact h1 u (List.mem_of_getElem? hfl.symm))
      (fun i q hi j x hj => by
        rw [List.getElem?_map] at hi
        obtain ⟨y, hy, rfl⟩ := Option.map_eq_some_iff.1 hi
        have hil : i < Dl.toArray.size := by rw [List.size_toArray]; exact (List.getElem?_eq_some_iff.1 hy).1
        have hxl : (r.en xs[y.1]).length = r.len := hrl _ (List.mem_map.2 ⟨_, hm y, rfl⟩)
        have hjl : j < r.len := by rw [← hxl]; exact (List.getElem?_eq_some_iff.1 hj).1
        have hfl := hflat Dl.toArray hDs i j hil hjl
        have hyi : Dl.toArray[i] = y := by
          rw [List.getElem_toArray]
          exact Option.some.inj ((List.getElem?_eq_getElem _).symm.trans hy)
        rw [hyi, ← hen y j hjl] at hfl
        rw [hfl]
        exact (hrv y).2 j x hj)
    have hst : upd (encS [(1000000, some (.ar e r xs))]) 1000000 (some (some (.ar e r.len (Dl.map fun x => r.en xs[x.1])))) = encS [(1000000, some (.ar e r (xs.mergeSort fun x y => !(ltk cmp y x))))] := by
      rw [← hmap]
      funext k
      by_cases hk : k = 1000000
      · subst hk
        rw [upd_self]
        show _ = some (some (O.ar e r.len (List.map r.en _)))
        rw [List.map_map]
        rfl
      · rw [upd_ne _ _ hk]
        have hb : Nat.beq 1000000 k = false := by rw [← Bool.not_eq_true, Nat.beq_eq]; exact Ne.symm hk
        simp only [encS, lk, hb, cond_false]
    rw [hst] at hsd
    exact ⟨_, F, loc, vU, _, rfl, hsd, .tp [] [] (fun _ => .nilIface) rfl (fun j hj => absurd hj (by simp)) (fun j x hj => by simp at hj), rfl, rfl⟩
end Go.Proofs.YtobfoiomjfdjjaaDoor.Mc
