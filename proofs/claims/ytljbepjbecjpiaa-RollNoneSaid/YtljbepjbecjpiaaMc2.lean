/- The machine: abstract values and stores, and the laws by which a walk goes through code. Its parts in order. -/
import Derived.Test.YtljbepjbecjpiaaMc1
import Derived.Orders
/- THE MACHINE (27): a function's walk begins and ends; stores by what is new in them; cells that hold nil. -/
namespace Go.Proofs.Ytljbepjbecjpiaa.Mc
open Go.RowKit
variable {P : Program} {G : Glob} {D : Dec}

def bodyOf (f : Func) : Code := match f.body with | some c => c | none => .skip
def noG : Glob := fun _ => none

theorem cond_t {β : Type} {c : Bool} {a b : Option β} {r : β} (h : c = true) (k : cond c a b = some r) : a = some r := by subst h; exact k
theorem cond_f {β : Type} {c : Bool} {a b : Option β} {r : β} (h : c = false) (k : cond c a b = some r) : b = some r := by subst h; exact k

def updS (s : Store) : List (Nat × O) → Store
  | [] => s
  | (d, x) :: l => updS (upd s d (some (some x))) l

/-- so many operations, and what is new behind them -/
theorem TrAt.goS (hg : Good P D) {ops : Array Oper} {i : Nat} (n : Nat) {t : Nat → V} {s : Store} {m : Nat} {a : List Nat} {Q : Exit → St → Prop} (dl : List (Nat × V)) (sl : List (Nat × O))
    (h : Mc.steps D G ops ((ops.toList.drop i).take n) ⟨t, s, m, a⟩ = some ⟨upds t dl, updS s sl, m, a⟩) (k : TrAt P G ops (i + n) ⟨upds t dl, updS s sl, m, a⟩ Q) : TrAt P G ops i ⟨t, s, m, a⟩ Q :=
  TrAt.go hg i n h k

/-- the end of a function -/
def finQ (D : Dec) (rs : List ResultVar) (r : V) (s : Store) : Exit → St → Prop
  | .normal, st => resV D st rs = some r ∧ st.s = s
  | .ret, st => resV D st rs = some r ∧ st.s = s
  | _, _ => False
theorem finQ_n {rs : List ResultVar} {r : V} {s : Store} {st : St} (h : resV D st rs = some r) (hs : st.s = s) : finQ D rs r s .normal st := ⟨h, hs⟩
theorem finQ_r {rs : List ResultVar} {r : V} {s : Store} {st : St} (h : resV D st rs = some r) (hs : st.s = s) : finQ D rs r s .ret st := ⟨h, hs⟩

/-- what a function computes: the result and the objects -/
def CTd (P : Program) (f : FuncId) (vs : List V) (L : List (Nat × O)) (r : V) (s1 : Store) : Prop := CT P noG f vs (stoL L) fun r' s' => r' = r ∧ s' = s1

theorem stoL_mem {L : List (Nat × O)} {n : Nat} {x : Option O} (h : stoL L n = some x) : n ∈ L.map (·.1) := by
  unfold stoL at h
  obtain ⟨p, hp, _⟩ := Option.map_eq_some_iff.1 h
  obtain ⟨h1, rfl⟩ := find_mem (ρ := L.map fun p => (p.1, 0)) (n := n) (p := (p.1, 0)) (by
    rw [List.find?_map, show (fun p : Nat × Nat => Nat.beq p.1 n) ∘ (fun p : Nat × O => (p.1, 0)) = fun p : Nat × O => Nat.beq p.1 n from rfl, hp]; rfl)
  obtain ⟨q, hq, he⟩ := List.mem_map.1 h1
  exact List.mem_map.2 ⟨q, hq, (Prod.mk.inj he).1⟩

theorem CTd.of_tr {f : FuncId} (fn : Func) {vs : List V} {L : List (Nat × O)} {r : V} {s1 : Store} (hf : P.funcs[f]? = some fn) (hb : fn.body = some (bodyOf fn))
    (h : Tr P noG (bodyOf fn) (st0 vs (stoL L) fn.ntmps (L.map (·.1))) (finQ (decOf P) fn.results.toList r s1)) : CTd P f vs L r s1 := by
  refine CT.of_tr (good_of P) hf hb (fun n x hn => stoL_mem hn) (Tr.mono h ?_)
  rintro e st hq
  cases e <;> first | exact ⟨_, hq.1, rfl, hq.2⟩ | exact hq.elim

/-- a call -/
theorem TrAt.callD {ops : Array Oper} {i : Nat} {t : Nat → V} {s : Store} {m : Nat} {a : List Nat} {Q : Exit → St → Prop} {f : FuncId} {fn : Func} {L : List (Nat × O)} {vs : List V} {r : V} {s1 : Store} {caps : List V} (d : Nat) (v : V) (ρ σ : Ren) (fop : Operand) (args : Array Operand) (ts : Array TypeId)
    (hct : CTd P f vs L r s1) (hfn : P.funcs[f]? = some fn) (ho : ops.toList[i]? = some (oA ops i)) (hw : want ops (oA ops i) ⟨t, s, m, a⟩ = some true) (hdd : (oA ops i).dst = some d) (hd : Nat.blt d m = true)
    (hop : (oA ops i).op = .call ⟨.value fop, args, ts⟩) (hf : fnOf (ev noG t fop) = some (f, caps)) (hname : (fn.name == "runtime.NumGoroutine") = false) (hb : fn.body.isSome = true)
    (hρ : okRen ρ = true) (hρn : (ρ.all fun p => Nat.ble 1000000 p.1) = true) (hL : handL ρ s ρ = some L) (hvs : renL (inv ρ) (args.toList.map (ev noG t) ++ caps) = vs)
    (hρσ : okRen (ρ ++ σ) = true) (hfr : (σ.all fun p => (s p.2).isNone) = true) (hv : r.ren (ren (ρ ++ σ)) = v)
    (k : TrAt P noG ops (i + 1) ⟨upd t d v, backS (ρ ++ σ) s1 s, m, a⟩ Q) : TrAt P noG ops i ⟨t, s, m, a⟩ Q :=
  TrAt.callP f fn ρ σ L vs r s1 d v ho hw hdd hd hop hf hfn hname hb hρ hρn hL hvs hct hρσ hfr hv k

/-- a nil slice in a slot, as data -/
theorem Conv.nilFz {t : Nat → V} {s : Store} {m : Nat} {a : List Nat} (i : Nat) (nl : Nl) (hi : t i = .t (.sc (.slice none 0 0))) (hn : (match nl with | .e => false | _ => true) = true) : Conv G ⟨t, s, m, a⟩ ⟨upd t i (.t (.fz nl [])), s, m, a⟩ :=
  Conv.slot (st := ⟨t, s, m, a⟩) fun w F loc v h => by
    have h' : RelV w F loc (t i) v := h
    rw [hi] at h'
    rw [relV_sc h']
    exact .t _ _ (.nil nl (by cases nl <;> first | (cases hn; done) | simp))

theorem Conv.nilSl {t : Nat → V} {s : Store} {m : Nat} {a : List Nat} (i d e sz : Nat) (hi : t i = .t (.sc (.slice none 0 0))) (hd : s d = none) (hz : Nat.blt 0 sz = true) : Conv G ⟨t, s, m, a⟩ ⟨upd t i (.sl .n d), upd s d (some (some (.ar e sz []))), m, a⟩ :=
  Conv.nilSlot (st := ⟨t, s, m, a⟩) hi hd hz

/-- weaker knowledge of nil -/
theorem relT_u {w : World} {F : Nat → Prop} {nl : Nl} {rows : List (List T)} {v : Value} (h : RelT w F (.fz nl rows) v) : RelT w F (.fz .u rows) v := by
  cases h with
  | nil _ h => exact .nil _ (by simp)
  | mt _ a cap h => exact .mt _ a cap (by simp)
  | fz _ _ sz b off cap val hF hn hz hsz hcap hc h1 hr => exact .fz _ rows sz b off cap val hF hn hz hsz hcap hc h1 hr
theorem Conv.fzU {t : Nat → V} {s : Store} {m : Nat} {a : List Nat} (i : Nat) (nl : Nl) (rows : List (List T)) (hi : t i = .t (.fz nl rows)) : Conv G ⟨t, s, m, a⟩ ⟨upd t i (.t (.fz .u rows)), s, m, a⟩ :=
  Conv.slot (st := ⟨t, s, m, a⟩) fun w F loc v h => by
    have h' : RelV w F loc (t i) v := h
    rw [hi] at h'
    cases h' with
    | gone _ o _ hx _ => cases hx
    | t _ _ h => exact .t _ _ (relT_u h)
theorem Conv.slU {t : Nat → V} {s : Store} {m : Nat} {a : List Nat} (i : Nat) (nl : Nl) (o : Nat) (hi : t i = .sl nl o) : Conv G ⟨t, s, m, a⟩ ⟨upd t i (.sl .u o), s, m, a⟩ :=
  Conv.slot (st := ⟨t, s, m, a⟩) fun w F loc v h => by
    have h' : RelV w F loc (t i) v := h
    rw [hi] at h'
    cases h' with
    | gone _ o _ hx ho => cases hx; exact .gone _ _ _ rfl ho
    | sl _ _ b n cap sz ho he hn h0 => exact .sl _ _ b n cap sz ho (by simp) (by simp) h0
theorem Conv.freezeP {t : Nat → V} {s : Store} {m : Nat} {a : List Nat} (o : Nat) (e sz : Nat) (rows : List (List T)) (ho : s o = some (some (.ar e sz rows))) :
    Conv G ⟨t, s, m, a⟩ ⟨fun i => (t i).frz o rows, fun n => cond (Nat.beq n o) (some none) ((s n).map (·.map (O.frz o rows))), m, a⟩ :=
  Conv.freeze (st := ⟨t, s, m, a⟩) (by show Mc.get s o = _; unfold Mc.get; rw [ho])
end Go.Proofs.Ytljbepjbecjpiaa.Mc

/- THE MACHINE (28): values that tell less. -/
namespace Go.Proofs.Ytljbepjbecjpiaa.Mc
open Go.RowKit
variable {P : Program} {G : Glob} {D : Dec}

mutual
inductive Weak : V → V → Prop where
  | refl (x : V) : Weak x x
  | nil (nl : Nl) (h : nl ≠ .e) : Weak (.t (.sc (.slice none 0 0))) (.t (.fz nl []))
  | fz (nl : Nl) (rows : List (List T)) : Weak (.t (.fz nl rows)) (.t (.fz .u rows))
  | sl (nl : Nl) (o : Nat) : Weak (.sl nl o) (.sl .u o)
  | dead (x : V) : Weak x .dead
  | ag (xs ys : List V) (h : WeakL xs ys) : Weak (.ag xs) (.ag ys)
  | tp (xs ys : List V) (h : WeakL xs ys) : Weak (.tp xs) (.tp ys)
  | ifc (t : TypeId) (x y : V) (h : Weak x y) : Weak (.ifc t x) (.ifc t y)
inductive WeakL : List V → List V → Prop where
  | nil : WeakL [] []
  | cons (x y : V) (xs ys : List V) (h : Weak x y) (hs : WeakL xs ys) : WeakL (x :: xs) (y :: ys)
end

theorem WeakL.get : ∀ {xs ys : List V}, WeakL xs ys → xs.length = ys.length ∧ ∀ (j : Nat) (y : V), ys[j]? = some y → ∃ x, xs[j]? = some x ∧ Weak x y
  | _, _, .nil => ⟨rfl, fun j y h => by simp at h⟩
  | _, _, .cons x y xs ys h hs => by
    obtain ⟨h1, h2⟩ := WeakL.get hs
    refine ⟨by simp [h1], fun j z hj => ?_⟩
    cases j with
    | zero => cases hj; exact ⟨x, rfl, h⟩
    | succ j => simpa using h2 j z (by simpa using hj)

theorem Weak.rel {w : World} {F : Nat → Prop} {loc : Nat → Option Loc} {x : V} {v : Value} (h : RelV w F loc x v) : ∀ {y : V}, Weak x y → RelV w F loc y v := by
  have lists : ∀ {xs ys : List V} {vs : List Value} {val : Nat → Value}, xs.length = vs.length → (∀ j, j < xs.length → vs[j]? = some (val j)) → (∀ (j : Nat) (x : V), xs[j]? = some x → ∀ {y : V}, Weak x y → RelV w F loc y (val j)) → WeakL xs ys →
      ys.length = vs.length ∧ (∀ j, j < ys.length → vs[j]? = some (val j)) ∧ ∀ (j : Nat) (y : V), ys[j]? = some y → RelV w F loc y (val j) := by
    intro xs ys vs val hl hv ih hW
    obtain ⟨h1, h2⟩ := hW.get
    refine ⟨by omega, fun j hj => hv j (by omega), fun j y hj => ?_⟩
    obtain ⟨x, hx, hw⟩ := h2 j y hj
    exact ih j x hx hw
  induction h with
  | t x v h =>
    intro y hW
    cases hW with
    | refl => exact .t x v h
    | nil nl hn => cases h; exact .t _ _ (.nil nl hn)
    | fz nl rows => exact .t _ _ (relT_u h)
    | dead => exact .dead _
  | gone x o v hx ho =>
    intro y hW
    cases hW with
    | refl => exact .gone x o v hx ho
    | nil nl hn => cases hx
    | fz nl rows => cases hx
    | sl nl o' => cases hx; exact .gone _ _ _ rfl ho
    | dead => exact .dead _
    | ag => cases hx
    | tp => cases hx
    | ifc => cases hx
  | dead v =>
    intro y hW
    cases hW <;> exact .dead _
  | sl nl o b n cap sz ho he hn h0 =>
    intro y hW
    cases hW with
    | refl => exact .sl nl o b n cap sz ho he hn h0
    | sl => exact .sl _ _ b n cap sz ho (by simp) (by simp) h0
    | dead => exact .dead _
  | sw o off len b n cap sz a ho hl ha h0 hn =>
    intro y hW
    cases hW with
    | refl => exact .sw o off len b n cap sz a ho hl ha h0 hn
    | dead => exact .dead _
  | pt o off b ho => intro y hW; cases hW with
    | refl => exact .pt o off b ho
    | dead => exact .dead _
  | pe o i off b n cap sz ho hi => intro y hW; cases hW with
    | refl => exact .pe o i off b n cap sz ho hi
    | dead => exact .dead _
  | pf cells off b o0 val hF hc hr => intro y hW; cases hW with
    | refl => exact .pf cells off b o0 val hF hc hr
    | dead => exact .dead _
  | mp o b ho => intro y hW; cases hW with
    | refl => exact .mp o b ho
    | dead => exact .dead _
  | it o b ho => intro y hW; cases hW with
    | refl => exact .it o b ho
    | dead => exact .dead _
  | fn f xs vs val hl hv h ih => intro y hW; cases hW with
    | refl => exact .fn f xs vs val hl hv h
    | dead => exact .dead _
  | ag xs vs val hl hv h ih => intro y hW; cases hW with
    | refl => exact .ag xs vs val hl hv h
    | dead => exact .dead _
    | ag _ ys hs =>
      obtain ⟨h1, h2, h3⟩ := lists hl hv ih hs
      exact .ag ys vs val h1 h2 h3
  | tp xs vs val hl hv h ih => intro y hW; cases hW with
    | refl => exact .tp xs vs val hl hv h
    | dead => exact .dead _
    | tp _ ys hs =>
      obtain ⟨h1, h2, h3⟩ := lists hl hv ih hs
      exact .tp ys vs val h1 h2 h3
  | ifc t x v h ih => intro y hW; cases hW with
    | refl => exact .ifc t x v h
    | dead => exact .dead _
    | ifc _ _ z hz => exact .ifc t z v (ih hz)

theorem Conv.weak {t : Nat → V} {s : Store} {m : Nat} {a : List Nat} (i : Nat) (x y : V) (hi : t i = x) (h : Weak x y) : Conv G ⟨t, s, m, a⟩ ⟨upd t i y, s, m, a⟩ :=
  Conv.slot (st := ⟨t, s, m, a⟩) fun w F loc v hv => by
    have hv' : RelV w F loc (t i) v := hv
    rw [hi] at hv'
    exact Weak.rel hv' h

/-- an object that tells less -/
theorem RelS.weakBox {B : Base} {w : World} {F : Nat → Prop} {loc : Nat → Option Loc} {s : Store} (hS : RelS G B w F loc s) {o e : Nat} {xs ys : List V} (ho : s o = some (some (.bx e xs))) (h : WeakL xs ys) :
    RelS G B w F loc (upd s o (some (some (.bx e ys)))) := by
  refine { hS with obs := ?_, dom := ?_ }
  · intro n obj hn
    by_cases hne : n = o
    · subst hne
      rw [upd_self] at hn
      cases hn
      obtain ⟨l, hl, hr⟩ := hS.obs n _ ho
      refine ⟨l, hl, ?_⟩
      cases hr with
      | bx _ _ cs b hb hlen hr =>
        obtain ⟨h1, h2⟩ := h.get
        refine .bx e ys cs b hb (by omega) fun j y hj => ?_
        obtain ⟨x, hx, hw⟩ := h2 j y hj
        obtain ⟨v, hv, h3, h4⟩ := hr j x hx
        exact ⟨v, hv, h3, Weak.rel h4 hw⟩
    · rw [upd_ne _ _ hne] at hn; exact hS.obs n obj hn
  · intro n l hl
    by_cases hne : n = o
    · subst hne; exact ⟨_, upd_self _ _ _⟩
    · obtain ⟨ob, h'⟩ := hS.dom n l hl
      exact ⟨ob, by rw [upd_ne _ _ hne]; exact h'⟩

theorem Conv.weakBox {t : Nat → V} {s : Store} {m : Nat} {a : List Nat} (o e : Nat) (xs ys : List V) (ho : s o = some (some (.bx e xs))) (h : WeakL xs ys) : Conv G ⟨t, s, m, a⟩ ⟨t, upd s o (some (some (.bx e ys))), m, a⟩ :=
  fun _ F loc _ _ hR => ⟨F, loc, hR.s.weakBox ho h, hR.t, hR.n, hR.a⟩

/-- a nil slice in a variable's cell: then an owned empty slice -/
theorem Conv.nilBox {t : Nat → V} {s : Store} {m : Nat} {a : List Nat} (o e0 : Nat) (xs : List V) (j d e sz : Nat) (ho : s o = some (some (.bx e0 xs))) (hj : xs[j]? = some (.t (.sc (.slice none 0 0)))) (hd : s d = none) (hz : Nat.blt 0 sz = true) :
    Conv G ⟨t, s, m, a⟩ ⟨t, upd (upd s d (some (some (.ar e sz [])))) o (some (some (.bx e0 (xs.set j (.sl .n d))))), m, a⟩ := by
  intro B F loc tmps w hR
  have hod : o ≠ d := by rintro rfl; rw [hd] at ho; cases ho
  obtain ⟨h1, h2⟩ := hR.s.nilRow (e := e) (s := s) hd (by simpa using hz)
  refine ⟨F, _, ?_, fun i => (hR.t i).mono (Kept.refl _ _) h2, hR.n, hR.a⟩
  refine { h1 with obs := ?_, dom := ?_ }
  · intro n obj hn
    by_cases hne : n = o
    · subst hne
      have hn' : upd (upd s d (some (some (.ar e sz [])))) n (some (some (.bx e0 (xs.set j (.sl .n d))))) n = some obj := hn
      rw [upd_self] at hn'
      cases hn'
      obtain ⟨l, hl, hr⟩ := h1.obs n _ (by rw [upd_ne _ _ hod]; exact ho)
      refine ⟨l, hl, ?_⟩
      cases hr with
      | bx _ _ cs b hb hlen hr =>
        refine .bx e0 _ cs b hb (by simpa using hlen) fun k y hk => ?_
        rw [List.getElem?_set] at hk
        split at hk
        · rename_i hjk
          subst hjk
          split at hk
          · cases hk
            obtain ⟨v, hv, h3, h4⟩ := hr j _ hj
            have := relV_sc h4
            subst this
            exact ⟨_, hv, h3, relV_nil (upd_self _ _ _) rfl⟩
          · cases hk
        · exact hr k y hk
    · have hn' : upd (upd s d (some (some (.ar e sz [])))) o (some (some (.bx e0 (xs.set j (.sl .n d))))) n = some obj := hn
      rw [upd_ne _ _ hne] at hn'; exact h1.obs n obj hn'
  · intro n l hl
    by_cases hne : n = o
    · subst hne; exact ⟨_, upd_self _ _ _⟩
    · obtain ⟨ob, h'⟩ := h1.dom n l hl
      refine ⟨ob, ?_⟩
      show upd (upd s d (some (some (.ar e sz [])))) o (some (some (.bx e0 (xs.set j (.sl .n d))))) n = _
      rw [upd_ne _ _ hne]; exact h'
end Go.Proofs.Ytljbepjbecjpiaa.Mc

/- THE MACHINE (29): laws with what is asked of an element in one test. -/
namespace Go.Proofs.Ytljbepjbecjpiaa.Mc
open Go.RowKit
variable {P : Program} {G : Glob} {D : Dec} {st : St} {o : Oper}

def okElem (D : Dec) (e : Nat) : Bool := D.has e && (match D.zero e with | some z => Nat.beq z.cells.size (D.size e) | none => false) && Nat.blt 0 (D.size e) && Nat.ble 1 (D.bytes e)

theorem okElem_spec {e : Nat} (h : okElem D e = true) : ∃ de z, D.und e = some de ∧ D.zero e = some z ∧ Nat.beq z.cells.size (D.size e) = true ∧ Nat.blt 0 (D.size e) = true ∧ Nat.ble 1 (D.bytes e) = true := by
  simp only [okElem, Bool.and_eq_true] at h
  obtain ⟨⟨⟨h1, h2⟩, h3⟩, h4⟩ := h
  obtain ⟨de, hde⟩ := has_some h1
  split at h2
  · rename_i z hz; exact ⟨de, z, hde, hz, h2, h3, h4⟩
  · cases h2

theorem apP_ok (hg : Good P D) {β : Type} {x y : Operand} {t e d : Nat} {nl : Nl} {enc : β → List T} {xs ys : List β} {oo : Option Nat}
    (hop : o.op = .call ⟨.builtin .append, #[x, y], #[t, t]⟩) (hu : D.und t = some (.slice e)) (he : okElem D e = true)
    (hd : st.s d = none) (htg : tgtV st.s e (D.size e) (ev G st.t x) = some (nl, xs.map enc, oo)) (hsr : srcV st.s (ev G st.t y) = some (ys.map enc)) (hw : Wide (D.size e) enc)
    {bz : Nat} (hbz : D.bytes e = bz) (hby : decide ((xs.length + ys.length) * bz ≤ 140737488355328) = true) :
    OkV P G o st (.sl nl d) (upd (killS st.s oo) d (some (some (.ar e (D.size e) ((xs ++ ys).map enc))))) := by
  obtain ⟨de, z, h1, h2, h3, h4, h5⟩ := okElem_spec he
  subst hbz
  exact app_ok hg hop hu h1 h2 h3 h4 hd htg hsr hw h5 hby

theorem bsP_ok (hg : Good P D) {parts : Array (Nat × Operand)} {t e d len : Nat} {rows : List (List T)}
    (ho : o.op = .buildSlice t len parts) (hu : D.und t = some (.slice e)) (he : D.has e = true) (hd : st.s d = none) (hl : litRows D st.s e len (parts.toList.map fun p => (p.1, ev G st.t p.2)) = some rows)
    (hsm : Nat.ble (len * D.size e) 16777216 = true) : OkV P G o st (.sl .e d) (upd st.s d (some (some (.ar e (D.size e) rows)))) := by
  obtain ⟨de, hde⟩ := has_some he
  exact buildSlice_ok hg ho hu hde hd hl hsm
end Go.Proofs.Ytljbepjbecjpiaa.Mc

/- THE MACHINE (30): shifts and divisions by what is not spelled out. -/
namespace Go.Proofs.Ytljbepjbecjpiaa.Mc
open Go.RowKit
variable {P : Program} {G : Glob} {D : Dec} {st : St} {o : Oper}

theorem shl_ok (hg : Good P D) {t q : TypeId} {x y : Operand} {k k' : IntKind} {a b : Int} (hop : o.op = .binOp .shl t x y q) (hx : ev G st.t x = vI k a) (hy : ev G st.t y = vI k' b) (h : decide (0 ≤ b) = true) :
    OkV P G o st (vI k (k.wrap (a * 2 ^ min b.toNat k.bits))) st.s := by
  refine core_ok hg hop ?_
  show (if kd (ev G st.t x) == .ifc && !(isConst y) then none else binV D st.s .shl t (ev G st.t x) (ev G st.t y)) = _
  rw [hx, hy]
  have h' := of_decide_eq_true h
  have hn : ¬ b < 0 := by omega
  show (if (Kd.no == Kd.ifc && !isConst y) = true then none else binV D st.s .shl t (vI k a) (vI k' b)) = _
  rw [if_neg (by simp)]
  simp only [binV, vI, bin, if_neg hn, Option.map_some]
theorem shr_ok (hg : Good P D) {t q : TypeId} {x y : Operand} {k k' : IntKind} {a b : Int} (hop : o.op = .binOp .shr t x y q) (hx : ev G st.t x = vI k a) (hy : ev G st.t y = vI k' b) (h : decide (0 ≤ b) = true) :
    OkV P G o st (vI k (a.fdiv (2 ^ min b.toNat k.bits))) st.s := by
  refine core_ok hg hop ?_
  show (if kd (ev G st.t x) == .ifc && !(isConst y) then none else binV D st.s .shr t (ev G st.t x) (ev G st.t y)) = _
  rw [hx, hy]
  have h' := of_decide_eq_true h
  have hn : ¬ b < 0 := by omega
  show (if (Kd.no == Kd.ifc && !isConst y) = true then none else binV D st.s .shr t (vI k a) (vI k' b)) = _
  rw [if_neg (by simp)]
  simp only [binV, vI, bin, if_neg hn, Option.map_some]
theorem quo_ok (hg : Good P D) {t q : TypeId} {x y : Operand} {k : IntKind} {a b : Int} (hop : o.op = .binOp .quo t x y q) (hx : ev G st.t x = vI k a) (hy : ev G st.t y = vI k b) (h : (b != 0) = true) :
    OkV P G o st (vI k (k.wrap (a.tdiv b))) st.s := by
  refine core_ok hg hop ?_
  show (if kd (ev G st.t x) == .ifc && !(isConst y) then none else binV D st.s .quo t (ev G st.t x) (ev G st.t y)) = _
  rw [hx, hy]
  have hn : b ≠ 0 := by simpa using h
  show (if (Kd.no == Kd.ifc && !isConst y) = true then none else binV D st.s .quo t (vI k a) (vI k b)) = _
  rw [if_neg (by simp)]
  simp only [binV, vI, bin, intBin, if_true, if_neg hn, Option.map_some]
theorem rem_ok (hg : Good P D) {t q : TypeId} {x y : Operand} {k : IntKind} {a b : Int} (hop : o.op = .binOp .rem t x y q) (hx : ev G st.t x = vI k a) (hy : ev G st.t y = vI k b) (h : (b != 0) = true) :
    OkV P G o st (vI k (a.tmod b)) st.s := by
  refine core_ok hg hop ?_
  show (if kd (ev G st.t x) == .ifc && !(isConst y) then none else binV D st.s .rem t (ev G st.t x) (ev G st.t y)) = _
  rw [hx, hy]
  have hn : b ≠ 0 := by simpa using h
  show (if (Kd.no == Kd.ifc && !isConst y) = true then none else binV D st.s .rem t (vI k a) (vI k b)) = _
  rw [if_neg (by simp)]
  simp only [binV, vI, bin, intBin, if_true, if_neg hn, Option.map_some]
end Go.Proofs.Ytljbepjbecjpiaa.Mc

/- THE MACHINE (31): from what a function computes to what a call of it does. -/
namespace Go.Proofs.Ytljbepjbecjpiaa.Mc
open Go.RowKit
variable {P : Program}

def oldF (W : World) : Nat → Prop := fun b => b < W.heap.size
def noLoc : Nat → Option Loc := fun _ => none

theorem relS_start (W : World) (hn : ∀ o l, noLoc o = some l → 1000000 ≤ o) : RelS noG (baseOf noLoc W (oldF W) hn) W (oldF W) noLoc (stoL []) := by
  refine ⟨?_, ?_, ?_, ?_, ?_, fun _ h => h, rfl, rfl, rfl, Nat.le_refl _, fun _ _ _ => rfl, fun _ _ h => .inl h, ?_⟩
  · intro o obj h; cases h
  · intro o l h; cases h
  · intro o o' l l' b h; cases h
  · intro o l b h; cases h
  · intro b hb; exact ⟨hb, .inl hb⟩
  · intro g cells h; cases h

theorem CTd.calls {f : FuncId} {vs : List V} (h : CTd P f vs [] (vB true) emptyS) {W : World} {args : Array Value} (hA : RelL W (oldF W) noLoc vs args.toList) :
    Calls P f args W fun e w' => e = .returned (.bool true) ∧ Below W.heap.size W w' := by
  have := h (oldF W) noLoc W args.toList (fun o l h => by cases h) (relS_start W _) hA
  refine this.mono ?_
  rintro e w' ⟨v, F', loc', r, s', rfl, hS, hr, rfl, rfl⟩
  refine ⟨by rw [relV_bool hr], ⟨hS.os, hS.tape, hS.output, hS.size, fun k hk => hS.keep k hk fun ⟨o, l, h, _⟩ => by cases h⟩⟩

variable {W : World} {F : Nat → Prop} {loc : Nat → Option Loc}
theorem relL_nil : RelL W F loc [] [] := ⟨rfl, by simp⟩
theorem relL_cons {x : V} {v : Value} {xs : List V} {vs : List Value} (h : RelV W F loc x v) (k : RelL W F loc xs vs) : RelL W F loc (x :: xs) (v :: vs) := by
  refine ⟨by simp [k.1], fun j y hj => ?_⟩
  cases j with
  | zero => cases hj; exact ⟨v, rfl, h⟩
  | succ j => simpa using k.2 j y (by simpa using hj)
theorem relV_int (k : IntKind) (n : Int) : RelV W F loc (vI k n) (.int k n) := .t _ _ (.sc _ rfl)
theorem relV_str (s : ByteArray) : RelV W F loc (vS s) (.string s) := .t _ _ (.sc _ rfl)
theorem relV_bl (b : Bool) : RelV W F loc (vB b) (.bool b) := .t _ _ (.sc _ rfl)
end Go.Proofs.Ytljbepjbecjpiaa.Mc

/- THE MACHINE (32): regions that draw their order: each operation's law at the few stores at which it may come; one end for all orders. -/
namespace Go.Proofs.Ytljbepjbecjpiaa.Mc
open Go.RowKit
variable {P : Program} {G : Glob} {D : Dec}

/-- what an operation does, at a state: through its weakest precondition (so calls are let in) -/
def OkW (P : Program) (G : Glob) (o : Oper) (st : St) (v : V) (s' : Store) : Prop :=
  ∀ (B : Base) (F : Nat → Prop) (loc : Nat → Option Loc) (a : Act) (w : World), Rel G B F loc st a.tmps w → ∀ (K : Act → World → Prop) (Q' : Exit → Act → World → Prop),
    (∀ (x : Value) (F' : Nat → Prop) (loc' : Nat → Option Loc) (w' : World), RelS G B w' F' loc' s' → Kept w F w' F' → Same loc loc' → RelV w' F' loc' v x → K (a.put o.dst x) w') → o.wp P a w K Q'

theorem OkV.w {o : Oper} {st : St} {v : V} {s' : Store} (h : OkV P G o st v s') : OkW P G o st v s' := by
  intro B F loc a w hR K Q' hK
  obtain ⟨F', loc', w', x, r, hrun, hr, hS, hk, hs, hv⟩ := h B F loc a w hR
  unfold Oper.wp
  rw [hrun]
  rcases hr with rfl | ⟨rfl, rfl⟩
  · exact hK x F' loc' w' hS hk hs hv
  · exact hK undef F' loc' w' hS hk hs hv

/-- an operation at a state: carried out, or skipped -/
def OpLaw (P : Program) (G : Glob) (ops : Array Oper) (o : Oper) (st : St) (v : V) (s' : Store) : Prop :=
  (want ops o st = some true ∧ OkW P G o st v s') ∨ (want ops o st = some false ∧ v = vU ∧ s' = st.s)

def step1V (D : Dec) (G : Glob) (ops : Array Oper) (o : Oper) (st : St) : Option (V × Store) :=
  match want ops o st with
  | some false => some (vU, st.s)
  | some true =>
    match o.op, o.dst with
    | .store t p x, _ => match storeV D st.s t (ev G st.t p) (ev G st.t x) with
      | some s' => some (vU, s')
      | none => none
    | .box t x, some d => coreBox (.box t x) (ev G st.t) st.s d D
    | .alloc t, some d => coreBox (.alloc t) (ev G st.t) st.s d D
    | op, _ => match coreV D op (ev G st.t) st.s with
      | some v => some (v, st.s)
      | none => none
  | none => none

theorem OpLaw.step (hg : Good P D) {ops : Array Oper} {o : Oper} {st : St} {v : V} {s' : Store} (h : step1V D G ops o st = some (v, s')) : OpLaw P G ops o st v s' := by
  unfold step1V at h
  split at h
  · rename_i hw; cases h; exact .inr ⟨hw, rfl, rfl⟩
  · rename_i hw
    refine .inl ⟨hw, ?_⟩
    split at h
    · rename_i t p x hop
      split at h
      · rename_i s1 hs; cases h; exact (store_ok hg hop hs).w
      · cases h
    · rename_i t x d hop hdst
      exact (coreBox_ok (d := d) hg (by rw [hop]; exact h)).w
    · rename_i t d hop hdst
      exact (coreBox_ok (d := d) hg (by rw [hop]; exact h)).w
    · split at h
      · rename_i v hs; cases h; exact (coreV_ok hg hs).w
      · cases h
  · cases h

theorem OpLaw.ok {ops : Array Oper} {o : Oper} {st : St} {v v' : V} {s' s'' : Store} (hw : want ops o st = some true) (hv : v' = v) (hs : s'' = s') (h : OkV P G o st v' s'') : OpLaw P G ops o st v s' := by
  subst hv; subst hs; exact .inl ⟨hw, h.w⟩

def depOn (ops : Array Oper) (i j : Nat) : Bool := match ops[i]? with | some o => o.after.any fun e => Region.binds .any e && Nat.beq e.on j | none => false
def sto (s : Store) (fs : List (Store → Store)) (k : Nat) : Store := (fs.take k).foldl (fun s f => f s) s
def vOf (vals : List V) (i : Nat) : V := (vals[i]?).getD .dead
def dAt (ops : Array Oper) (d : Nat) : Option Nat := (List.range ops.size).find? fun i => match ops[i]? with | some o => (match o.dst with | some d' => Nat.beq d' d | none => false) | none => false
def tL (ops : Array Oper) (t : Nat → V) (vals : List V) (listed : Nat → Bool) : Nat → V := fun d => match dAt ops d with | some j => cond (listed j) (vOf vals j) (t d) | none => t d
def rdOf (ops : Array Oper) (i : Nat) : List Nat := match ops[i]? with | some o => o.looksAt ops | none => []
def stI (ops : Array Oper) (t : Nat → V) (s : Store) (n : Nat) (a : List Nat) (vals : List V) (fs : List (Store → Store)) (i k : Nat) : St := ⟨keepT (fun x => x) (tL ops t vals (depOn ops i)) (rdOf ops i), sto s fs k, n, a⟩
def effAt (effs : List Nat) (i : Nat) : Bool := effs.any (Nat.beq i)
/-- may operation i come when k of the effects are done? -/
def okk (ops : Array Oper) (effs : List Nat) (i k : Nat) : Bool := (List.range effs.length).all fun r => match effs[r]? with
  | some e => (!(depOn ops i e) || Nat.blt r k) && (!(Nat.beq i e || depOn ops e i) || Nat.ble k r)
  | none => true
def LawAt (P : Program) (G : Glob) (ops : Array Oper) (t : Nat → V) (s : Store) (n : Nat) (a : List Nat) (vals : List V) (fs : List (Store → Store)) (effs : List Nat) (p : Nat × Nat) : Prop :=
  OpLaw P G ops (oA ops p.1) (stI ops t s n a vals fs p.1 p.2) (vOf vals p.1) (sto s fs (cond (effAt effs p.1) (p.2 + 1) p.2))
def Laws (P : Program) (G : Glob) (ops : Array Oper) (t : Nat → V) (s : Store) (n : Nat) (a : List Nat) (vals : List V) (fs : List (Store → Store)) (effs : List Nat) : List (Nat × Nat) → Prop
  | [] => True
  | p :: ps => LawAt P G ops t s n a vals fs effs p ∧ Laws P G ops t s n a vals fs effs ps
theorem Laws.get {ops : Array Oper} {t : Nat → V} {s : Store} {n : Nat} {a : List Nat} {vals : List V} {fs : List (Store → Store)} {effs : List Nat} : ∀ {l : List (Nat × Nat)}, Laws P G ops t s n a vals fs effs l → ∀ p ∈ l, LawAt P G ops t s n a vals fs effs p
  | _ :: _, h, p, hp => by
    rcases List.mem_cons.1 hp with rfl | hp
    · exact h.1
    · exact Laws.get h.2 p hp

def dsts (ops : Array Oper) : List Nat := ops.toList.filterMap (·.dst)
def checkAll (ops : Array Oper) (n : Nat) (effs : List Nat) (pairs : List (Nat × Nat)) : Bool :=
  (dsts ops).all (fun d => Nat.blt d n) && (List.range ops.size).all (fun j => match ops[j]? with | some o => (match o.dst with | some d => (match dAt ops d with | some i => Nat.beq i j | none => false) | none => true) | none => true) && nodupB effs && effs.all (fun e => Nat.blt e ops.size)
  && (List.range ops.size).all (fun i => (rdOf ops i).all fun d => match dAt ops d with | some j => depOn ops i j || depOn ops j i || Nat.beq i j | none => true)
  && (List.range ops.size).all (fun i => (List.range ops.size).all fun j => !(depOn ops i j) || Nat.blt j i)
  && (List.range ops.size).all (fun i => match ops[i]? with | some o => o.after.all fun e => !(Region.binds .any e) || Nat.blt e.on ops.size | none => true)
  && (List.range (effs.length - 1)).all (fun r => match effs[r]?, effs[r + 1]? with | some e, some e' => depOn ops e' e | _, _ => true)
  && (List.range ops.size).all (fun i => (List.range (effs.length + 1)).all fun k => !(okk ops effs i k) || pairs.any fun p => Nat.beq p.1 i && Nat.beq p.2 k)
end Go.Proofs.Ytljbepjbecjpiaa.Mc

/- THE MACHINE (33): regions that draw their order: the theorem. -/
namespace Go.Proofs.Ytljbepjbecjpiaa.Mc
open Go.RowKit
variable {P : Program} {G : Glob} {D : Dec}

theorem keepT_spec2 (f : V → V) (t : Nat → V) : ∀ (is : List Nat) (i : Nat), (keepT f t is i = f (t i) ∧ i ∈ is) ∨ keepT f t is i = .dead
  | [], i => .inr rfl
  | j :: is, i => by
    by_cases h : i = j
    · subst h; left; exact ⟨upd_self _ _ _, by simp⟩
    · rw [keepT, upd_ne _ _ h]
      rcases keepT_spec2 f t is i with h' | h'
      · exact .inl ⟨h'.1, List.mem_cons_of_mem _ h'.2⟩
      · exact .inr h'

structure Chk (ops : Array Oper) (n : Nat) (effs : List Nat) (pairs : List (Nat × Nat)) : Prop where
  fit : ∀ (i : Nat) (o : Oper) (d : Nat), ops[i]? = some o → o.dst = some d → d < n
  uniq : ∀ (i : Nat) (o : Oper) (d : Nat), ops[i]? = some o → o.dst = some d → dAt ops d = some i
  reads : ∀ i, i < ops.size → ∀ d ∈ rdOf ops i, ∀ j, dAt ops d = some j → depOn ops i j = true ∨ depOn ops j i = true ∨ i = j
  low : ∀ i j, depOn ops i j = true → j < i
  chain : ∀ (r e e' : Nat), effs[r]? = some e → effs[r + 1]? = some e' → depOn ops e' e = true
  nodup : nodupB effs = true
  pairs : ∀ i, i < ops.size → ∀ k, k ≤ effs.length → okk ops effs i k = true → (i, k) ∈ pairs

theorem dep_size {ops : Array Oper} {i j : Nat} (h : depOn ops i j = true) : i < ops.size := by
  unfold depOn at h
  cases ho : ops[i]? with
  | none => rw [ho] at h; cases h
  | some o => exact (Array.getElem?_eq_some_iff.1 ho).1

theorem dAt_some {ops : Array Oper} {d j : Nat} (h : dAt ops d = some j) : ∃ o, ops[j]? = some o ∧ o.dst = some d := by
  unfold dAt at h
  have := List.find?_some h
  split at this
  · rename_i o ho
    split at this
    · rename_i d' hd'
      exact ⟨o, ho, by rw [hd', Nat.eq_of_beq_eq_true this]⟩
    · cases this
  · cases this

theorem chk_of {ops : Array Oper} {n : Nat} {effs : List Nat} {pairs : List (Nat × Nat)} (h : checkAll ops n effs pairs = true) : Chk ops n effs pairs := by
  simp only [checkAll, Bool.and_eq_true] at h
  obtain ⟨⟨⟨⟨⟨⟨⟨⟨h1, h2⟩, h3⟩, h4⟩, h5⟩, h6⟩, h7⟩, h8⟩, h9⟩ := h
  refine ⟨?_, ?_, ?_, ?_, ?_, h3, ?_⟩
  · intro i o d ho hd
    have := List.all_eq_true.1 h1 d (List.mem_filterMap.2 ⟨o, by rw [← Array.getElem?_toList] at ho; exact List.mem_of_getElem? ho, hd⟩)
    simpa using this
  · intro i o d ho hd
    have hi := (Array.getElem?_eq_some_iff.1 ho).1
    have := List.all_eq_true.1 h2 i (List.mem_range.2 hi)
    simp only [ho, hd] at this
    split at this
    · rename_i j hj; rw [hj, Nat.eq_of_beq_eq_true this]
    · cases this
  · intro i hi d hd j hj
    have := List.all_eq_true.1 (List.all_eq_true.1 h5 i (List.mem_range.2 hi)) d hd
    simp only [hj, Bool.or_eq_true] at this
    rcases this with (h | h) | h
    · exact .inl h
    · exact .inr (.inl h)
    · exact .inr (.inr (Nat.eq_of_beq_eq_true h))
  · intro i j hd
    have hi := dep_size hd
    by_cases hj : j < ops.size
    · have := List.all_eq_true.1 (List.all_eq_true.1 h6 i (List.mem_range.2 hi)) j (List.mem_range.2 hj)
      simpa [hd] using this
    · exfalso
      have := List.all_eq_true.1 h7 i (List.mem_range.2 hi)
      unfold depOn at hd
      cases ho : ops[i]? with
      | none => rw [ho] at hd; cases hd
      | some o =>
        rw [ho] at hd
        simp only [ho] at this
        obtain ⟨e, he, hb⟩ := Array.any_eq_true'.1 hd
        simp only [Bool.and_eq_true] at hb
        have h2 := Array.all_eq_true'.1 this e he
        rw [hb.1] at h2
        have h3 : e.on = j := Nat.eq_of_beq_eq_true hb.2
        simp at h2
        omega
  · intro r e e' he he'
    have hr : r < effs.length - 1 := by have := (List.getElem?_eq_some_iff.1 he').1; omega
    have := List.all_eq_true.1 h8 r (List.mem_range.2 hr)
    simpa [he, he'] using this
  · intro i hi k hk ho
    have := List.all_eq_true.1 (List.all_eq_true.1 h9 i (List.mem_range.2 hi)) k (List.mem_range.2 (by omega))
    rw [ho] at this
    simp only [Bool.not_true, Bool.false_or] at this
    obtain ⟨p, hp, hb⟩ := List.any_eq_true.1 this
    simp only [Bool.and_eq_true] at hb
    have e1 := Nat.eq_of_beq_eq_true hb.1
    have e2 := Nat.eq_of_beq_eq_true hb.2
    subst e1; subst e2
    exact hp

theorem nodup_idx : ∀ {l : List Nat}, nodupB l = true → ∀ {r r' e : Nat}, l[r]? = some e → l[r']? = some e → r = r'
  | [], _, r, r', e, h, _ => by simp at h
  | x :: xs, hd, r, r', e, h, h' => by
    simp only [nodupB, Bool.and_eq_true, Bool.not_eq_true'] at hd
    cases r with
    | zero =>
      cases r' with
      | zero => rfl
      | succ r' =>
        cases h
        exact absurd rfl (nodup_mem hd.1 x (List.mem_of_getElem? (by simpa using h')))
    | succ r =>
      cases r' with
      | zero =>
        cases h'
        exact absurd rfl (nodup_mem hd.1 x (List.mem_of_getElem? (by simpa using h)))
      | succ r' =>
        have := nodup_idx (r := r) (r' := r') (e := e) hd.2 (by simpa using h) (by simpa using h')
        omega

theorem effAt_iff {effs : List Nat} {i : Nat} : effAt effs i = true ↔ ∃ r : Nat, effs[r]? = some i := by
  unfold effAt
  rw [List.any_eq_true]
  constructor
  · rintro ⟨e, he, hb⟩
    have he' : i = e := Nat.eq_of_beq_eq_true hb
    subst he'
    exact List.getElem?_of_mem he
  · rintro ⟨r, hr⟩
    exact ⟨i, List.mem_of_getElem? hr, Nat.beq_refl i⟩

section
variable {ops : Array Oper} {t : Nat → V} {s : Store} {n : Nat} {an : List Nat} {vals : List V} {fs : List (Store → Store)} {effs : List Nat} {pairs : List (Nat × Nat)} {B : Base}

def Lf (listed : Array Bool) (i : Nat) : Bool := listed.getD i false

structure Inv (G : Glob) (B : Base) (ops : Array Oper) (t : Nat → V) (s : Store) (n : Nat) (an : List Nat) (vals : List V) (fs : List (Store → Store)) (effs : List Nat) (listed : Array Bool) (a : Act) (w : World) : Prop where
  size : listed.size = ops.size
  down : ∀ i j, Lf listed i = true → depOn ops i j = true → Lf listed j = true
  defers : a.defers = []
  rel : ∃ k, k ≤ effs.length ∧ (∀ (r e : Nat), effs[r]? = some e → (Lf listed e = true ↔ r < k)) ∧ ∃ F loc, Rel G B F loc ⟨tL ops t vals (Lf listed), sto s fs k, n, an⟩ a.tmps w

theorem Lf_set {listed : Array Bool} {i j : Nat} (hi : i < listed.size) : Lf (listed.setIfInBounds i true) j = (Nat.beq j i || Lf listed j) := by
  unfold Lf
  by_cases h : j = i
  · subst h; simp [Array.getD_eq_getD_getElem?, hi]
  · have hb : Nat.beq j i = false := by rw [← Bool.not_eq_true, Nat.beq_eq]; exact h
    rw [hb, Bool.false_or]
    simp only [Array.getD_eq_getD_getElem?, Array.getElem?_setIfInBounds]
    rw [if_neg (fun e => h e.symm)]

theorem ready_spec {listed : Array Bool} {i : Nat} (hsz : listed.size = ops.size) (h : i ∈ Region.ready .any ops listed) :
    i < ops.size ∧ Lf listed i = false ∧ ∀ j, depOn ops i j = true → Lf listed j = true := by
  unfold Region.ready at h
  rw [List.mem_filter] at h
  obtain ⟨hr, hb⟩ := h
  have hi : i < ops.size := List.mem_range.1 hr
  simp only [Bool.and_eq_true, Bool.not_eq_true'] at hb
  refine ⟨hi, ?_, fun j hj => ?_⟩
  · have := hb.1
    have hi' : i < listed.size := by omega
    unfold Lf
    simp [Array.getD_eq_getD_getElem?, hi'] at this ⊢
    exact this
  · have h2 := hb.2
    unfold depOn at hj
    cases ho : ops[i]? with
    | none => rw [ho] at hj; cases hj
    | some o =>
      rw [ho] at hj h2
      simp only [Option.map_some, Option.getD_some] at h2
      obtain ⟨e, he, hbb⟩ := Array.any_eq_true'.1 hj
      simp only [Bool.and_eq_true] at hbb
      have := Array.all_eq_true'.1 h2 e he
      rw [hbb.1] at this
      simp only [Bool.not_true, Bool.false_or] at this
      have e1 : e.on = j := Nat.eq_of_beq_eq_true hbb.2
      rw [← e1]; exact this

theorem ready_of {listed : Array Bool} {i : Nat} (hsz : listed.size = ops.size) (hi : i < ops.size) (h0 : Lf listed i = false) (hd : ∀ j, depOn ops i j = true → Lf listed j = true) : i ∈ Region.ready .any ops listed := by
  unfold Region.ready
  rw [List.mem_filter]
  refine ⟨List.mem_range.2 hi, ?_⟩
  have hi' : i < listed.size := by omega
  simp only [Bool.and_eq_true, Bool.not_eq_true']
  refine ⟨?_, ?_⟩
  · unfold Lf at h0
    simp [Array.getD_eq_getD_getElem?, hi'] at h0 ⊢
    exact h0
  · have ho : ops[i]? = some ops[i] := by simp [hi]
    rw [ho]
    simp only [Option.map_some, Option.getD_some]
    rw [Array.all_eq_true']
    intro e he
    by_cases hb : Region.binds .any e = true
    · rw [hb]
      simp only [Bool.not_true, Bool.false_or]
      refine hd e.on ?_
      unfold depOn
      rw [ho]
      simp only
      exact Array.any_eq_true'.2 ⟨e, he, by simp [hb]⟩
    · have : Region.binds .any e = false := by simpa using hb
      simp [this]

theorem first_out {listed : Array Bool} (h : ∃ i, i < ops.size ∧ Lf listed i = false) : ∃ i, i < ops.size ∧ Lf listed i = false ∧ ∀ j, j < i → Lf listed j = true := by
  obtain ⟨i, hi, h0⟩ := h
  induction i using Nat.strongRecOn with
  | _ i ih =>
    by_cases hx : ∃ j, j < i ∧ Lf listed j = false
    · obtain ⟨j, hj, hj0⟩ := hx
      exact ih j hj (by omega) hj0
    · refine ⟨i, hi, h0, fun j hj => ?_⟩
      by_cases hb : Lf listed j = true
      · exact hb
      · exact absurd ⟨j, hj, by simpa using hb⟩ hx
end
end Go.Proofs.Ytljbepjbecjpiaa.Mc

/- THE MACHINE (34): regions that draw their order: the step and the rule. -/
namespace Go.Proofs.Ytljbepjbecjpiaa.Mc
open Go.RowKit
variable {P : Program} {G : Glob} {D : Dec}
variable {ops : Array Oper} {t : Nat → V} {s : Store} {n : Nat} {an : List Nat} {vals : List V} {fs : List (Store → Store)} {effs : List Nat} {pairs : List (Nat × Nat)} {B : Base}

theorem inv_step (hc : Chk ops n effs pairs) (hl : Laws P G ops t s n an vals fs effs pairs) {listed : Array Bool} {a : Act} {w : World} (hI : Inv G B ops t s n an vals fs effs listed a w) {i : Nat} (hi : i ∈ Region.ready .any ops listed)
    {Q' : Exit → Act → World → Prop} {K : Act → World → Prop} (hK : ∀ a' w', Inv G B ops t s n an vals fs effs (listed.setIfInBounds i true) a' w' → K a' w') : wpOp P ops Q' i K a w := by
  obtain ⟨his, hL0, hdep⟩ := ready_spec hI.size hi
  obtain ⟨k, hk, hiff, F, loc, hR⟩ := hI.rel
  have hil : i < listed.size := by rw [hI.size]; exact his
  have ho : ops[i]? = some ops[i] := by simp [his]
  generalize hoo : ops[i] = o at ho
  have hoA : oA ops i = o := by unfold oA; rw [Array.getElem?_toList, ho]; rfl
  -- k is allowed
  have hokk : okk ops effs i k = true := by
    unfold okk
    rw [List.all_eq_true]
    intro r hr
    have hr' : r < effs.length := List.mem_range.1 hr
    have he : effs[r]? = some effs[r] := List.getElem?_eq_getElem hr'
    rw [he]
    simp only [Bool.and_eq_true]
    have h1 := hiff r _ he
    refine ⟨?_, ?_⟩
    · by_cases hd : depOn ops i effs[r] = true
      · have := h1.1 (hdep _ hd)
        rw [hd]; simpa using this
      · have : depOn ops i effs[r] = false := by simpa using hd
        rw [this]; rfl
    · by_cases hd : (Nat.beq i effs[r] || depOn ops effs[r] i) = true
      · rw [hd]
        have hn : ¬ r < k := by
          intro hlt
          have hLe := h1.2 hlt
          simp only [Bool.or_eq_true] at hd
          rcases hd with hd | hd
          · rw [← Nat.eq_of_beq_eq_true hd, hL0] at hLe; cases hLe
          · rw [hI.down _ _ hLe hd] at hL0; cases hL0
        simp; omega
      · have : (Nat.beq i effs[r] || depOn ops effs[r] i) = false := by rw [← Bool.not_eq_true]; exact hd
        rw [this]; rfl
  have law := hl.get _ (hc.pairs i his k hk hokk)
  unfold LawAt at law
  simp only [hoA] at law
  -- the state that the law sees
  have hRI : Rel G B F loc (stI ops t s n an vals fs i k) a.tmps w := by
    refine ⟨hR.s, fun d => ?_, hR.n, hR.a⟩
    show RelV w F loc (keepT (fun x => x) (tL ops t vals (depOn ops i)) (rdOf ops i) d) _
    rcases keepT_spec2 (fun x => x) (tL ops t vals (depOn ops i)) (rdOf ops i) d with ⟨h1, h2⟩ | h1
    · rw [h1]
      have e : tL ops t vals (depOn ops i) d = tL ops t vals (Lf listed) d := by
        unfold tL
        cases hq : dAt ops d with
        | none => rfl
        | some q =>
          have : depOn ops i q = Lf listed q := by
            rcases hc.reads i his d h2 q hq with h | h | h
            · rw [h, hdep q h]
            · have h3 : Lf listed q = false := by
                by_cases hb : Lf listed q = true
                · rw [hI.down _ _ hb h] at hL0; cases hL0
                · simpa using hb
              have h4 : depOn ops i q = false := by
                by_cases hb : depOn ops i q = true
                · have a1 := hc.low _ _ hb
                  have a2 := hc.low _ _ h
                  omega
                · simpa using hb
              rw [h3, h4]
            · subst h
              have h4 : depOn ops i i = false := by
                by_cases hb : depOn ops i i = true
                · have a1 := hc.low _ _ hb
                  omega
                · simpa using hb
              rw [hL0, h4]
          simp only [this]
      show RelV w F loc (tL ops t vals (depOn ops i) d) _
      rw [e]; exact hR.t d
    · rw [h1]; exact .dead _
  -- what stands behind the operation
  have hnew : ∀ d, Lf (listed.setIfInBounds i true) d = (Nat.beq d i || Lf listed d) := fun d => Lf_set hil
  have hdown : ∀ p q, Lf (listed.setIfInBounds i true) p = true → depOn ops p q = true → Lf (listed.setIfInBounds i true) q = true := by
    intro p q hp hd
    rw [hnew] at hp ⊢
    simp only [Bool.or_eq_true] at hp ⊢
    rcases hp with hp | hp
    · rw [Nat.eq_of_beq_eq_true hp] at hd; exact .inr (hdep q hd)
    · exact .inr (hI.down _ _ hp hd)
  have hfit : fits ⟨tL ops t vals (Lf listed), sto s fs k, n, an⟩ o.dst = true := by
    unfold fits
    cases hd : o.dst with
    | none => rfl
    | some d => simpa using hc.fit i o d ho hd
  have hput : ∀ (s' : Store), St.put ⟨tL ops t vals (Lf listed), sto s fs k, n, an⟩ o.dst (vOf vals i) s' = ⟨tL ops t vals (Lf (listed.setIfInBounds i true)), s', n, an⟩ := by
    intro s'
    have : (match o.dst with | some d => upd (tL ops t vals (Lf listed)) d (vOf vals i) | none => tL ops t vals (Lf listed)) = tL ops t vals (Lf (listed.setIfInBounds i true)) := by
      funext d
      cases hd : o.dst with
      | none =>
        show tL ops t vals (Lf listed) d = _
        unfold tL
        cases hq : dAt ops d with
        | none => rfl
        | some q =>
          obtain ⟨oq, hoq, hdq⟩ := dAt_some hq
          have : Nat.beq q i = false := by
            rw [← Bool.not_eq_true, Nat.beq_eq]
            rintro rfl
            rw [ho] at hoq; cases hoq; rw [hd] at hdq; cases hdq
          simp only [hnew, this, Bool.false_or]
      | some d' =>
        show upd (tL ops t vals (Lf listed)) d' (vOf vals i) d = _
        by_cases hdd : d = d'
        · subst hdd
          rw [upd_self]
          unfold tL
          rw [hc.uniq i o d ho hd]
          simp only [hnew, Nat.beq_refl, Bool.true_or, cond_true]
        · rw [upd_ne _ _ hdd]
          unfold tL
          cases hq : dAt ops d with
          | none => rfl
          | some q =>
            obtain ⟨oq, hoq, hdq⟩ := dAt_some hq
            have : Nat.beq q i = false := by
              rw [← Bool.not_eq_true, Nat.beq_eq]
              rintro rfl
              rw [ho] at hoq; cases hoq; rw [hd] at hdq; exact hdd (Option.some.inj hdq).symm
            simp only [hnew, this, Bool.false_or]
    exact congrArg (fun t => St.mk t s' n an) this
  have hcount : ∃ k', k' = cond (effAt effs i) (k + 1) k ∧ k' ≤ effs.length ∧ ∀ (r e : Nat), effs[r]? = some e → (Lf (listed.setIfInBounds i true) e = true ↔ r < k') := by
    refine ⟨_, rfl, ?_⟩
    by_cases he : effAt effs i = true
    · rw [he, cond_true]
      obtain ⟨r0, hr0⟩ := effAt_iff.1 he
      have hr0l := (List.getElem?_eq_some_iff.1 hr0).1
      have h1 : ¬ r0 < k := fun h => by rw [(hiff r0 i hr0).2 h] at hL0; cases hL0
      have h2 : r0 ≤ k := by
        cases r0 with
        | zero => omega
        | succ r1 =>
          have hr1 : effs[r1]? = some effs[r1] := List.getElem?_eq_getElem (by omega)
          have := hc.chain r1 _ _ hr1 hr0
          have := (hiff r1 _ hr1).1 (hdep _ this)
          omega
      have hrk : r0 = k := by omega
      refine ⟨by omega, fun r e hre => ?_⟩
      rw [hnew]
      simp only [Bool.or_eq_true]
      constructor
      · rintro (h | h)
        · rw [Nat.eq_of_beq_eq_true h] at hre
          have := nodup_idx hc.nodup hre hr0
          omega
        · have := (hiff r e hre).1 h; omega
      · intro h
        by_cases hr : r = r0
        · subst hr
          rw [hr0] at hre; cases hre
          exact .inl (Nat.beq_refl _)
        · exact .inr ((hiff r e hre).2 (by omega))
    · have he' : effAt effs i = false := by simpa using he
      rw [he', cond_false]
      refine ⟨hk, fun r e hre => ?_⟩
      rw [hnew]
      have : Nat.beq e i = false := by
        rw [← Bool.not_eq_true, Nat.beq_eq]
        rintro rfl
        exact he (effAt_iff.2 ⟨r, hre⟩)
      rw [this, Bool.false_or]
      exact hiff r e hre
  obtain ⟨k', hk', hk'l, hiff'⟩ := hcount
  rw [← hk'] at law
  have fin : ∀ (x : Value) (F' : Nat → Prop) (loc' : Nat → Option Loc) (w' : World), RelS G B w' F' loc' (sto s fs k') → Kept w F w' F' → Same loc loc' → RelV w' F' loc' (vOf vals i) x → K (a.put o.dst x) w' := by
    intro x F' loc' w' hS hkp hsm hv
    refine hK _ _ ⟨by simp [hI.size], hdown, by cases hd : o.dst <;> simp [Act.put, hI.defers], k', hk'l, hiff', F', loc', ?_⟩
    have := hR.put hfit hS hkp hsm hv
    rw [hput] at this
    exact this
  unfold wpOp
  rw [ho]
  simp only
  rcases law with ⟨hw, hok⟩ | ⟨hw, hv, hs⟩
  · rw [if_pos (want_spec hRI hw)]
    exact .inl (hok B F loc a w hRI K Q' fin)
  · rw [if_neg (by rw [want_spec hRI hw]; simp)]
    refine fin undef F loc w ?_ (Kept.refl _ _) (Same.refl _) ?_
    · rw [hs]; exact hR.s
    · rw [hv]; exact .tp [] [] (fun _ => undef) rfl (fun j hj => by simp at hj) (fun j x hj => by simp at hj)

theorem any_go (hc : Chk ops n effs pairs) (hl : Laws P G ops t s n an vals fs effs pairs) {Q' : Exit → Act → World → Prop}
    (hQ : ∀ (a : Act) (w : World) (listed : Array Bool), Inv G B ops t s n an vals fs effs listed a w → (∀ i, i < ops.size → Lf listed i = true) → Q' .normal a w) :
    ∀ (fuel : Nat) (listed : Array Bool) (a : Act) (w : World) (U : List Nat), Inv G B ops t s n an vals fs effs listed a w → U.length ≤ fuel → (∀ i, i < ops.size → Lf listed i = true ∨ i ∈ U) → wpAny P .any ops Q' fuel listed a w
  | 0, listed, a, w, U, hI, hU, hcov => by
    have hall : ∀ i, i < ops.size → Lf listed i = true := fun i hi => by
      rcases hcov i hi with h | h
      · exact h
      · have : U = [] := List.eq_nil_of_length_eq_zero (by omega)
        rw [this] at h; cases h
    refine ⟨?_, hQ a w listed hI hall⟩
    cases hr : Region.ready .any ops listed with
    | nil => rfl
    | cons x xs =>
      obtain ⟨h1, h2, _⟩ := ready_spec hI.size (show x ∈ Region.ready .any ops listed by rw [hr]; simp)
      rw [hall x h1] at h2; cases h2
  | fuel + 1, listed, a, w, U, hI, hU, hcov => by
    refine ⟨fun h0 => ?_, fun i hi => ?_⟩
    · refine hQ a w listed hI fun i hi => ?_
      by_cases hb : Lf listed i = true
      · exact hb
      · exfalso
        obtain ⟨j, hj, hj0, hjl⟩ := first_out ⟨i, hi, by simpa using hb⟩
        have := ready_of hI.size hj hj0 fun q hq => hjl q (hc.low _ _ hq)
        rw [h0] at this; cases this
    · obtain ⟨his, hL0, _⟩ := ready_spec hI.size hi
      have hil : i < listed.size := by rw [hI.size]; exact his
      refine inv_step hc hl hI hi fun a' w' hI' => any_go hc hl hQ fuel _ a' w' (U.erase i) hI' ?_ fun j hj => ?_
      · rcases hcov i his with h | h
        · rw [h] at hL0; cases hL0
        · rw [List.length_erase_of_mem h]; omega
      · rw [Lf_set hil]
        by_cases hji : j = i
        · subst hji; left; simp
        · rcases hcov j hj with h | h
          · left; rw [h]; simp
          · right; exact (List.mem_erase_of_ne hji).2 h

theorem relS_drew {w : World} {F : Nat → Prop} {loc : Nat → Option Loc} (h : RelS G B w F loc s) : RelS G B { w with drawn := w.drawn + 1 } F loc s := by
  have hk : Kept w F { w with drawn := w.drawn + 1 } F := fun b hb => ⟨hb, rfl⟩
  refine { obs := ?_, dom := h.dom, inj := h.inj, own := h.own, frz := h.frz, fr0 := h.fr0, os := h.os, tape := h.tape, output := h.output, size := h.size, keep := h.keep, anc := h.anc, glob := ?_ }
  · intro o obj ho
    obtain ⟨l, hl, hr⟩ := h.obs o obj ho
    exact ⟨l, hl, hr.mono hk (Same.refl _) fun _ _ => rfl⟩
  · intro g cells hg
    obtain ⟨hF, val, hcc, hr⟩ := h.glob g cells hg
    exact ⟨hF, val, hcc, fun j x hj => (hr j x hj).mono hk⟩

/-- a region that draws its order -/
theorem Tr.draws {c : Code} {Q : Exit → St → Prop} (st' : St) (vals : List V) (fs : List (Store → Store)) (effs : List Nat) (pairs : List (Nat × Nat)) (hm : P.follows .mixedOrders = true) (h : c = .region (rI c) (rO c) true)
    (hc : checkAll (rO c) n effs pairs = true) (hl : Laws P G (rO c) t s n an vals fs effs pairs)
    (hconv : Conv G ⟨fun d => match dAt (rO c) d with | some j => vOf vals j | none => t d, sto s fs effs.length, n, an⟩ st') (k : Q .normal st') : Tr P G c ⟨t, s, n, an⟩ Q := by
  intro B F loc a w hR hd
  rw [h]
  refine wp_region_any hm (any_go (B := B) (chk_of hc) hl ?_ _ _ _ _ (List.range (rO c).size) ?_ (by simp) (fun i hi => .inr (List.mem_range.2 hi)))
  · intro a' w' listed hI hall
    obtain ⟨k', hk', hiff, F', loc', hR'⟩ := hI.rel
    refine ⟨hI.defers, ?_⟩
    have hke : k' = effs.length := by
      by_cases hlt : k' < effs.length
      · exfalso
        have he : effs[k']? = some effs[k'] := List.getElem?_eq_getElem hlt
        have hin : effs[k'] < (rO c).size := by
          have := hc
          simp only [checkAll, Bool.and_eq_true] at this
          have h4 := this.1.1.1.1.1.2
          have := List.all_eq_true.1 h4 _ (List.mem_of_getElem? he)
          simpa using this
        have := (hiff k' _ he).1 (hall _ hin)
        omega
      · omega
    subst hke
    have e : (fun d => match dAt (rO c) d with | some j => vOf vals j | none => t d) = tL (rO c) t vals (Lf listed) := by
      funext d
      unfold tL
      cases hq : dAt (rO c) d with
      | none => rfl
      | some q =>
        obtain ⟨oq, hoq, _⟩ := dAt_some hq
        simp only [hall q (Array.getElem?_eq_some_iff.1 hoq).1, cond_true]
    rw [e] at hconv
    obtain ⟨F2, loc2, hR2⟩ := hconv B F' loc' a'.tmps w' hR'
    exact ⟨F2, loc2, st', hR2, k⟩
  · have hL : ∀ i, Lf (Array.replicate (rO c).size false) i = false := fun i => by
      unfold Lf
      by_cases hi : i < (rO c).size <;> simp [Array.getD_eq_getD_getElem?, hi]
    refine ⟨by simp, fun i j hi => (by rw [hL] at hi; cases hi), hd, 0, by omega, fun r e he => ?_, F, loc, ?_⟩
    · rw [hL]; simp
    · have e : tL (rO c) t vals (Lf (Array.replicate (rO c).size false)) = t := by
        funext d
        unfold tL
        cases dAt (rO c) d with
        | none => rfl
        | some q => simp only [hL, cond_false]
      rw [e]
      have hk : Kept w F { w with drawn := w.drawn + 1 } F := fun b hb => ⟨hb, rfl⟩
      exact ⟨relS_drew hR.s, fun i => (hR.t i).mono hk (Same.refl _), hR.n, hR.a⟩
end Go.Proofs.Ytljbepjbecjpiaa.Mc

/- THE MACHINE (35): a call as an operation's law. -/
namespace Go.Proofs.Ytljbepjbecjpiaa.Mc
open Go.RowKit
variable {P : Program} {G : Glob} {D : Dec}

theorem OkW.call {o : Oper} {st : St} {fop : Operand} {args : Array Operand} {ts : Array TypeId} {f : FuncId} {fn : Func} {caps : List V} {ρ σ : Ren} {L : List (Nat × O)} {vs : List V} {r : V} {s1 : Store}
    (ho : o.op = .call ⟨.value fop, args, ts⟩) (hf : fnOf (ev G st.t fop) = some (f, caps))
    (hfn : P.funcs[f]? = some fn) (hname : (fn.name == "runtime.NumGoroutine") = false) (hb : fn.body.isSome = true)
    (hρ : okRen ρ = true) (hρn : (ρ.all fun p => Nat.ble 1000000 p.1) = true) (hL : handL ρ st.s ρ = some L) (hvs : renL (inv ρ) (args.toList.map (ev G st.t) ++ caps) = vs)
    (hct : CT P G f vs (stoL L) fun r' s' => r' = r ∧ s' = s1) (hρσ : okRen (ρ ++ σ) = true) (hfr : (σ.all fun p => (st.s p.2).isNone) = true) :
    OkW P G o st (r.ren (ren (ρ ++ σ))) (backS (ρ ++ σ) s1 st.s) := by
  intro B F loc a w hR K Q' hK
  have hn : ∀ o l, locC ρ loc o = some l → 1000000 ≤ o := by
    intro o l h
    obtain ⟨n', h1, _⟩ := (locC_iff hρ).1 h
    exact Nat.le_of_ble_eq_true (List.all_eq_true.1 hρn _ h1)
  obtain ⟨hSC, hal⟩ := hR.s.hand hρ hL hn
  obtain ⟨cvs, hcv, hcr⟩ := fnOf_spec hf (ev_rel hR fop)
  have hargs : RelL w F (locC ρ loc) vs ((args.map a.eval).toList ++ cvs) := by
    subst hvs
    rw [renL_map, List.map_append]
    refine RelL.append ⟨by simp, fun j x hj => ?_⟩ ⟨by simp [hcr.1], fun j x hj => ?_⟩
    · rw [List.getElem?_map, List.getElem?_map] at hj
      obtain ⟨y, hy, rfl⟩ := Option.map_eq_some_iff.1 hj
      obtain ⟨z, hz, rfl⟩ := Option.map_eq_some_iff.1 hy
      exact ⟨a.eval z, by rw [Array.toList_map, List.getElem?_map, hz]; rfl, (ev_rel hR z).ren hal⟩
    · rw [List.getElem?_map] at hj
      obtain ⟨y, hy, rfl⟩ := Option.map_eq_some_iff.1 hj
      obtain ⟨v, hv, hr⟩ := hcr.2 j y hy
      exact ⟨v, hv, hr.ren hal⟩
  have hrun : (execOp a.eval o).run P w = .ok (.enter f ((args.map a.eval).toList ++ cvs).toArray) w := by
    have e1 : execOp a.eval o = (do let d ← resolve a.eval ⟨.value fop, args, ts⟩ o.type; invoke d.target d.args) := by simp only [execOp, ho]
    rw [e1, Sem.run_bind]
    simp only [resolve, hcv, Deferred.ofValue, Sem.run_pure, Result.andThen_ok, invoke]
    rw [enters hfn hname hb]
    congr 2
    apply Array.ext'
    simp
  unfold Oper.wp
  rw [hrun]
  refine (hct F (locC ρ loc) w _ hn hSC hargs).mono ?_
  rintro e w' ⟨v, F', loc', r', s', rfl, hS', hrel, rfl, rfl⟩
  obtain ⟨hS2, hk, hsm, hal2⟩ := hR.s.back (σ := σ) hρ hρσ hn (handL_get hL) (fun p hp => by simpa using List.all_eq_true.1 hfr p hp) hS'
  exact hK v F' _ w' hS2 hk hsm (hrel.ren hal2)

theorem OpLaw.callD {ops : Array Oper} {o : Oper} {st : St} {f : FuncId} {fn : Func} {L : List (Nat × O)} {vs : List V} {r : V} {s1 : Store} {caps : List V} {v : V} {s' : Store} (ρ σ : Ren) (fop : Operand) (args : Array Operand) (ts : Array TypeId)
    (hct : CTd P f vs L r s1) (hfn : P.funcs[f]? = some fn) (hw : want ops o st = some true)
    (hop : o.op = .call ⟨.value fop, args, ts⟩) (hf : fnOf (ev noG st.t fop) = some (f, caps)) (hname : (fn.name == "runtime.NumGoroutine") = false) (hb : fn.body.isSome = true)
    (hρ : okRen ρ = true) (hρn : (ρ.all fun p => Nat.ble 1000000 p.1) = true) (hL : handL ρ st.s ρ = some L) (hvs : renL (inv ρ) (args.toList.map (ev noG st.t) ++ caps) = vs)
    (hρσ : okRen (ρ ++ σ) = true) (hfr : (σ.all fun p => (st.s p.2).isNone) = true) (hv : r.ren (ren (ρ ++ σ)) = v) (hs : backS (ρ ++ σ) s1 st.s = s') : OpLaw P noG ops o st v s' := by
  subst hv; subst hs
  exact .inl ⟨hw, OkW.call hop hf hfn hname hb hρ hρn hL hvs hct hρσ hfr⟩

theorem OpLaw.stepE (hg : Good P D) {ops : Array Oper} {o : Oper} {st : St} {v v' : V} {s' : Store} (h : step1V D G ops o st = some (v', s')) (hv : v' = v) : OpLaw P G ops o st v s' := by
  subst hv; exact OpLaw.step hg h
theorem OpLaw.okS {ops : Array Oper} {o : Oper} {st : St} {v v' : V} {s' s'' : Store} (hw : want ops o st = some true) (hv : v' = v) (hs : s'' = s') (h : OkV P G o st v' s'') : OpLaw P G ops o st v s' := OpLaw.ok hw hv hs h
end Go.Proofs.Ytljbepjbecjpiaa.Mc

/- THE MACHINE (36): a slice of which it isn't known whether it is nil. -/
namespace Go.Proofs.Ytljbepjbecjpiaa.Mc
open Go.RowKit
variable {P : Program} {G : Glob} {D : Dec}

theorem Rel.slot {B : Base} {F : Nat → Prop} {loc : Nat → Option Loc} {t : Nat → V} {s : Store} {m : Nat} {a : List Nat} {tmps : Array Value} {w : World} (hR : Rel G B F loc ⟨t, s, m, a⟩ tmps w) {i : Nat} {x : V} (h : RelV w F loc x (tmps.getD i undef)) :
    Rel G B F loc ⟨upd t i x, s, m, a⟩ tmps w :=
  ⟨hR.s, fun j => by
    by_cases hj : j = i
    · subst hj; show RelV w F loc (upd t j x j) _; rw [upd_self]; exact h
    · show RelV w F loc (upd t i x j) _; rw [upd_ne _ _ hj]; exact hR.t j, hR.n, hR.a⟩

theorem TrAt.nilFz {ops : Array Oper} {i : Nat} {t : Nat → V} {s : Store} {m : Nat} {a : List Nat} {Q : Exit → St → Prop} (j : Nat) (rows : List (List T)) (hj : t j = .t (.fz .u rows))
    (kA : rows = [] → TrAt P G ops i ⟨upd t j (.t (.sc (.slice none 0 0))), s, m, a⟩ Q) (kB : TrAt P G ops i ⟨upd t j (.t (.fz .e rows)), s, m, a⟩ Q) : TrAt P G ops i ⟨t, s, m, a⟩ Q := by
  intro B F loc ac w hR hd
  have hv : RelV w F loc (t j) _ := hR.t j
  rw [hj] at hv
  cases hv with
  | gone _ o _ hx _ => cases hx
  | t _ v h =>
    generalize hz : ac.tmps.getD j undef = z at h
    cases h with
    | nil => exact kA rfl B F loc ac w (hR.slot (by rw [hz]; exact .t _ _ (.sc _ rfl))) hd
    | mt _ ad cap => exact kB B F loc ac w (hR.slot (by rw [hz]; exact .t _ _ (.mt _ ad cap (by simp)))) hd
    | fz _ _ sz b off cap val hF hn hz' hsz hcap hc h1 hr => exact kB B F loc ac w (hR.slot (by rw [hz]; exact .t _ _ (.fz _ rows sz b off cap val hF hn hz' hsz hcap hc h1 hr))) hd

theorem TrAt.nilSl {ops : Array Oper} {i : Nat} {t : Nat → V} {s : Store} {m : Nat} {a : List Nat} {Q : Exit → St → Prop} (j o e sz : Nat) (rows : List (List T)) (hj : t j = .sl .u o) (ho : s o = some (some (.ar e sz rows)))
    (kA : rows = [] → TrAt P G ops i ⟨upd t j (.t (.sc (.slice none 0 0))), s, m, a⟩ Q) (kB : TrAt P G ops i ⟨upd t j (.sl .e o), s, m, a⟩ Q) : TrAt P G ops i ⟨t, s, m, a⟩ Q := by
  intro B F loc ac w hR hd
  have hv : RelV w F loc (t j) _ := hR.t j
  rw [hj] at hv
  obtain ⟨b, cap, cells, hl, hz, hsz, hown, h1, hr⟩ := hR.s.row (s := s) (by show Mc.get s o = _; unfold Mc.get; rw [ho])
  obtain ⟨hv', h2, h3, h4⟩ := relV_sl hv hl
  cases b with
  | none =>
    obtain ⟨h5, rfl⟩ := h4 rfl
    have : rows = [] := List.eq_nil_of_length_eq_zero h5
    refine kA this B F loc ac w (hR.slot ?_) hd
    rw [hv', h5]; exact .t _ _ (.sc _ rfl)
  | some g =>
    refine kB B F loc ac w (hR.slot ?_) hd
    rw [hv']; exact .sl .e o (some g) rows.length cap sz hl (by simp) (by simp) (by simp)

theorem map_nil_of {α β : Type} {f : α → β} {xs : List α} (h : xs.map f = []) : xs = [] := List.map_eq_nil_iff.1 h
end Go.Proofs.Ytljbepjbecjpiaa.Mc

/- THE MACHINE (37): an object under another name, the old name gone. -/
namespace Go.Proofs.Ytljbepjbecjpiaa.Mc
open Go.RowKit
variable {P : Program} {G : Glob} {D : Dec}

def mvF (o d : Nat) (n : Nat) : Option Nat := some (cond (Nat.beq n o) d n)
def mvS (o d : Nat) (s : Store) : Store := fun n => cond (Nat.beq n o) (some none) (cond (Nat.beq n d) ((s o).map (·.map (O.ren (mvF o d)))) ((s n).map (·.map (O.ren (mvF o d)))))

theorem Conv.move {t : Nat → V} {s : Store} {m : Nat} {a : List Nat} (o d : Nat) (ho : (s o).isSome = true) (hd : s d = none) : Conv G ⟨t, s, m, a⟩ ⟨fun i => (t i).ren (mvF o d), mvS o d s, m, a⟩ := by
  intro B F loc tmps w hR
  have hS := hR.s
  have hod : o ≠ d := by rintro rfl; rw [show s o = none from hd] at ho; cases ho
  have hbo : ∀ n, n ≠ o → Nat.beq n o = false := fun n h => by rw [← Bool.not_eq_true, Nat.beq_eq]; exact h
  have hbd : ∀ n, n ≠ d → Nat.beq n d = false := fun n h => by rw [← Bool.not_eq_true, Nat.beq_eq]; exact h
  have hld : loc d = none := loc_none hS hd
  let loc2 : Nat → Option Loc := fun n => cond (Nat.beq n o) (some .gone) (cond (Nat.beq n d) (loc o) (loc n))
  have l2o : loc2 o = some .gone := by show cond (Nat.beq o o) _ _ = _; rw [Nat.beq_refl]; rfl
  have l2d : loc2 d = loc o := by show cond (Nat.beq d o) _ (cond (Nat.beq d d) _ _) = _; rw [hbo d (Ne.symm hod), Nat.beq_refl]; rfl
  have l2n : ∀ n, n ≠ o → n ≠ d → loc2 n = loc n := fun n h1 h2 => by show cond (Nat.beq n o) _ (cond (Nat.beq n d) _ _) = _; rw [hbo n h1, hbd n h2]; rfl
  have hal : Along (mvF o d) loc loc2 := by
    intro n n' l h1 h2
    unfold mvF at h1
    by_cases hn : n = o
    · subst hn; rw [Nat.beq_refl] at h1; cases h1; exact l2d.trans h2
    · rw [hbo n hn] at h1; cases h1
      have : n ≠ d := by rintro rfl; rw [hld] at h2; cases h2
      exact (l2n n hn this).trans h2
  have hcase : ∀ n l, loc2 n = some l → (n = o ∧ l = .gone) ∨ (n = d ∧ loc o = some l) ∨ (n ≠ o ∧ n ≠ d ∧ loc n = some l) := by
    intro n l h
    by_cases h1 : n = o
    · subst h1; rw [l2o] at h; cases h; exact .inl ⟨rfl, rfl⟩
    · by_cases h2 : n = d
      · subst h2; rw [l2d] at h; exact .inr (.inl ⟨rfl, h⟩)
      · rw [l2n n h1 h2] at h; exact .inr (.inr ⟨h1, h2, h⟩)
  have hsd : mvS o d s d = (s o).map (·.map (O.ren (mvF o d))) := by unfold mvS; rw [hbo d (Ne.symm hod), Nat.beq_refl]; rfl
  have hsn : ∀ n, n ≠ o → n ≠ d → mvS o d s n = (s n).map (·.map (O.ren (mvF o d))) := fun n h1 h2 => by unfold mvS; rw [hbo n h1, hbd n h2]; rfl
  have hso : mvS o d s o = some none := by unfold mvS; rw [Nat.beq_refl]; rfl
  have key : ∀ n n' obj, loc2 n' = loc n → s n = some obj → ∃ l, loc2 n' = some l ∧ RelO w F loc2 (obj.map (O.ren (mvF o d))) l := by
    intro n n' obj hl hn
    obtain ⟨l, h1, h2⟩ := hS.obs n obj hn
    refine ⟨l, hl.trans h1, ?_⟩
    cases obj with
    | none => cases h2; exact .gone
    | some x => exact h2.ren hal
  refine ⟨F, loc2, ⟨⟨?_, ?_, ?_, ?_, hS.frz, hS.fr0, hS.os, hS.tape, hS.output, hS.size, hS.keep, ?_, hS.glob⟩, fun i => (hR.t i).ren hal, hR.n, hR.a⟩⟩
  · intro n obj hn
    replace hn : mvS o d s n = some obj := hn
    by_cases h1 : n = o
    · subst h1; rw [hso] at hn; cases hn; exact ⟨.gone, l2o, .gone⟩
    · by_cases h2 : n = d
      · subst h2
        rw [hsd] at hn
        obtain ⟨ob, h3, rfl⟩ := Option.map_eq_some_iff.1 hn
        exact key o n ob l2d h3
      · rw [hsn n h1 h2] at hn
        obtain ⟨ob, h3, rfl⟩ := Option.map_eq_some_iff.1 hn
        exact key n n ob (l2n n h1 h2) h3
  · intro n l hl
    rcases hcase n l hl with ⟨rfl, _⟩ | ⟨rfl, h⟩ | ⟨h1, h2, h⟩
    · exact ⟨_, hso⟩
    · obtain ⟨ob, h3⟩ := hS.dom o l h
      exact ⟨_, hsd.trans (by rw [show s o = some ob from h3]; rfl)⟩
    · obtain ⟨ob, h3⟩ := hS.dom n l h
      exact ⟨_, (hsn n h1 h2).trans (by rw [show s n = some ob from h3]; rfl)⟩
  · intro n n' l l' b h1 h2 h3 h4
    rcases hcase n l h1 with ⟨_, rfl⟩ | ⟨rfl, a1⟩ | ⟨a0, a2, a1⟩
    · cases h3
    · rcases hcase n' l' h2 with ⟨_, rfl⟩ | ⟨rfl, b1⟩ | ⟨b0, b2, b1⟩
      · cases h4
      · rfl
      · exact absurd (hS.inj o n' l l' b a1 b1 h3 h4).symm b0
    · rcases hcase n' l' h2 with ⟨_, rfl⟩ | ⟨rfl, b1⟩ | ⟨b0, b2, b1⟩
      · cases h4
      · exact absurd (hS.inj n o l l' b a1 b1 h3 h4) a0
      · exact hS.inj n n' l l' b a1 b1 h3 h4
  · intro n l b h1 h2
    rcases hcase n l h1 with ⟨_, rfl⟩ | ⟨rfl, a1⟩ | ⟨a0, a2, a1⟩
    · cases h2
    · exact hS.own o l b a1 h2
    · exact hS.own n l b a1 h2
  · intro n l hn
    have hne : n ≠ d := by
      rintro rfl
      rcases hS.anc n l hn with h | h <;> rw [hld] at h <;> cases h
    by_cases h1 : n = o
    · subst h1; exact .inr l2o
    · rw [l2n n h1 hne]; exact hS.anc n l hn

/-- an object that is forgotten, its name gone -/
theorem Conv.kill {t : Nat → V} {s : Store} {m : Nat} {a : List Nat} (o d : Nat) (ho : (s o).isSome = true) (hd : s d = none) : Conv G ⟨t, s, m, a⟩ ⟨fun i => (t i).ren (mvF o d), mvS o d s, m, a⟩ := Conv.move o d ho hd
end Go.Proofs.Ytljbepjbecjpiaa.Mc

/- THE MACHINE (38): is a window nil? -/
namespace Go.Proofs.Ytljbepjbecjpiaa.Mc
open Go.RowKit
variable {P : Program} {G : Glob} {D : Dec}

theorem slEq_run {t e : TypeId} {w : World} {ox oy : Operand} {ad : Option Addr} {len cap : Nat} (hu : P.underlying t = some (.slice e)) :
    ((do eqGuard .eql t ox oy (.slice ad len cap) (.slice none 0 0); binOp .eql t (.slice ad len cap) (.slice none 0 0) : Sem Value)).run P w = .ok (.bool (isNil (.slice ad len cap))) w := by
  rw [Sem.run_bind, guard_plain (by simp) (by simp)]
  simp only [Result.andThen_ok]
  have : binOp .eql t (.slice ad len cap) (.slice none 0 0) = (do pure (.bool (← Op.equal t (.slice ad len cap) (.slice none 0 0))) : Sem Value) := by
    unfold binOp
    split <;> first | rfl | (rename_i hh _; cases hh; done) | (exfalso; simp_all; done) | simp_all
  rw [this, Sem.run_bind, equal_nil hu (by rfl)]; rfl

theorem TrAt.nilSw (hg : Good P D) {ops : Array Oper} {i : Nat} {t : Nat → V} {s : Store} {m : Nat} {a : List Nat} {Q : Exit → St → Prop} (j d o off len ty e e' sz : Nat) (q : TypeId) (rows : List (List T))
    (hop : (oA ops i).op = .binOp .eql ty (.tmp j) (.const (.slice none 0 0)) q) (hu : D.und ty = some (.slice e)) (hj : t j = .sw o off len) (hrow : s o = some (some (.ar e' sz rows)))
    (ho : ops.toList[i]? = some (oA ops i)) (hw : want ops (oA ops i) ⟨t, s, m, a⟩ = some true) (hdd : (oA ops i).dst = some d) (hd : Nat.blt d m = true)
    (kA : len = 0 → TrAt P G ops (i + 1) ⟨upd t d (vB true), s, m, a⟩ Q) (kB : TrAt P G ops (i + 1) ⟨upd t d (vB false), s, m, a⟩ Q) : TrAt P G ops i ⟨t, s, m, a⟩ Q := by
  unfold TrAt at *
  rw [drop_at ho]
  intro B F loc ac w hR hdf
  have hv : RelV w F loc (t j) _ := hR.t j
  rw [hj] at hv
  obtain ⟨b, cap, cells, hl, _⟩ := hR.s.row (s := s) (by show Mc.get s o = _; unfold Mc.get; rw [hrow])
  obtain ⟨ad, hz, hle, ha, h0, hn⟩ := relV_sw hv hl
  have hrun : (execOp ac.eval (oA ops i)).run P w = .ok (.value (.bool (isNil (.slice ad len (cap - off))))) w := by
    have e1 : ac.eval (.tmp j) = ac.tmps.getD j undef := rfl
    simp only [execOp, hop]
    rw [e1, hz]
    have h := slEq_run (P := P) (w := w) (ox := .tmp j) (oy := .const (.slice none 0 0)) (ad := ad) (len := len) (cap := cap - off) (hg.und _ _ hu).1
    rw [Sem.run_bind]
    have e2 : ac.eval (.const (.slice none 0 0)) = .slice none 0 0 := rfl
    rw [e2, h]
    rfl
  show if _ then _ else _
  rw [want_spec hR hw]
  simp only [if_true]
  left
  unfold Oper.wp
  rw [hrun]
  have hdf' : (ac.put (oA ops i).dst (.bool (isNil (.slice ad len (cap - off))))).defers = [] := by cases ho : (oA ops i).dst <;> simp [Act.put, hdf]
  cases ad with
  | none =>
    have hlen : len = 0 := by
      rcases Nat.eq_zero_or_pos len with h | h
      · exact h
      · obtain ⟨g, _, hg'⟩ := ha h; cases hg'
    have := hR.put (d := (oA ops i).dst) (v := vB true) (x := .bool true) (by rw [hdd]; exact hd) hR.s (Kept.refl _ _) (Same.refl _) (.t _ _ (.sc _ rfl))
    rw [hdd] at this
    refine kA hlen B F loc _ w ?_ hdf'
    rw [hdd]; exact this
  | some g =>
    have := hR.put (d := (oA ops i).dst) (v := vB false) (x := .bool false) (by rw [hdd]; exact hd) hR.s (Kept.refl _ _) (Same.refl _) (.t _ _ (.sc _ rfl))
    rw [hdd] at this
    refine kB B F loc _ w ?_ hdf'
    rw [hdd]; exact this
end Go.Proofs.Ytljbepjbecjpiaa.Mc

/- THE MACHINE (39): a piece of a nil slice; structs that are compared. -/
namespace Go.Proofs.Ytljbepjbecjpiaa.Mc
open Go.RowKit
variable {P : Program} {G : Glob} {D : Dec} {st : St} {o : Oper}

theorem cutNil_ok (hg : Good P D) {t e : TypeId} {x : Operand} {lo hi : Option Operand} {l h : Int} (hop : o.op = .slice t x lo hi none) (hu : D.und t = some (.slice e)) (he : D.has e = true)
    (hx : ev G st.t x = .t (.sc (.slice none 0 0))) (hl : bound (lo.map (ev G st.t)) 0 = some l) (hh : bound (hi.map (ev G st.t)) 0 = some h) (hb : bnds 0 l h = true) :
    OkV P G o st (.t (.sc (.slice none 0 0))) st.s := by
  refine core_ok hg hop ?_
  show sliceV D st.s t (ev G st.t x) (lo.map (ev G st.t)) (hi.map (ev G st.t)) = _
  rw [hx]
  have hb' := bnds_spec hb
  simp only [sliceV, hu, he, Bool.not_true, Bool.false_eq_true, if_false, hl, hh]
  rw [if_pos ⟨by omega, by omega⟩]
end Go.Proofs.Ytljbepjbecjpiaa.Mc
