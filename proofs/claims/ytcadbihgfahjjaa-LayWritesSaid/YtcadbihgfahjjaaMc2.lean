/- The machine: abstract values and stores, and the laws by which a walk goes through code. Its parts in order. -/
import Derived.Test.YtcadbihgfahjjaaMc1
/- THE MACHINE (27): a function's walk begins and ends; stores by what is new in them; cells that hold nil. -/
namespace Go.Proofs.Ytcadbihgfahjjaa.Mc
open Go.RowKit
variable {P : Program} {G : Glob} {D : Dec}

def bodyOf (f : Func) : Code := match f.body with | some c => c | none => .skip
def noG : Glob := fun _ => none

theorem cond_t {β : Type} {c : Bool} {a b : Option β} {r : β} (h : c = true) (k : cond c a b = some r) : a = some r := by subst h; exact k
theorem cond_f {β : Type} {c : Bool} {a b : Option β} {r : β} (h : c = false) (k : cond c a b = some r) : b = some r := by subst h; exact k

def updS (s : Store) : List (Nat × O) → Store
  | [] => s
  | (d, x) :: l => updS (upd s d (some (some x))) l

/-- so many operations, and what is new behind them -/
theorem TrAt.goS (hg : Good P D) {ops : Array Oper} {i : Nat} (n : Nat) {t : Nat → V} {s : Store} {m : Nat} {a : List Nat} {Q : Exit → St → Prop} (dl : List (Nat × V)) (sl : List (Nat × O))
    (h : Mc.steps D G ops ((ops.toList.drop i).take n) ⟨t, s, m, a⟩ = some ⟨upds t dl, updS s sl, m, a⟩) (k : TrAt P G ops (i + n) ⟨upds t dl, updS s sl, m, a⟩ Q) : TrAt P G ops i ⟨t, s, m, a⟩ Q :=
  TrAt.go hg i n h k

/-- the end of a function -/
def finQ (D : Dec) (rs : List ResultVar) (r : V) (s : Store) : Exit → St → Prop
  | .normal, st => resV D st rs = some r ∧ st.s = s
  | .ret, st => resV D st rs = some r ∧ st.s = s
  | _, _ => False
theorem finQ_n {rs : List ResultVar} {r : V} {s : Store} {st : St} (h : resV D st rs = some r) (hs : st.s = s) : finQ D rs r s .normal st := ⟨h, hs⟩
theorem finQ_r {rs : List ResultVar} {r : V} {s : Store} {st : St} (h : resV D st rs = some r) (hs : st.s = s) : finQ D rs r s .ret st := ⟨h, hs⟩

/-- what a function computes: the result and the objects -/
def CTd (P : Program) (f : FuncId) (vs : List V) (L : List (Nat × O)) (r : V) (s1 : Store) : Prop := CT P noG f vs (stoL L) fun r' s' => r' = r ∧ s' = s1

theorem stoL_mem {L : List (Nat × O)} {n : Nat} {x : Option O} (h : stoL L n = some x) : n ∈ L.map (·.1) := by
  unfold stoL at h
  obtain ⟨p, hp, _⟩ := Option.map_eq_some_iff.1 h
  obtain ⟨h1, rfl⟩ := find_mem (ρ := L.map fun p => (p.1, 0)) (n := n) (p := (p.1, 0)) (by
    rw [List.find?_map, show (fun p : Nat × Nat => Nat.beq p.1 n) ∘ (fun p : Nat × O => (p.1, 0)) = fun p : Nat × O => Nat.beq p.1 n from rfl, hp]; rfl)
  obtain ⟨q, hq, he⟩ := List.mem_map.1 h1
  exact List.mem_map.2 ⟨q, hq, (Prod.mk.inj he).1⟩

theorem CTd.of_tr {f : FuncId} (fn : Func) {vs : List V} {L : List (Nat × O)} {r : V} {s1 : Store} (hf : P.funcs[f]? = some fn) (hb : fn.body = some (bodyOf fn))
    (h : Tr P noG (bodyOf fn) (st0 vs (stoL L) fn.ntmps (L.map (·.1))) (finQ (decOf P) fn.results.toList r s1)) : CTd P f vs L r s1 := by
  refine CT.of_tr (good_of P) hf hb (fun n x hn => stoL_mem hn) (Tr.mono h ?_)
  rintro e st hq
  cases e <;> first | exact ⟨_, hq.1, rfl, hq.2⟩ | exact hq.elim

/-- a call -/
theorem TrAt.callD {ops : Array Oper} {i : Nat} {t : Nat → V} {s : Store} {m : Nat} {a : List Nat} {Q : Exit → St → Prop} {f : FuncId} {fn : Func} {L : List (Nat × O)} {vs : List V} {r : V} {s1 : Store} {caps : List V} (d : Nat) (v : V) (ρ σ : Ren) (fop : Operand) (args : Array Operand) (ts : Array TypeId)
    (hct : CTd P f vs L r s1) (hfn : P.funcs[f]? = some fn) (ho : ops.toList[i]? = some (oA ops i)) (hw : want ops (oA ops i) ⟨t, s, m, a⟩ = some true) (hdd : (oA ops i).dst = some d) (hd : Nat.blt d m = true)
    (hop : (oA ops i).op = .call ⟨.value fop, args, ts⟩) (hf : fnOf (ev noG t fop) = some (f, caps)) (hname : (fn.name == "runtime.NumGoroutine") = false) (hb : fn.body.isSome = true)
    (hρ : okRen ρ = true) (hρn : (ρ.all fun p => Nat.ble 1000000 p.1) = true) (hL : handL ρ s ρ = some L) (hvs : renL (inv ρ) (args.toList.map (ev noG t) ++ caps) = vs)
    (hρσ : okRen (ρ ++ σ) = true) (hfr : (σ.all fun p => (s p.2).isNone) = true) (hv : r.ren (ren (ρ ++ σ)) = v)
    (k : TrAt P noG ops (i + 1) ⟨upd t d v, backS (ρ ++ σ) s1 s, m, a⟩ Q) : TrAt P noG ops i ⟨t, s, m, a⟩ Q :=
  TrAt.callP f fn ρ σ L vs r s1 d v ho hw hdd hd hop hf hfn hname hb hρ hρn hL hvs hct hρσ hfr hv k

/-- a nil slice in a slot, as data -/
theorem Conv.nilFz {t : Nat → V} {s : Store} {m : Nat} {a : List Nat} (i : Nat) (nl : Nl) (hi : t i = .t (.sc (.slice none 0 0))) (hn : (match nl with | .e => false | _ => true) = true) : Conv G ⟨t, s, m, a⟩ ⟨upd t i (.t (.fz nl [])), s, m, a⟩ :=
  Conv.slot (st := ⟨t, s, m, a⟩) fun w F loc v h => by
    have h' : RelV w F loc (t i) v := h
    rw [hi] at h'
    rw [relV_sc h']
    exact .t _ _ (.nil nl (by cases nl <;> first | (cases hn; done) | simp))

theorem Conv.nilSl {t : Nat → V} {s : Store} {m : Nat} {a : List Nat} (i d e sz : Nat) (hi : t i = .t (.sc (.slice none 0 0))) (hd : s d = none) (hz : Nat.blt 0 sz = true) : Conv G ⟨t, s, m, a⟩ ⟨upd t i (.sl .n d), upd s d (some (some (.ar e sz []))), m, a⟩ :=
  Conv.nilSlot (st := ⟨t, s, m, a⟩) hi hd hz

/-- weaker knowledge of nil -/
theorem relT_u {w : World} {F : Nat → Prop} {nl : Nl} {rows : List (List T)} {v : Value} (h : RelT w F (.fz nl rows) v) : RelT w F (.fz .u rows) v := by
  cases h with
  | nil _ h => exact .nil _ (by simp)
  | mt _ a cap h => exact .mt _ a cap (by simp)
  | fz _ _ sz b off cap val hF hn hz hsz hcap hc h1 hr => exact .fz _ rows sz b off cap val hF hn hz hsz hcap hc h1 hr
theorem Conv.fzU {t : Nat → V} {s : Store} {m : Nat} {a : List Nat} (i : Nat) (nl : Nl) (rows : List (List T)) (hi : t i = .t (.fz nl rows)) : Conv G ⟨t, s, m, a⟩ ⟨upd t i (.t (.fz .u rows)), s, m, a⟩ :=
  Conv.slot (st := ⟨t, s, m, a⟩) fun w F loc v h => by
    have h' : RelV w F loc (t i) v := h
    rw [hi] at h'
    cases h' with
    | gone _ o _ hx _ => cases hx
    | t _ _ h => exact .t _ _ (relT_u h)
theorem Conv.slU {t : Nat → V} {s : Store} {m : Nat} {a : List Nat} (i : Nat) (nl : Nl) (o : Nat) (hi : t i = .sl nl o) : Conv G ⟨t, s, m, a⟩ ⟨upd t i (.sl .u o), s, m, a⟩ :=
  Conv.slot (st := ⟨t, s, m, a⟩) fun w F loc v h => by
    have h' : RelV w F loc (t i) v := h
    rw [hi] at h'
    cases h' with
    | gone _ o _ hx ho => cases hx; exact .gone _ _ _ rfl ho
    | sl _ _ b n cap sz ho he hn h0 => exact .sl _ _ b n cap sz ho (by simp) (by simp) h0
theorem Conv.freezeP {t : Nat → V} {s : Store} {m : Nat} {a : List Nat} (o : Nat) (e sz : Nat) (rows : List (List T)) (ho : s o = some (some (.ar e sz rows))) :
    Conv G ⟨t, s, m, a⟩ ⟨fun i => (t i).frz o rows, fun n => cond (Nat.beq n o) (some none) ((s n).map (·.map (O.frz o rows))), m, a⟩ :=
  Conv.freeze (st := ⟨t, s, m, a⟩) (by show Mc.get s o = _; unfold Mc.get; rw [ho])
end Go.Proofs.Ytcadbihgfahjjaa.Mc

/- THE MACHINE (28): values that tell less. -/
namespace Go.Proofs.Ytcadbihgfahjjaa.Mc
open Go.RowKit
variable {P : Program} {G : Glob} {D : Dec}

mutual
inductive Weak : V → V → Prop where
  | refl (x : V) : Weak x x
  | nil (nl : Nl) (h : nl ≠ .e) : Weak (.t (.sc (.slice none 0 0))) (.t (.fz nl []))
  | fz (nl : Nl) (rows : List (List T)) : Weak (.t (.fz nl rows)) (.t (.fz .u rows))
  | sl (nl : Nl) (o : Nat) : Weak (.sl nl o) (.sl .u o)
  | dead (x : V) : Weak x .dead
  | ag (xs ys : List V) (h : WeakL xs ys) : Weak (.ag xs) (.ag ys)
  | tp (xs ys : List V) (h : WeakL xs ys) : Weak (.tp xs) (.tp ys)
  | ifc (t : TypeId) (x y : V) (h : Weak x y) : Weak (.ifc t x) (.ifc t y)
inductive WeakL : List V → List V → Prop where
  | nil : WeakL [] []
  | cons (x y : V) (xs ys : List V) (h : Weak x y) (hs : WeakL xs ys) : WeakL (x :: xs) (y :: ys)
end

theorem WeakL.get : ∀ {xs ys : List V}, WeakL xs ys → xs.length = ys.length ∧ ∀ (j : Nat) (y : V), ys[j]? = some y → ∃ x, xs[j]? = some x ∧ Weak x y
  | _, _, .nil => ⟨rfl, fun j y h => by simp at h⟩
  | _, _, .cons x y xs ys h hs => by
    obtain ⟨h1, h2⟩ := WeakL.get hs
    refine ⟨by simp [h1], fun j z hj => ?_⟩
    cases j with
    | zero => cases hj; exact ⟨x, rfl, h⟩
    | succ j => simpa using h2 j z (by simpa using hj)

theorem Weak.rel {w : World} {F : Nat → Prop} {loc : Nat → Option Loc} {x : V} {v : Value} (h : RelV w F loc x v) : ∀ {y : V}, Weak x y → RelV w F loc y v := by
  have lists : ∀ {xs ys : List V} {vs : List Value} {val : Nat → Value}, xs.length = vs.length → (∀ j, j < xs.length → vs[j]? = some (val j)) → (∀ (j : Nat) (x : V), xs[j]? = some x → ∀ {y : V}, Weak x y → RelV w F loc y (val j)) → WeakL xs ys →
      ys.length = vs.length ∧ (∀ j, j < ys.length → vs[j]? = some (val j)) ∧ ∀ (j : Nat) (y : V), ys[j]? = some y → RelV w F loc y (val j) := by
    intro xs ys vs val hl hv ih hW
    obtain ⟨h1, h2⟩ := hW.get
    refine ⟨by omega, fun j hj => hv j (by omega), fun j y hj => ?_⟩
    obtain ⟨x, hx, hw⟩ := h2 j y hj
    exact ih j x hx hw
  induction h with
  | t x v h =>
    intro y hW
    cases hW with
    | refl => exact .t x v h
    | nil nl hn => cases h; exact .t _ _ (.nil nl hn)
    | fz nl rows => exact .t _ _ (relT_u h)
    | dead => exact .dead _
  | gone x o v hx ho =>
    intro y hW
    cases hW with
    | refl => exact .gone x o v hx ho
    | nil nl hn => cases hx
    | fz nl rows => cases hx
    | sl nl o' => cases hx; exact .gone _ _ _ rfl ho
    | dead => exact .dead _
    | ag => cases hx
    | tp => cases hx
    | ifc => cases hx
  | dead v =>
    intro y hW
    cases hW <;> exact .dead _
  | sl nl o b n cap sz ho he hn h0 =>
    intro y hW
    cases hW with
    | refl => exact .sl nl o b n cap sz ho he hn h0
    | sl => exact .sl _ _ b n cap sz ho (by simp) (by simp) h0
    | dead => exact .dead _
  | sw o off len b n cap sz a ho hl ha h0 hn =>
    intro y hW
    cases hW with
    | refl => exact .sw o off len b n cap sz a ho hl ha h0 hn
    | dead => exact .dead _
  | pt o off b ho => intro y hW; cases hW with
    | refl => exact .pt o off b ho
    | dead => exact .dead _
  | pe o i off b n cap sz ho hi => intro y hW; cases hW with
    | refl => exact .pe o i off b n cap sz ho hi
    | dead => exact .dead _
  | pf cells off b o0 val hF hc hr => intro y hW; cases hW with
    | refl => exact .pf cells off b o0 val hF hc hr
    | dead => exact .dead _
  | mp o b ho => intro y hW; cases hW with
    | refl => exact .mp o b ho
    | dead => exact .dead _
  | it o b ho => intro y hW; cases hW with
    | refl => exact .it o b ho
    | dead => exact .dead _
  | fn f xs vs val hl hv h ih => intro y hW; cases hW with
    | refl => exact .fn f xs vs val hl hv h
    | dead => exact .dead _
  | ag xs vs val hl hv h ih => intro y hW; cases hW with
    | refl => exact .ag xs vs val hl hv h
    | dead => exact .dead _
    | ag _ ys hs =>
      obtain ⟨h1, h2, h3⟩ := lists hl hv ih hs
      exact .ag ys vs val h1 h2 h3
  | tp xs vs val hl hv h ih => intro y hW; cases hW with
    | refl => exact .tp xs vs val hl hv h
    | dead => exact .dead _
    | tp _ ys hs =>
      obtain ⟨h1, h2, h3⟩ := lists hl hv ih hs
      exact .tp ys vs val h1 h2 h3
  | ifc t x v h ih => intro y hW; cases hW with
    | refl => exact .ifc t x v h
    | dead => exact .dead _
    | ifc _ _ z hz => exact .ifc t z v (ih hz)

theorem Conv.weak {t : Nat → V} {s : Store} {m : Nat} {a : List Nat} (i : Nat) (x y : V) (hi : t i = x) (h : Weak x y) : Conv G ⟨t, s, m, a⟩ ⟨upd t i y, s, m, a⟩ :=
  Conv.slot (st := ⟨t, s, m, a⟩) fun w F loc v hv => by
    have hv' : RelV w F loc (t i) v := hv
    rw [hi] at hv'
    exact Weak.rel hv' h

/-- an object that tells less -/
theorem RelS.weakBox {B : Base} {w : World} {F : Nat → Prop} {loc : Nat → Option Loc} {s : Store} (hS : RelS G B w F loc s) {o e : Nat} {xs ys : List V} (ho : s o = some (some (.bx e xs))) (h : WeakL xs ys) :
    RelS G B w F loc (upd s o (some (some (.bx e ys)))) := by
  refine { hS with obs := ?_, dom := ?_ }
  · intro n obj hn
    by_cases hne : n = o
    · subst hne
      rw [upd_self] at hn
      cases hn
      obtain ⟨l, hl, hr⟩ := hS.obs n _ ho
      refine ⟨l, hl, ?_⟩
      cases hr with
      | bx _ _ cs b hb hlen hr =>
        obtain ⟨h1, h2⟩ := h.get
        refine .bx e ys cs b hb (by omega) fun j y hj => ?_
        obtain ⟨x, hx, hw⟩ := h2 j y hj
        obtain ⟨v, hv, h3, h4⟩ := hr j x hx
        exact ⟨v, hv, h3, Weak.rel h4 hw⟩
    · rw [upd_ne _ _ hne] at hn; exact hS.obs n obj hn
  · intro n l hl
    by_cases hne : n = o
    · subst hne; exact ⟨_, upd_self _ _ _⟩
    · obtain ⟨ob, h'⟩ := hS.dom n l hl
      exact ⟨ob, by rw [upd_ne _ _ hne]; exact h'⟩

theorem Conv.weakBox {t : Nat → V} {s : Store} {m : Nat} {a : List Nat} (o e : Nat) (xs ys : List V) (ho : s o = some (some (.bx e xs))) (h : WeakL xs ys) : Conv G ⟨t, s, m, a⟩ ⟨t, upd s o (some (some (.bx e ys))), m, a⟩ :=
  fun _ F loc _ _ hR => ⟨F, loc, hR.s.weakBox ho h, hR.t, hR.n, hR.a⟩

/-- a nil slice in a variable's cell: then an owned empty slice -/
theorem Conv.nilBox {t : Nat → V} {s : Store} {m : Nat} {a : List Nat} (o e0 : Nat) (xs : List V) (j d e sz : Nat) (ho : s o = some (some (.bx e0 xs))) (hj : xs[j]? = some (.t (.sc (.slice none 0 0)))) (hd : s d = none) (hz : Nat.blt 0 sz = true) :
    Conv G ⟨t, s, m, a⟩ ⟨t, upd (upd s d (some (some (.ar e sz [])))) o (some (some (.bx e0 (xs.set j (.sl .n d))))), m, a⟩ := by
  intro B F loc tmps w hR
  have hod : o ≠ d := by rintro rfl; rw [hd] at ho; cases ho
  obtain ⟨h1, h2⟩ := hR.s.nilRow (e := e) (s := s) hd (by simpa using hz)
  refine ⟨F, _, ?_, fun i => (hR.t i).mono (Kept.refl _ _) h2, hR.n, hR.a⟩
  refine { h1 with obs := ?_, dom := ?_ }
  · intro n obj hn
    by_cases hne : n = o
    · subst hne
      have hn' : upd (upd s d (some (some (.ar e sz [])))) n (some (some (.bx e0 (xs.set j (.sl .n d))))) n = some obj := hn
      rw [upd_self] at hn'
      cases hn'
      obtain ⟨l, hl, hr⟩ := h1.obs n _ (by rw [upd_ne _ _ hod]; exact ho)
      refine ⟨l, hl, ?_⟩
      cases hr with
      | bx _ _ cs b hb hlen hr =>
        refine .bx e0 _ cs b hb (by simpa using hlen) fun k y hk => ?_
        rw [List.getElem?_set] at hk
        split at hk
        · rename_i hjk
          subst hjk
          split at hk
          · cases hk
            obtain ⟨v, hv, h3, h4⟩ := hr j _ hj
            have := relV_sc h4
            subst this
            exact ⟨_, hv, h3, relV_nil (upd_self _ _ _) rfl⟩
          · cases hk
        · exact hr k y hk
    · have hn' : upd (upd s d (some (some (.ar e sz [])))) o (some (some (.bx e0 (xs.set j (.sl .n d))))) n = some obj := hn
      rw [upd_ne _ _ hne] at hn'; exact h1.obs n obj hn'
  · intro n l hl
    by_cases hne : n = o
    · subst hne; exact ⟨_, upd_self _ _ _⟩
    · obtain ⟨ob, h'⟩ := h1.dom n l hl
      refine ⟨ob, ?_⟩
      show upd (upd s d (some (some (.ar e sz [])))) o (some (some (.bx e0 (xs.set j (.sl .n d))))) n = _
      rw [upd_ne _ _ hne]; exact h'
end Go.Proofs.Ytcadbihgfahjjaa.Mc

/- THE MACHINE (29): laws with what is asked of an element in one test. -/
namespace Go.Proofs.Ytcadbihgfahjjaa.Mc
open Go.RowKit
variable {P : Program} {G : Glob} {D : Dec} {st : St} {o : Oper}

def okElem (D : Dec) (e : Nat) : Bool := D.has e && (match D.zero e with | some z => Nat.beq z.cells.size (D.size e) | none => false) && Nat.blt 0 (D.size e) && Nat.ble 1 (D.bytes e)

theorem okElem_spec {e : Nat} (h : okElem D e = true) : ∃ de z, D.und e = some de ∧ D.zero e = some z ∧ Nat.beq z.cells.size (D.size e) = true ∧ Nat.blt 0 (D.size e) = true ∧ Nat.ble 1 (D.bytes e) = true := by
  simp only [okElem, Bool.and_eq_true] at h
  obtain ⟨⟨⟨h1, h2⟩, h3⟩, h4⟩ := h
  obtain ⟨de, hde⟩ := has_some h1
  split at h2
  · rename_i z hz; exact ⟨de, z, hde, hz, h2, h3, h4⟩
  · cases h2

theorem apP_ok (hg : Good P D) {β : Type} {x y : Operand} {t e d : Nat} {nl : Nl} {enc : β → List T} {xs ys : List β} {oo : Option Nat}
    (hop : o.op = .call ⟨.builtin .append, #[x, y], #[t, t]⟩) (hu : D.und t = some (.slice e)) (he : okElem D e = true)
    (hd : st.s d = none) (htg : tgtV st.s e (D.size e) (ev G st.t x) = some (nl, xs.map enc, oo)) (hsr : srcV st.s (ev G st.t y) = some (ys.map enc)) (hw : Wide (D.size e) enc)
    {bz : Nat} (hbz : D.bytes e = bz) (hby : decide ((xs.length + ys.length) * bz ≤ 140737488355328) = true) :
    OkV P G o st (.sl nl d) (upd (killS st.s oo) d (some (some (.ar e (D.size e) ((xs ++ ys).map enc))))) := by
  obtain ⟨de, z, h1, h2, h3, h4, h5⟩ := okElem_spec he
  subst hbz
  exact app_ok hg hop hu h1 h2 h3 h4 hd htg hsr hw h5 hby

theorem bsP_ok (hg : Good P D) {parts : Array (Nat × Operand)} {t e d len : Nat} {rows : List (List T)}
    (ho : o.op = .buildSlice t len parts) (hu : D.und t = some (.slice e)) (he : D.has e = true) (hd : st.s d = none) (hl : litRows D st.s e len (parts.toList.map fun p => (p.1, ev G st.t p.2)) = some rows)
    (hsm : Nat.ble (len * D.size e) 16777216 = true) : OkV P G o st (.sl .e d) (upd st.s d (some (some (.ar e (D.size e) rows)))) := by
  obtain ⟨de, hde⟩ := has_some he
  exact buildSlice_ok hg ho hu hde hd hl hsm
end Go.Proofs.Ytcadbihgfahjjaa.Mc

/- THE MACHINE (30): shifts and divisions by what is not spelled out. -/
namespace Go.Proofs.Ytcadbihgfahjjaa.Mc
open Go.RowKit
variable {P : Program} {G : Glob} {D : Dec} {st : St} {o : Oper}

theorem shl_ok (hg : Good P D) {t q : TypeId} {x y : Operand} {k k' : IntKind} {a b : Int} (hop : o.op = .binOp .shl t x y q) (hx : ev G st.t x = vI k a) (hy : ev G st.t y = vI k' b) (h : decide (0 ≤ b) = true) :
    OkV P G o st (vI k (k.wrap (a * 2 ^ min b.toNat k.bits))) st.s := by
  refine core_ok hg hop ?_
  show (if kd (ev G st.t x) == .ifc && !(isConst y) then none else binV D st.s .shl t (ev G st.t x) (ev G st.t y)) = _
  rw [hx, hy]
  have h' := of_decide_eq_true h
  have hn : ¬ b < 0 := by omega
  show (if (Kd.no == Kd.ifc && !isConst y) = true then none else binV D st.s .shl t (vI k a) (vI k' b)) = _
  rw [if_neg (by simp)]
  simp only [binV, vI, bin, if_neg hn, Option.map_some]
theorem shr_ok (hg : Good P D) {t q : TypeId} {x y : Operand} {k k' : IntKind} {a b : Int} (hop : o.op = .binOp .shr t x y q) (hx : ev G st.t x = vI k a) (hy : ev G st.t y = vI k' b) (h : decide (0 ≤ b) = true) :
    OkV P G o st (vI k (a.fdiv (2 ^ min b.toNat k.bits))) st.s := by
  refine core_ok hg hop ?_
  show (if kd (ev G st.t x) == .ifc && !(isConst y) then none else binV D st.s .shr t (ev G st.t x) (ev G st.t y)) = _
  rw [hx, hy]
  have h' := of_decide_eq_true h
  have hn : ¬ b < 0 := by omega
  show (if (Kd.no == Kd.ifc && !isConst y) = true then none else binV D st.s .shr t (vI k a) (vI k' b)) = _
  rw [if_neg (by simp)]
  simp only [binV, vI, bin, if_neg hn, Option.map_some]
theorem quo_ok (hg : Good P D) {t q : TypeId} {x y : Operand} {k : IntKind} {a b : Int} (hop : o.op = .binOp .quo t x y q) (hx : ev G st.t x = vI k a) (hy : ev G st.t y = vI k b) (h : (b != 0) = true) :
    OkV P G o st (vI k (k.wrap (a.tdiv b))) st.s := by
  refine core_ok hg hop ?_
  show (if kd (ev G st.t x) == .ifc && !(isConst y) then none else binV D st.s .quo t (ev G st.t x) (ev G st.t y)) = _
  rw [hx, hy]
  have hn : b ≠ 0 := by simpa using h
  show (if (Kd.no == Kd.ifc && !isConst y) = true then none else binV D st.s .quo t (vI k a) (vI k b)) = _
  rw [if_neg (by simp)]
  simp only [binV, vI, bin, intBin, if_true, if_neg hn, Option.map_some]
theorem rem_ok (hg : Good P D) {t q : TypeId} {x y : Operand} {k : IntKind} {a b : Int} (hop : o.op = .binOp .rem t x y q) (hx : ev G st.t x = vI k a) (hy : ev G st.t y = vI k b) (h : (b != 0) = true) :
    OkV P G o st (vI k (a.tmod b)) st.s := by
  refine core_ok hg hop ?_
  show (if kd (ev G st.t x) == .ifc && !(isConst y) then none else binV D st.s .rem t (ev G st.t x) (ev G st.t y)) = _
  rw [hx, hy]
  have hn : b ≠ 0 := by simpa using h
  show (if (Kd.no == Kd.ifc && !isConst y) = true then none else binV D st.s .rem t (vI k a) (vI k b)) = _
  rw [if_neg (by simp)]
  simp only [binV, vI, bin, intBin, if_true, if_neg hn, Option.map_some]
end Go.Proofs.Ytcadbihgfahjjaa.Mc

/- THE MACHINE (31): from what a function computes to what a call of it does. -/
namespace Go.Proofs.Ytcadbihgfahjjaa.Mc
open Go.RowKit
variable {P : Program}

def oldF (W : World) : Nat → Prop := fun b => b < W.heap.size
def noLoc : Nat → Option Loc := fun _ => none

theorem relS_start (W : World) (hn : ∀ o l, noLoc o = some l → 1000000 ≤ o) : RelS noG (baseOf noLoc W (oldF W) hn) W (oldF W) noLoc (stoL []) := by
  refine ⟨?_, ?_, ?_, ?_, ?_, fun _ h => h, rfl, rfl, rfl, Nat.le_refl _, fun _ _ _ => rfl, fun _ _ h => .inl h, ?_⟩
  · intro o obj h; cases h
  · intro o l h; cases h
  · intro o o' l l' b h; cases h
  · intro o l b h; cases h
  · intro b hb; exact ⟨hb, .inl hb⟩
  · intro g cells h; cases h

theorem CTd.calls {f : FuncId} {vs : List V} (h : CTd P f vs [] (vB true) emptyS) {W : World} {args : Array Value} (hA : RelL W (oldF W) noLoc vs args.toList) :
    Calls P f args W fun e w' => e = .returned (.bool true) ∧ Below W.heap.size W w' := by
  have := h (oldF W) noLoc W args.toList (fun o l h => by cases h) (relS_start W _) hA
  refine this.mono ?_
  rintro e w' ⟨v, F', loc', r, s', rfl, hS, hr, rfl, rfl⟩
  refine ⟨by rw [relV_bool hr], ⟨hS.os, hS.tape, hS.output, hS.size, fun k hk => hS.keep k hk fun ⟨o, l, h, _⟩ => by cases h⟩⟩

variable {W : World} {F : Nat → Prop} {loc : Nat → Option Loc}
theorem relL_nil : RelL W F loc [] [] := ⟨rfl, by simp⟩
theorem relL_cons {x : V} {v : Value} {xs : List V} {vs : List Value} (h : RelV W F loc x v) (k : RelL W F loc xs vs) : RelL W F loc (x :: xs) (v :: vs) := by
  refine ⟨by simp [k.1], fun j y hj => ?_⟩
  cases j with
  | zero => cases hj; exact ⟨v, rfl, h⟩
  | succ j => simpa using k.2 j y (by simpa using hj)
theorem relV_int (k : IntKind) (n : Int) : RelV W F loc (vI k n) (.int k n) := .t _ _ (.sc _ rfl)
theorem relV_str (s : ByteArray) : RelV W F loc (vS s) (.string s) := .t _ _ (.sc _ rfl)
theorem relV_bl (b : Bool) : RelV W F loc (vB b) (.bool b) := .t _ _ (.sc _ rfl)
end Go.Proofs.Ytcadbihgfahjjaa.Mc
