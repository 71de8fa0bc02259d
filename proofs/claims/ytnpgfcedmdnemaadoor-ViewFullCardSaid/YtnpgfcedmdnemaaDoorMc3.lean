/- The machine: abstract values and stores, and the laws by which a walk goes through code. Its parts in order. -/
import Derived.Test.YtnpgfcedmdnemaaDoorMc2
import Derived.Shelf.Unicode.DecodeSlow
import Derived.Below
import Derived.Shelf.SlSortCmp.NoneTotal
import Derived.Shelf.Strings.Builder1
set_option linter.unusedVariables false
set_option linter.unusedSimpArgs false
set_option linter.constructorNameAsVariable false
/- THE MACHINE (50): typed states turned (2): freezing, nil; shapes. -/
namespace Go.Proofs.YtnpgfcedmdnemaaDoor.Mc
open Go.RowKit
variable [Mo]
variable {P : Program} {D : Dec}

mutual
def X.frz (o : Nat) (r : Row) (rows : List r.den) : X → X
  | .sl nl o' => cond (Nat.beq o' o) (.fz nl r rows) (.sl nl o')
  | .sw o' off len => cond (Nat.beq o' o) (.fz .u r ((rows.drop off).take len)) (.sw o' off len)
  | .pe o' i off => cond (Nat.beq o' o) .dead (.pe o' i off)
  | .fn g caps => .fn g (xfrzL o r rows caps)
  | .ag cs => .ag (xfrzL o r rows cs)
  | .tp cs => .tp (xfrzL o r rows cs)
  | .ifc t x => .ifc t (X.frz o r rows x)
  | x => x
def xfrzL (o : Nat) (r : Row) (rows : List r.den) : List X → List X
  | [] => []
  | x :: xs => X.frz o r rows x :: xfrzL o r rows xs
end
omit [Mo] in
mutual
theorem X.frz_enc (o : Nat) (r : Row) (rows : List r.den) : ∀ (x : X), (x.frz o r rows).enc = x.enc.frz o (rows.map r.en)
  | .sl nl o' => by simp only [X.frz, X.enc, V.frz]; cases Nat.beq o' o <;> rfl
  | .sw o' off len => by simp only [X.frz, X.enc, V.frz]; cases Nat.beq o' o <;> simp [X.enc, List.map_take, List.map_drop]
  | .pe o' i off => by simp only [X.frz, X.enc, V.frz]; cases Nat.beq o' o <;> rfl
  | .fn g caps => by simp only [X.frz, X.enc, V.frz, xfrzL_enc o r rows caps]
  | .ag cs => by simp only [X.frz, X.enc, V.frz, xfrzL_enc o r rows cs]
  | .tp cs => by simp only [X.frz, X.enc, V.frz, xfrzL_enc o r rows cs]
  | .ifc t x => by simp only [X.frz, X.enc, V.frz, X.frz_enc o r rows x]
  | .c v => by
    show X.enc (.c v) = V.frz o _ (X.enc (.c v))
    simp only [X.enc]
    cases plain v <;> rfl
  | .i k n => rfl
  | .b q => rfl
  | .s s => rfl
  | .fz nl r' xs => rfl
  | .pf r' x off => rfl
  | .pt o' off => rfl
  | .mp o' => rfl
  | .it o' => rfl
  | .sp o' => rfl
  | .dead => rfl
theorem xfrzL_enc (o : Nat) (r : Row) (rows : List r.den) : ∀ (xs : List X), encL (xfrzL o r rows xs) = frzL o (rows.map r.en) (encL xs)
  | [] => rfl
  | x :: xs => by simp only [xfrzL, encL, frzL, X.frz_enc o r rows x, xfrzL_enc o r rows xs]
end
def neB (o n : Nat) : Bool := !(Nat.beq n o)
omit [Mo] in
mutual
theorem X.frz_fix (o : Nat) (r : Row) (rows : List r.den) : ∀ (x : X), x.allN (neB o) = true → x.frz o r rows = x
  | .sl nl o', h => by have h' : neB o o' = true := h; unfold neB at h'; simp only [Bool.not_eq_true'] at h'; simp only [X.frz, h', cond_false]
  | .sw o' off len, h => by have h' : neB o o' = true := h; unfold neB at h'; simp only [Bool.not_eq_true'] at h'; simp only [X.frz, h', cond_false]
  | .pe o' i off, h => by have h' : neB o o' = true := h; unfold neB at h'; simp only [Bool.not_eq_true'] at h'; simp only [X.frz, h', cond_false]
  | .fn g caps, h => by simp only [X.frz, xfrzL_fix o r rows caps h]
  | .ag cs, h => by simp only [X.frz, xfrzL_fix o r rows cs h]
  | .tp cs, h => by simp only [X.frz, xfrzL_fix o r rows cs h]
  | .ifc t x, h => by simp only [X.frz, X.frz_fix o r rows x h]
  | .c v, _ => rfl
  | .i k n, _ => rfl
  | .b q, _ => rfl
  | .s s, _ => rfl
  | .fz nl r' xs, _ => rfl
  | .pf r' x off, _ => rfl
  | .pt o' off, _ => rfl
  | .mp o', _ => rfl
  | .it o', _ => rfl
  | .sp o', _ => rfl
  | .dead, _ => rfl
theorem xfrzL_fix (o : Nat) (r : Row) (rows : List r.den) : ∀ (xs : List X), allNL (neB o) xs = true → xfrzL o r rows xs = xs
  | [], _ => rfl
  | x :: xs, h => by
    simp only [allNL, Bool.and_eq_true] at h
    simp only [xfrzL, X.frz_fix o r rows x h.1, xfrzL_fix o r rows xs h.2]
end
def XO.frz (o : Nat) (r : Row) (rows : List r.den) : XO → XO
  | .bx e cells => .bx e (xfrzL o r rows cells)
  | x => x
omit [Mo] in
theorem XO.frz_enc (o : Nat) (r : Row) (rows : List r.den) (x : XO) : (x.frz o r rows).enc = O.frz o (rows.map r.en) x.enc := by
  cases x with
  | bx e cells => simp only [XO.frz, XO.enc, O.frz, xfrzL_enc]
  | _ => rfl
omit [Mo] in
theorem XO.frz_fix (o : Nat) (r : Row) (rows : List r.den) (x : XO) (h : x.allN (neB o) = true) : x.frz o r rows = x := by
  cases x with
  | bx e cells => simp only [XO.frz, xfrzL_fix o r rows cells h]
  | _ => rfl

omit [Mo] in
theorem lk_map {α β : Type} (f : Nat → α → β) : ∀ (l : List (Nat × α)) (n : Nat), lk (l.map fun p => (p.1, f p.1 p.2)) n = (lk l n).map (f n)
  | [], n => rfl
  | (i, a) :: l, n => by
    rw [List.map_cons, lk, lk]
    cases hb : Nat.beq i n with
    | true => rw [Nat.eq_of_beq_eq_true hb]; rfl
    | false => exact lk_map f l n

/-- an owned row, from now on data -/
def xfreeze (E : XE) (o : Nat) (st : XSt) : Option XSt :=
  match lk st.s o with
  | some (some (.ar _ r rows)) => cond (E.t.all (fun p => p.2.allN (neB o)) && E.s.all (fun p => neB o p.1 && oAll (neB o) p.2))
      (some ⟨st.t.map fun p => (p.1, p.2.frz o r rows), st.s.map fun p => (p.1, cond (Nat.beq p.1 o) none (p.2.map (XO.frz o r rows)))⟩) none
  | _ => none
theorem Conv.xfreeze {E : XE} {o : Nat} {st st' : XSt} (h : Mc.xfreeze E o st = some st') : Conv noG (encSt E st) (encSt E st') := by
  unfold Mc.xfreeze at h
  split at h
  · rename_i e r rows hl
    obtain ⟨hc, rfl⟩ := cond_some h
    simp only [Bool.and_eq_true] at hc
    obtain ⟨h1, h2⟩ := hc
    rw [List.all_eq_true] at h1 h2
    have ho : encS (st.s ++ E.s) o = some (some (.ar e r.len (rows.map r.en))) := by unfold encS; rw [lk_append, hl]; rfl
    have := Conv.freezeP (G := noG) (t := encT (st.t ++ E.t)) (s := encS (st.s ++ E.s)) (m := E.n) (a := E.a) o e r.len (rows.map r.en) ho
    have e1 : (fun i => (encT (st.t ++ E.t) i).frz o (rows.map r.en)) = encT ((st.t.map fun p => (p.1, p.2.frz o r rows)) ++ E.t) := by
      funext i
      rw [encT_lk, encT_lk, ← X.frz_enc, lk_append, lk_append, lk_map (fun _ x => X.frz o r rows x)]
      cases lk st.t i with
      | some x => rfl
      | none =>
        simp only [Option.map_none]
        cases he : lk E.t i with
        | none => rfl
        | some x => simp only; rw [X.frz_fix o r rows x (h1 _ (lk_mem he))]
    have e2 : (fun n => cond (Nat.beq n o) (some none) ((encS (st.s ++ E.s) n).map (·.map (O.frz o (rows.map r.en))))) = encS ((st.s.map fun p => (p.1, cond (Nat.beq p.1 o) none (p.2.map (XO.frz o r rows)))) ++ E.s) := by
      funext n
      unfold encS
      rw [lk_append, lk_append, lk_map (fun (i : Nat) (x : Option XO) => cond (Nat.beq i o) none (x.map (XO.frz o r rows)))]
      cases hb : Nat.beq n o with
      | true =>
        have := Nat.eq_of_beq_eq_true hb
        subst this
        rw [hl]; simp
      | false =>
        cases hs : lk st.s n with
        | some x => cases x <;> simp [XO.frz_enc]
        | none =>
          simp only [Option.map_none, cond_false]
          cases he : lk E.s n with
          | none => rfl
          | some x =>
            have := h2 _ (lk_mem he)
            simp only [Bool.and_eq_true] at this
            cases x with
            | none => rfl
            | some y => simp only [Option.map_some]; rw [← XO.frz_enc, XO.frz_fix o r rows y this.2]
    show Conv noG ⟨_, _, _, _⟩ ⟨_, _, _, _⟩
    rw [e1, e2] at this
    exact this
  · cases h

/-- a slot that holds nil: then an owned empty row -/
def xnilSlot (E : XE) (i d e : Nat) (r : Row) (st : XSt) : Option XSt :=
  match lk st.t i with
  | some (.c v) => cond (isNilSl v && (lk (st.s ++ E.s) d).isNone && Nat.blt 0 r.len) (some ⟨(i, .sl .n d) :: st.t, (d, some (.ar e r [])) :: st.s⟩) none
  | _ => none
omit [Mo] in
theorem encS_free {s : XS} {d : Nat} (h : (lk s d).isNone = true) : encS s d = none := by
  rw [Option.isNone_iff_eq_none] at h
  unfold encS; rw [h]
theorem Conv.xnilSlot {E : XE} {i d e : Nat} {r : Row} {st st' : XSt} (h : Mc.xnilSlot E i d e r st = some st') : Conv noG (encSt E st) (encSt E st') := by
  unfold Mc.xnilSlot at h
  split at h
  · rename_i v hl
    obtain ⟨hc, rfl⟩ := cond_some h
    simp only [Bool.and_eq_true] at hc
    obtain ⟨⟨h1, h2⟩, h3⟩ := hc
    have hv := isNilSl_eq h1
    subst hv
    have hi : encT (st.t ++ E.t) i = .t (.sc (.slice none 0 0)) := by unfold encT; rw [lk_append, hl]; simp [X.enc, plain]
    have := Conv.nilSl (G := noG) (t := encT (st.t ++ E.t)) (s := encS (st.s ++ E.s)) (m := E.n) (a := E.a) i d e r.len hi (encS_free h2) h3
    show Conv noG ⟨_, _, _, _⟩ ⟨_, _, _, _⟩
    rw [List.cons_append, encT_cons]
    rw [show encS ((d, some (XO.ar e r [])) :: st.s ++ E.s) = upd (encS (st.s ++ E.s)) d (some (some (.ar e r.len []))) from encS_over [(d, some (XO.ar e r []))] (st.s ++ E.s)]
    exact this
  · cases h

/-- a variable's cell that holds nil -/
def xnilBox (E : XE) (o j d e : Nat) (r : Row) (st : XSt) : Option XSt :=
  match lk st.s o with
  | some (some (.bx e0 cells)) => match cells[j]? with
    | some (.c v) => cond (isNilSl v && (lk (st.s ++ E.s) d).isNone && Nat.blt 0 r.len) (some ⟨st.t, (o, some (.bx e0 (cells.set j (.sl .n d)))) :: (d, some (.ar e r [])) :: st.s⟩) none
    | _ => none
  | _ => none
theorem Conv.xnilBox {E : XE} {o j d e : Nat} {r : Row} {st st' : XSt} (h : Mc.xnilBox E o j d e r st = some st') : Conv noG (encSt E st) (encSt E st') := by
  unfold Mc.xnilBox at h
  split at h
  · rename_i e0 cells hl
    split at h
    · rename_i v hj
      obtain ⟨hc, rfl⟩ := cond_some h
      simp only [Bool.and_eq_true] at hc
      obtain ⟨⟨h1, h2⟩, h3⟩ := hc
      have hv := isNilSl_eq h1
      subst hv
      have ho : encS (st.s ++ E.s) o = some (some (.bx e0 (encL cells))) := by unfold encS; rw [lk_append, hl]; rfl
      have := Conv.nilBox (G := noG) (t := encT (st.t ++ E.t)) (s := encS (st.s ++ E.s)) (m := E.n) (a := E.a) o e0 (encL cells) j d e r.len ho (by rw [encL_map, List.getElem?_map, hj]; simp [X.enc, plain]) (encS_free h2) h3
      show Conv noG ⟨_, _, _, _⟩ ⟨_, _, _, _⟩
      rw [show encS ((o, some (XO.bx e0 (cells.set j (.sl .n d)))) :: (d, some (XO.ar e r [])) :: st.s ++ E.s) = upd (upd (encS (st.s ++ E.s)) d (some (some (.ar e r.len [])))) o (some (some (.bx e0 ((encL cells).set j (.sl .n d))))) from by
        have := encS_over [(o, some (XO.bx e0 (cells.set j (.sl .n d)))), (d, some (XO.ar e r []))] (st.s ++ E.s)
        rw [show encL cells = cells.map X.enc from encL_map cells, ← show (cells.set j (X.sl .n d)).map X.enc = (cells.map X.enc).set j (.sl .n d) from List.map_set, ← encL_map]
        exact this]
      exact this
    · cases h
  · cases h

/-! semantic weakening -/
def Wk (x y : V) : Prop := ∀ (w : World) (F : Nat → Prop) (loc : Nat → Option Loc) (v : Value), RelV w F loc x v → RelV w F loc y v
omit [Mo] in
theorem Wk.refl (x : V) : Wk x x := fun _ _ _ _ h => h
omit [Mo] in
theorem Wk.of {x y : V} (h : Weak x y) : Wk x y := fun _ _ _ _ k => h.rel k
def WkL (xs ys : List V) : Prop := xs.length = ys.length ∧ ∀ (j : Nat) (y : V), ys[j]? = some y → ∃ x, xs[j]? = some x ∧ Wk x y
omit [Mo] in
theorem WkL.nil : WkL [] [] := ⟨rfl, fun j y h => by simp at h⟩
omit [Mo] in
theorem WkL.cons {x y : V} {xs ys : List V} (h : Wk x y) (k : WkL xs ys) : WkL (x :: xs) (y :: ys) := by
  refine ⟨by simp [k.1], fun j z hz => ?_⟩
  cases j with
  | zero => cases hz; exact ⟨x, rfl, h⟩
  | succ j => exact k.2 j z (by simpa using hz)
omit [Mo] in
theorem Wk.ag {xs ys : List V} (h : WkL xs ys) : Wk (.ag xs) (.ag ys) := by
  intro w F loc v k
  cases k with
  | gone _ o _ hx _ => cases hx
  | ag _ vs val hl hv hr =>
    refine .ag ys vs val (by rw [← h.1]; exact hl) (fun j hj => hv j (by rw [h.1]; exact hj)) (fun j y hy => ?_)
    obtain ⟨x, hx, hw⟩ := h.2 j y hy
    exact hw _ _ _ _ (hr j x hx)
omit [Mo] in
theorem Wk.tp {xs ys : List V} (h : WkL xs ys) : Wk (.tp xs) (.tp ys) := by
  intro w F loc v k
  cases k with
  | gone _ o _ hx _ => cases hx
  | tp _ vs val hl hv hr =>
    refine .tp ys vs val (by rw [← h.1]; exact hl) (fun j hj => hv j (by rw [h.1]; exact hj)) (fun j y hy => ?_)
    obtain ⟨x, hx, hw⟩ := h.2 j y hy
    exact hw _ _ _ _ (hr j x hx)
omit [Mo] in
theorem Wk.fn {f : FuncId} {xs ys : List V} (h : WkL xs ys) : Wk (.fn f xs) (.fn f ys) := by
  intro w F loc v k
  cases k with
  | gone _ o _ hx _ => cases hx
  | fn _ _ vs val hl hv hr =>
    refine .fn f ys vs val (by rw [← h.1]; exact hl) (fun j hj => hv j (by rw [h.1]; exact hj)) (fun j y hy => ?_)
    obtain ⟨x, hx, hw⟩ := h.2 j y hy
    exact hw _ _ _ _ (hr j x hx)
omit [Mo] in
theorem Wk.ifc {t : TypeId} {x y : V} (h : Wk x y) : Wk (.ifc t x) (.ifc t y) := by
  intro w F loc v k
  cases k with
  | gone _ o _ hx _ => cases hx
  | ifc _ _ v hv => exact .ifc _ _ _ (h _ _ _ _ hv)
theorem RelS.wkBox {B : Base} {w : World} {F : Nat → Prop} {loc : Nat → Option Loc} {s : Store} (hS : RelS noG B w F loc s) {o e : Nat} {xs ys : List V} (ho : s o = some (some (.bx e xs))) (h : WkL xs ys) :
    RelS noG B w F loc (upd s o (some (some (.bx e ys)))) := by
  refine { hS with obs := fun o' obj h' => ?_, dom := fun o' l hl' => ?_ }
  · by_cases hod : o' = o
    · subst hod
      rw [upd_self] at h'; cases h'
      obtain ⟨l, h1, h2⟩ := hS.obs o' _ ho
      refine ⟨l, h1, ?_⟩
      cases h2 with
      | bx _ _ cs b hb hl hr =>
        refine .bx e ys cs b hb (by rw [← h.1]; exact hl) fun j y hy => ?_
        obtain ⟨x, hx, hw⟩ := h.2 j y hy
        obtain ⟨v, h3, h4, h5⟩ := hr j x hx
        exact ⟨v, h3, h4, hw _ _ _ _ h5⟩
    · rw [upd_ne _ _ hod] at h'; exact hS.obs o' obj h'
  · by_cases hod : o' = o
    · subst hod; exact ⟨_, upd_self _ _ _⟩
    · rw [upd_ne _ _ hod]; exact hS.dom o' l hl'

/-! holes and shapes -/
inductive HTy where | ti | tb | ts | tn | tl (r : Row) | tw (r : Row)
def HTy.den : HTy → Type
  | .ti => Int
  | .tb => Bool
  | .ts => ByteArray
  | .tn => Nat
  | .tl r => List r.den
  | .tw r => r.den
def HTy.eq? : (a b : HTy) → Option (PLift (a = b))
  | .ti, .ti => some ⟨rfl⟩
  | .tb, .tb => some ⟨rfl⟩
  | .ts, .ts => some ⟨rfl⟩
  | .tn, .tn => some ⟨rfl⟩
  | .tl r, .tl r' => match Row.eq? r r' with | some h => some ⟨by rw [h.down]⟩ | none => none
  | .tw r, .tw r' => match Row.eq? r r' with | some h => some ⟨by rw [h.down]⟩ | none => none
  | _, _ => none
structure HV where
  t : HTy
  v : t.den
def Tup : List HTy → Type
  | [] => Unit
  | [t] => t.den
  | t :: t' :: ts => t.den × Tup (t' :: ts)
def ofTup : (ts : List HTy) → Tup ts → List HV
  | [], _ => []
  | [t], x => [⟨t, x⟩]
  | t :: t' :: ts, x => ⟨t, x.1⟩ :: ofTup (t' :: ts) x.2
def toTup : (ts : List HTy) → List HV → Option (Tup ts)
  | [], [] => some ()
  | [t], [⟨t', v⟩] => match HTy.eq? t' t with | some h => some (h.down ▸ v) | none => none
  | t :: t' :: ts, ⟨u, v⟩ :: l => match HTy.eq? u t, toTup (t' :: ts) l with | some h, some y => some (h.down ▸ v, y) | _, _ => none
  | _, _ => none
omit [Mo] in
theorem toTup_of : ∀ (ts : List HTy) (l : List HV) (y : Tup ts), toTup ts l = some y → ofTup ts y = l
  | [], [], y, _ => rfl
  | [t], [⟨t', v⟩], y, h => by
    simp only [toTup] at h
    split at h
    · rename_i g _
      obtain ⟨g⟩ := g
      subst g
      cases h; rfl
    · cases h
  | t :: t' :: ts, ⟨u, v⟩ :: l, y, h => by
    simp only [toTup] at h
    split at h
    · rename_i g z _ hz
      obtain ⟨g⟩ := g
      subst g
      cases h
      simp only [ofTup]
      rw [toTup_of (t' :: ts) l z hz]
    · cases h
  | [], _ :: _, _, h => by simp [toTup] at h
  | [t], [], _, h => by simp [toTup] at h
  | [t], _ :: _ :: _, _, h => by simp [toTup] at h
  | t :: t' :: ts, [], _, h => by simp [toTup] at h
end Go.Proofs.YtnpgfcedmdnemaaDoor.Mc

/- THE MACHINE (51): shapes: what a value is like, with holes; templates of states; a state brought to a template. -/
namespace Go.Proofs.YtnpgfcedmdnemaaDoor.Mc
open Go.RowKit
variable [Mo]
variable {P : Program} {D : Dec}

inductive Sh where
  | i (k : IntKind)
  | b
  | s
  | li (k : IntKind) (n : Int)
  | lb (q : Bool)
  | c (v : Value)
  | fz (nl : Nl) (r : Row)
  | sl (nl : Nl) (o : Nat)
  | sw (o : Nat)
  | pt (o off : Nat)
  | pe (o off : Nat)
  | pf (r : Row) (off : Nat)
  | mp (o : Nat)
  | it (o : Nat)
  | sp (o : Nat)
  | fn (f : FuncId) (l : List Sh)
  | ag (l : List Sh)
  | tp (l : List Sh)
  | ifc (t : TypeId) (x : Sh)
  | dead

def sameC : Value → Value → Bool
  | .pointer none, .pointer none => true
  | .slice none 0 0, .slice none 0 0 => true
  | .map none, .map none => true
  | .nilFunc, .nilFunc => true
  | .nilIface, .nilIface => true
  | .func (.func f) a b, .func (.func f') a' b' => Nat.beq f f' && a.isEmpty && b.isEmpty && a'.isEmpty && b'.isEmpty
  | _, _ => false
omit [Mo] in
theorem sameC_eq {v w : Value} (h : sameC v w = true) : v = w := by
  unfold sameC at h
  split at h
  all_goals first
    | rfl
    | cases h
    | skip
  rename_i f a b f' a' b'
  simp only [Bool.and_eq_true] at h
  obtain ⟨⟨⟨⟨h1, h2⟩, h3⟩, h4⟩, h5⟩ := h
  have e1 := Nat.eq_of_beq_eq_true h1
  simp only [Array.isEmpty_iff] at h2 h3 h4 h5
  rw [e1, h2, h3, h4, h5]
def nlLe : Nl → Nl → Bool
  | .e, .e => true
  | .n, .n => true
  | _, .u => true
  | _, _ => false
def nlMay : Nl → Bool | .e => false | _ => true

mutual
def getSh : Sh → X → Option (List HV)
  | .i k, .i k' n => if k' = k then some [⟨.ti, n⟩] else none
  | .b, .b q => some [⟨.tb, q⟩]
  | .s, .s x => some [⟨.ts, x⟩]
  | .li k m, .i k' n => if k' = k ∧ n = m then some [] else none
  | .lb p, .b q => if q = p then some [] else none
  | .c v, .c w => cond (sameC w v) (some []) none
  | .fz nl r, .fz nl' r' xs => cond (nlLe nl' nl) (match Row.eq? r' r with | some h => some [⟨.tl r, h.down ▸ xs⟩] | none => none) none
  | .fz nl r, .c v => cond (nlMay nl && isNilSl v) (some [⟨.tl r, []⟩]) none
  | .sl nl o, .sl nl' o' => cond (nlLe nl' nl && Nat.beq o' o) (some []) none
  | .sw o, .sw o' off len => cond (Nat.beq o' o) (some [⟨.tn, off⟩, ⟨.tn, len⟩]) none
  | .pt o off, .pt o' off' => cond (Nat.beq o' o && Nat.beq off' off) (some []) none
  | .pe o off, .pe o' i off' => cond (Nat.beq o' o && Nat.beq off' off) (some [⟨.tn, i⟩]) none
  | .pf r off, .pf r' x off' => cond (Nat.beq off' off) (match Row.eq? r' r with | some h => some [⟨.tw r, h.down ▸ x⟩] | none => none) none
  | .mp o, .mp o' => cond (Nat.beq o' o) (some []) none
  | .it o, .it o' => cond (Nat.beq o' o) (some []) none
  | .sp o, .sp o' => cond (Nat.beq o' o) (some []) none
  | .sp o, .pt o' off => cond (Nat.beq o' o && Nat.beq off 0) (some []) none
  | .sp _, .c v => cond (sameC v (.pointer none)) (some []) none
  | .fn f l, .fn f' xs => cond (Nat.beq f' f) (getL l xs) none
  | .ag l, .ag xs => getL l xs
  | .tp l, .tp xs => getL l xs
  | .ifc t s, .ifc t' x => cond (Nat.beq t' t) (getSh s x) none
  | .dead, _ => some []
  | _, _ => none
def getL : List Sh → List X → Option (List HV)
  | [], [] => some []
  | s :: l, x :: xs => match getSh s x, getL l xs with
    | some a, some b => some (a ++ b)
    | _, _ => none
  | _, _ => none
end
mutual
def fillSh : Sh → List HV → X × List HV
  | .i k, ⟨.ti, n⟩ :: l => (.i k n, l)
  | .b, ⟨.tb, q⟩ :: l => (.b q, l)
  | .s, ⟨.ts, x⟩ :: l => (.s x, l)
  | .li k m, l => (.i k m, l)
  | .lb p, l => (.b p, l)
  | .c v, l => (.c v, l)
  | .fz nl _, ⟨.tl r, xs⟩ :: l => (.fz nl r xs, l)
  | .sl nl o, l => (.sl nl o, l)
  | .sw o, ⟨.tn, off⟩ :: ⟨.tn, len⟩ :: l => (.sw o off len, l)
  | .pt o off, l => (.pt o off, l)
  | .pe o off, ⟨.tn, i⟩ :: l => (.pe o i off, l)
  | .pf _ off, ⟨.tw r, x⟩ :: l => (.pf r x off, l)
  | .mp o, l => (.mp o, l)
  | .it o, l => (.it o, l)
  | .sp o, l => (.sp o, l)
  | .fn f ss, l => let p := fillL ss l; (.fn f p.1, p.2)
  | .ag ss, l => let p := fillL ss l; (.ag p.1, p.2)
  | .tp ss, l => let p := fillL ss l; (.tp p.1, p.2)
  | .ifc t s, l => let p := fillSh s l; (.ifc t p.1, p.2)
  | _, l => (.dead, l)
def fillL : List Sh → List HV → List X × List HV
  | [], l => ([], l)
  | s :: ss, l => let p := fillSh s l; let q := fillL ss p.2; (p.1 :: q.1, q.2)
end
mutual
/-- as many holes as a shape has -/
def Sh.holes : Sh → List HTy
  | .i _ => [.ti]
  | .b => [.tb]
  | .s => [.ts]
  | .fz _ r => [.tl r]
  | .sw _ => [.tn, .tn]
  | .pe _ _ => [.tn]
  | .pf r _ => [.tw r]
  | .fn _ l => holesL l
  | .ag l => holesL l
  | .tp l => holesL l
  | .ifc _ s => s.holes
  | _ => []
def holesL : List Sh → List HTy
  | [] => []
  | s :: l => s.holes ++ holesL l
end

omit [Mo] in
theorem wk_fz {nl nl' : Nl} {rows : List (List T)} (h : nlLe nl' nl = true) : Wk (.t (.fz nl' rows)) (.t (.fz nl rows)) := by
  cases nl <;> cases nl' <;> first | (cases h; done) | exact Wk.refl _ | exact Wk.of (.fz _ _)
omit [Mo] in
theorem wk_sl {nl nl' : Nl} {o : Nat} (h : nlLe nl' nl = true) : Wk (.sl nl' o) (.sl nl o) := by
  cases nl <;> cases nl' <;> first | (cases h; done) | exact Wk.refl _ | exact Wk.of (.sl _ _)
omit [Mo] in
theorem wk_nil {nl : Nl} (h : nlMay nl = true) : Wk (.t (.sc (.slice none 0 0))) (.t (.fz nl [])) := Wk.of (.nil nl (by rintro rfl; cases h))
omit [Mo] in
theorem wk_sp (o : Nat) : Wk (.pt o 0) (.sp o) := fun w F loc v h => by
  cases h with
  | gone _ o' _ hx ho => cases hx; exact .gone _ o _ rfl ho
  | pt _ _ b ho => exact .sp o b ho
omit [Mo] in
theorem wk_spn (o : Nat) : Wk (X.enc (.c (.pointer none))) (.sp o) := fun w F loc v h => by
  have h' : RelV w F loc (.t (.sc (.pointer none))) v := h
  rw [relV_sc h']
  exact .spn o

omit [Mo] in
mutual
theorem getSh_wk : ∀ (sh : Sh) (x : X) (hs l : List HV), getSh sh x = some hs → ∃ x', fillSh sh (hs ++ l) = (x', l) ∧ Wk x.enc x'.enc
  | .dead, x, hs, l, h => by simp only [getSh] at h; cases h; exact ⟨.dead, rfl, Wk.of (.dead _)⟩
  | .i k, .i k' n, hs, l, h => by
    simp only [getSh] at h
    split at h
    · rename_i hk; cases h; subst hk; exact ⟨_, rfl, Wk.refl _⟩
    · cases h
  | .b, .b q, hs, l, h => by simp only [getSh] at h; cases h; exact ⟨_, rfl, Wk.refl _⟩
  | .s, .s q, hs, l, h => by simp only [getSh] at h; cases h; exact ⟨_, rfl, Wk.refl _⟩
  | .li k m, .i k' n, hs, l, h => by
    simp only [getSh] at h
    split at h
    · rename_i hk; cases h; obtain ⟨rfl, rfl⟩ := hk; exact ⟨_, rfl, Wk.refl _⟩
    · cases h
  | .lb p, .b q, hs, l, h => by
    simp only [getSh] at h
    split at h
    · rename_i hk; cases h; subst hk; exact ⟨_, rfl, Wk.refl _⟩
    · cases h
  | .c v, .c w, hs, l, h => by
    simp only [getSh] at h
    obtain ⟨h1, rfl⟩ := cond_some h
    exact ⟨_, rfl, by rw [sameC_eq h1]; exact Wk.refl _⟩
  | .fz nl r, .fz nl' r' xs, hs, l, h => by
    simp only [getSh] at h
    cases hc : nlLe nl' nl with
    | false => rw [hc] at h; cases h
    | true =>
      rw [hc] at h
      simp only [cond_true] at h
      split at h
      · rename_i g _
        obtain ⟨g⟩ := g
        subst g
        cases h; exact ⟨_, rfl, wk_fz hc⟩
      · cases h
  | .fz nl r, .c v, hs, l, h => by
    simp only [getSh] at h
    obtain ⟨h1, rfl⟩ := cond_some h
    simp only [Bool.and_eq_true] at h1
    obtain rfl := isNilSl_eq h1.2
    exact ⟨_, rfl, wk_nil h1.1⟩
  | .sl nl o, .sl nl' o', hs, l, h => by
    simp only [getSh] at h
    obtain ⟨h1, rfl⟩ := cond_some h
    simp only [Bool.and_eq_true] at h1
    exact ⟨_, rfl, by rw [Nat.eq_of_beq_eq_true h1.2]; exact wk_sl h1.1⟩
  | .sw o, .sw o' off len, hs, l, h => by
    simp only [getSh] at h
    obtain ⟨h1, rfl⟩ := cond_some h
    exact ⟨_, rfl, by rw [Nat.eq_of_beq_eq_true h1]; exact Wk.refl _⟩
  | .pt o off, .pt o' off', hs, l, h => by
    simp only [getSh] at h
    obtain ⟨h1, rfl⟩ := cond_some h
    simp only [Bool.and_eq_true] at h1
    exact ⟨_, rfl, by rw [Nat.eq_of_beq_eq_true h1.1, Nat.eq_of_beq_eq_true h1.2]; exact Wk.refl _⟩
  | .pe o off, .pe o' i off', hs, l, h => by
    simp only [getSh] at h
    obtain ⟨h1, rfl⟩ := cond_some h
    simp only [Bool.and_eq_true] at h1
    exact ⟨_, rfl, by rw [Nat.eq_of_beq_eq_true h1.1, Nat.eq_of_beq_eq_true h1.2]; exact Wk.refl _⟩
  | .pf r off, .pf r' x off', hs, l, h => by
    simp only [getSh] at h
    cases hc : Nat.beq off' off with
    | false => rw [hc] at h; cases h
    | true =>
      rw [hc] at h
      simp only [cond_true] at h
      split at h
      · rename_i g _
        obtain ⟨g⟩ := g
        subst g
        cases h; exact ⟨_, rfl, by rw [Nat.eq_of_beq_eq_true hc]; exact Wk.refl _⟩
      · cases h
  | .mp o, .mp o', hs, l, h => by
    simp only [getSh] at h
    obtain ⟨h1, rfl⟩ := cond_some h
    exact ⟨_, rfl, by rw [Nat.eq_of_beq_eq_true h1]; exact Wk.refl _⟩
  | .it o, .it o', hs, l, h => by
    simp only [getSh] at h
    obtain ⟨h1, rfl⟩ := cond_some h
    exact ⟨_, rfl, by rw [Nat.eq_of_beq_eq_true h1]; exact Wk.refl _⟩
  | .sp o, .sp o', hs, l, h => by
    simp only [getSh] at h
    obtain ⟨h1, rfl⟩ := cond_some h
    exact ⟨_, rfl, by rw [Nat.eq_of_beq_eq_true h1]; exact Wk.refl _⟩
  | .sp o, .pt o' off, hs, l, h => by
    simp only [getSh] at h
    obtain ⟨h1, rfl⟩ := cond_some h
    simp only [Bool.and_eq_true] at h1
    exact ⟨_, rfl, by rw [Nat.eq_of_beq_eq_true h1.1, Nat.eq_of_beq_eq_true h1.2]; exact wk_sp o⟩
  | .sp o, .c v, hs, l, h => by
    simp only [getSh] at h
    obtain ⟨h1, rfl⟩ := cond_some h
    exact ⟨_, rfl, by rw [sameC_eq h1]; exact wk_spn o⟩
  | .fn f ss, .fn f' xs, hs, l, h => by
    simp only [getSh] at h
    cases hc : Nat.beq f' f with
    | false => rw [hc] at h; cases h
    | true =>
      rw [hc] at h
      obtain ⟨xs', h1, h2⟩ := getL_wk ss xs hs l h
      exact ⟨.fn f xs', by simp only [fillSh, h1], by rw [Nat.eq_of_beq_eq_true hc]; simp only [X.enc, encL_map]; exact Wk.fn h2⟩
  | .ag ss, .ag xs, hs, l, h => by
    simp only [getSh] at h
    obtain ⟨xs', h1, h2⟩ := getL_wk ss xs hs l h
    exact ⟨.ag xs', by simp only [fillSh, h1], by simp only [X.enc, encL_map]; exact Wk.ag h2⟩
  | .tp ss, .tp xs, hs, l, h => by
    simp only [getSh] at h
    obtain ⟨xs', h1, h2⟩ := getL_wk ss xs hs l h
    exact ⟨.tp xs', by simp only [fillSh, h1], by simp only [X.enc, encL_map]; exact Wk.tp h2⟩
  | .ifc t s, .ifc t' x, hs, l, h => by
    simp only [getSh] at h
    cases hc : Nat.beq t' t with
    | false => rw [hc] at h; cases h
    | true =>
      rw [hc] at h
      obtain ⟨x', h1, h2⟩ := getSh_wk s x hs l h
      exact ⟨.ifc t x', by simp only [fillSh, h1], by rw [Nat.eq_of_beq_eq_true hc]; exact Wk.ifc h2⟩
theorem getL_wk : ∀ (ss : List Sh) (xs : List X) (hs l : List HV), getL ss xs = some hs → ∃ xs', fillL ss (hs ++ l) = (xs', l) ∧ WkL (xs.map X.enc) (xs'.map X.enc)
  | [], [], hs, l, h => by simp only [getL] at h; cases h; exact ⟨[], rfl, WkL.nil⟩
  | s :: ss, x :: xs, hs, l, h => by
    simp only [getL] at h
    split at h
    · rename_i a b ha hb
      cases h
      obtain ⟨x', h1, h2⟩ := getSh_wk s x a (b ++ l) ha
      obtain ⟨xs', h3, h4⟩ := getL_wk ss xs b l hb
      refine ⟨x' :: xs', ?_, ?_⟩
      · rw [List.append_assoc]; simp only [fillL, h1, h3]
      · exact WkL.cons h2 h4
    · cases h
end
end Go.Proofs.YtnpgfcedmdnemaaDoor.Mc

/- THE MACHINE (52): templates of states; a state brought to a template. -/
namespace Go.Proofs.YtnpgfcedmdnemaaDoor.Mc
open Go.RowKit
variable [Mo]
set_option linter.constructorNameAsVariable false
variable {P : Program} {D : Dec}

inductive OSh where
  | ar (e : TypeId) (r : Row)
  | bx (e : TypeId) (l : List Sh)
  | si
  | gone
structure Tpl where
  t : List (Nat × Sh)
  s : List (Nat × OSh)

def getO : OSh → Option XO → Option (List HV)
  | .ar e r, some (.ar e' r' xs) => cond (Nat.beq e' e) (match Row.eq? r' r with | some h => some [⟨.tl r, h.down ▸ xs⟩] | none => none) none
  | .bx e l, some (.bx e' cells) => cond (Nat.beq e' e) (getL l cells) none
  | .si, some (.si s pos) => some [⟨.ts, s⟩, ⟨.tn, pos⟩]
  | .gone, none => some []
  | _, _ => none
def fillO : OSh → List HV → Option XO × List HV
  | .ar e _, ⟨.tl r, xs⟩ :: l => (some (.ar e r xs), l)
  | .bx e ss, l => let p := fillL ss l; (some (.bx e p.1), p.2)
  | .si, ⟨.ts, s⟩ :: ⟨.tn, pos⟩ :: l => (some (.si s pos), l)
  | _, l => (none, l)
def OSh.holes : OSh → List HTy
  | .ar _ r => [.tl r]
  | .bx _ l => holesL l
  | .si => [.ts, .tn]
  | .gone => []
def OWk (x y : Option XO) : Prop := x = y ∨ ∃ e xs ys, x = some (.bx e xs) ∧ y = some (.bx e ys) ∧ WkL (xs.map X.enc) (ys.map X.enc)
omit [Mo] in
theorem getO_wk : ∀ (o : OSh) (x : Option XO) (hs l : List HV), getO o x = some hs → ∃ x', fillO o (hs ++ l) = (x', l) ∧ OWk x x'
  | .ar e r, some (.ar e' r' xs), hs, l, h => by
    simp only [getO] at h
    cases hc : Nat.beq e' e with
    | false => rw [hc] at h; cases h
    | true =>
      rw [hc] at h
      simp only [cond_true] at h
      split at h
      · rename_i g _
        obtain ⟨g⟩ := g
        subst g
        cases h
        exact ⟨_, rfl, .inl (by rw [Nat.eq_of_beq_eq_true hc])⟩
      · cases h
  | .bx e ss, some (.bx e' cells), hs, l, h => by
    simp only [getO] at h
    cases hc : Nat.beq e' e with
    | false => rw [hc] at h; cases h
    | true =>
      rw [hc] at h
      obtain ⟨xs', h1, h2⟩ := getL_wk ss cells hs l h
      refine ⟨some (.bx e xs'), by simp only [fillO, h1], .inr ⟨e, cells, xs', by rw [Nat.eq_of_beq_eq_true hc], rfl, h2⟩⟩
  | .si, some (.si s pos), hs, l, h => by simp only [getO] at h; cases h; exact ⟨_, rfl, .inl rfl⟩
  | .gone, none, hs, l, h => by simp only [getO] at h; cases h; exact ⟨none, by simp [fillO], .inl rfl⟩
  | .ar _ _, none, _, _, h => by simp [getO] at h
  | .ar _ _, some (.bx _ _), _, _, h => by simp [getO] at h
  | .ar _ _, some (.si _ _), _, _, h => by simp [getO] at h
  | .bx _ _, none, _, _, h => by simp [getO] at h
  | .bx _ _, some (.ar _ _ _), _, _, h => by simp [getO] at h
  | .bx _ _, some (.si _ _), _, _, h => by simp [getO] at h
  | .si, none, _, _, h => by simp [getO] at h
  | .si, some (.ar _ _ _), _, _, h => by simp [getO] at h
  | .si, some (.bx _ _), _, _, h => by simp [getO] at h
  | .gone, some _, _, _, h => by simp [getO] at h

/-! lists of slots and of objects -/
def getT : List (Nat × Sh) → XT → Option (List HV)
  | [], [] => some []
  | (i, sh) :: l, (j, x) :: t => cond (Nat.beq j i) (match getSh sh x, getT l t with | some a, some b => some (a ++ b) | _, _ => none) none
  | _, _ => none
def fillT : List (Nat × Sh) → List HV → XT × List HV
  | [], l => ([], l)
  | (i, sh) :: ss, l => let p := fillSh sh l; let q := fillT ss p.2; ((i, p.1) :: q.1, q.2)
def getS : List (Nat × OSh) → XS → Option (List HV)
  | [], [] => some []
  | (o, sh) :: l, (p, x) :: t => cond (Nat.beq p o) (match getO sh x, getS l t with | some a, some b => some (a ++ b) | _, _ => none) none
  | _, _ => none
def fillS : List (Nat × OSh) → List HV → XS × List HV
  | [], l => ([], l)
  | (o, sh) :: ss, l => let p := fillO sh l; let q := fillS ss p.2; ((o, p.1) :: q.1, q.2)
inductive WkT : XT → XT → Prop where
  | nil : WkT [] []
  | cons (i : Nat) (x y : X) (t u : XT) (h : Wk x.enc y.enc) (k : WkT t u) : WkT ((i, x) :: t) ((i, y) :: u)
inductive WkS : XS → XS → Prop where
  | nil : WkS [] []
  | cons (o : Nat) (x y : Option XO) (s u : XS) (h : OWk x y) (k : WkS s u) : WkS ((o, x) :: s) ((o, y) :: u)
omit [Mo] in
theorem getT_wk : ∀ (ss : List (Nat × Sh)) (t : XT) (hs l : List HV), getT ss t = some hs → ∃ t', fillT ss (hs ++ l) = (t', l) ∧ WkT t t'
  | [], [], hs, l, h => by simp only [getT] at h; cases h; exact ⟨[], rfl, .nil⟩
  | (i, sh) :: ss, (j, x) :: t, hs, l, h => by
    simp only [getT] at h
    cases hc : Nat.beq j i with
    | false => rw [hc] at h; cases h
    | true =>
      rw [hc] at h
      simp only [cond_true] at h
      split at h
      · rename_i a b ha hb
        cases h
        obtain ⟨x', h1, h2⟩ := getSh_wk sh x a (b ++ l) ha
        obtain ⟨t', h3, h4⟩ := getT_wk ss t b l hb
        refine ⟨(i, x') :: t', ?_, ?_⟩
        · rw [List.append_assoc]; simp only [fillT, h1, h3]
        · rw [Nat.eq_of_beq_eq_true hc]; exact .cons _ _ _ _ _ h2 h4
      · cases h
  | [], _ :: _, _, _, h => by simp [getT] at h
  | _ :: _, [], _, _, h => by simp [getT] at h
omit [Mo] in
theorem getS_wk : ∀ (ss : List (Nat × OSh)) (t : XS) (hs l : List HV), getS ss t = some hs → ∃ t', fillS ss (hs ++ l) = (t', l) ∧ WkS t t'
  | [], [], hs, l, h => by simp only [getS] at h; cases h; exact ⟨[], rfl, .nil⟩
  | (i, sh) :: ss, (j, x) :: t, hs, l, h => by
    simp only [getS] at h
    cases hc : Nat.beq j i with
    | false => rw [hc] at h; cases h
    | true =>
      rw [hc] at h
      simp only [cond_true] at h
      split at h
      · rename_i a b ha hb
        cases h
        obtain ⟨x', h1, h2⟩ := getO_wk sh x a (b ++ l) ha
        obtain ⟨t', h3, h4⟩ := getS_wk ss t b l hb
        refine ⟨(i, x') :: t', ?_, ?_⟩
        · rw [List.append_assoc]; simp only [fillS, h1, h3]
        · rw [Nat.eq_of_beq_eq_true hc]; exact .cons _ _ _ _ _ h2 h4
      · cases h
  | [], _ :: _, _, _, h => by simp [getS] at h
  | _ :: _, [], _, _, h => by simp [getS] at h

omit [Mo] in
theorem WkT.get : ∀ {t u : XT}, WkT t u → ∀ (i : Nat), (lk t i = none ∧ lk u i = none) ∨ ∃ x y, lk t i = some x ∧ lk u i = some y ∧ Wk x.enc y.enc
  | _, _, .nil, i => .inl ⟨rfl, rfl⟩
  | _, _, .cons j x y t u h k, i => by
    rw [lk, lk]
    cases Nat.beq j i with
    | true => exact .inr ⟨x, y, rfl, rfl, h⟩
    | false => exact k.get i
theorem RelS.wkO {B : Base} {w : World} {F : Nat → Prop} {loc : Nat → Option Loc} {pre post : XS} {o : Nat} {x y : Option XO} (hS : RelS noG B w F loc (encS (pre ++ (o, x) :: post))) (h : OWk x y) : RelS noG B w F loc (encS (pre ++ (o, y) :: post)) := by
  rcases h with rfl | ⟨e, xs, ys, rfl, rfl, hw⟩
  · exact hS
  · have hsplit : ∀ (z : Option XO), encS (pre ++ (o, z) :: post) = if (lk pre o).isSome then encS (pre ++ post) else upd (encS (pre ++ post)) o (some (z.map XO.enc)) := by
      intro z
      funext n
      unfold encS
      rw [lk_append]
      by_cases hn : n = o
      · subst hn
        cases hp : lk pre n with
        | some q => simp [lk_append, hp]
        | none => simp [lk, upd_self]
      · have hb : Nat.beq o n = false := by rw [← Bool.not_eq_true, Nat.beq_eq]; exact fun h => hn h.symm
        rw [lk, hb, cond_false]
        by_cases hs : (lk pre o).isSome = true
        · rw [if_pos hs]; simp only [lk_append]
        · rw [if_neg hs, upd_ne _ _ hn]; simp only [lk_append]
    rw [hsplit] at hS ⊢
    split at hS
    · rename_i hs; rw [if_pos hs]; exact hS
    · rename_i hs
      rw [if_neg hs]
      have := hS.wkBox (o := o) (e := e) (xs := encL xs) (ys := encL ys) (upd_self _ _ _) (by rw [encL_map, encL_map]; exact hw)
      have hu : ∀ (y z : Option (Option O)), upd (upd (encS (pre ++ post)) o y) o z = upd (encS (pre ++ post)) o z := by
        intro y z; funext m; by_cases hm : m = o
        · subst hm; simp [upd_self]
        · simp [upd_ne _ _ hm]
      rw [hu] at this
      exact this
theorem RelS.wkS {B : Base} {w : World} {F : Nat → Prop} {loc : Nat → Option Loc} {post : XS} : ∀ {s u : XS}, WkS s u → ∀ (pre : XS), RelS noG B w F loc (encS (pre ++ (s ++ post))) → RelS noG B w F loc (encS (pre ++ (u ++ post)))
  | _, _, .nil, pre, h => h
  | _, _, .cons o x y s u hw k, pre, h => by
    have h1 := RelS.wkO (pre := pre) (post := s ++ post) h hw
    have h2 := RelS.wkS k (pre ++ [(o, y)]) (by simpa using h1)
    simpa using h2

theorem Conv.wk {E : XE} {t u : XT} {s v : XS} (ht : WkT t u) (hs : WkS s v) : Conv noG (encSt E ⟨t, s⟩) (encSt E ⟨u, v⟩) := by
  intro B F loc tmps w hR
  refine ⟨F, loc, ⟨?_, fun i => ?_, hR.n, hR.a⟩⟩
  · exact RelS.wkS (pre := []) hs hR.s
  · have := hR.t i
    show RelV w F loc (encT (u ++ E.t) i) _
    have h1 : RelV w F loc (encT (t ++ E.t) i) (tmps.getD i undef) := this
    unfold encT at h1 ⊢
    rw [lk_append] at h1 ⊢
    rcases ht.get i with ⟨h2, h3⟩ | ⟨x, y, h2, h3, h4⟩
    · rw [h3]; rw [h2] at h1; exact h1
    · rw [h3]; rw [h2] at h1; exact h4 _ _ _ _ h1

def getTpl (tp : Tpl) (st : XSt) : Option (List HV) := match getT tp.t st.t, getS tp.s st.s with | some a, some b => some (a ++ b) | _, _ => none
def fillTpl (tp : Tpl) (l : List HV) : XSt := let p := fillT tp.t l; ⟨p.1, (fillS tp.s p.2).1⟩
theorem Conv.tpl {E : XE} {tp : Tpl} {st : XSt} {hs : List HV} (h : getTpl tp st = some hs) : Conv noG (encSt E st) (encSt E (fillTpl tp hs)) := by
  unfold getTpl at h
  split at h
  · rename_i a b ha hb
    cases h
    obtain ⟨t', h1, h2⟩ := getT_wk tp.t st.t a b ha
    obtain ⟨s', h3, h4⟩ := getS_wk tp.s st.s b [] hb
    rw [List.append_nil] at h3
    unfold fillTpl
    simp only [h1, h3]
    exact Conv.wk h2 h4
  · cases h

/-! names found by walking along the shapes -/
structure Acc where
  ρ : Ren
  fz : List Nat
def Acc.pair (a : Acc) (o o' : Nat) : Acc := cond (a.ρ.any fun p => Nat.beq p.1 o) a ⟨a.ρ ++ [(o, o')], a.fz⟩
def Acc.frz (a : Acc) (o : Nat) : Acc := ⟨a.ρ, a.fz ++ [o]⟩
mutual
def bindSh : Sh → X → Acc → Acc
  | .fz _ _, .sl _ o, a => a.frz o
  | .fz _ _, .sw o _ _, a => a.frz o
  | .sl _ o, .sl _ o', a => a.pair o o'
  | .sw o, .sw o' _ _, a => a.pair o o'
  | .pt o _, .pt o' _, a => a.pair o o'
  | .pe o _, .pe o' _ _, a => a.pair o o'
  | .mp o, .mp o', a => a.pair o o'
  | .it o, .it o', a => a.pair o o'
  | .sp o, .sp o', a => a.pair o o'
  | .sp o, .pt o' _, a => a.pair o o'
  | .fn _ l, .fn _ xs, a => bindL l xs a
  | .ag l, .ag xs, a => bindL l xs a
  | .tp l, .tp xs, a => bindL l xs a
  | .ifc _ s, .ifc _ x, a => bindSh s x a
  | _, _, a => a
def bindL : List Sh → List X → Acc → Acc
  | s :: l, x :: xs, a => bindL l xs (bindSh s x a)
  | _, _, a => a
end
def arOf (tp : Tpl) (o : Nat) : Option (Nat × Row) := match lk tp.s o with | some (.ar e r) => some (e, r) | _ => none
def slName : Sh → Option Nat | .sl _ o => some o | _ => none
def freeN (s : XS) : Nat → Nat → Nat
  | 0, n => n
  | k + 1, n => match lk s n with | none => n | some _ => freeN s k (n + 1)
/-- slots: nil where an owned row is wanted, and names -/
def walkT (E : XE) (tp : Tpl) : List (Nat × Sh) → Acc → XSt → Option (Acc × XSt)
  | [], a, st => some (a, st)
  | (i, sh) :: l, a, st => match slName sh, isNilX (lkE E st i) with
    | some o, true => match arOf tp o with
      | some (e, r) => match xnilSlot E i (freeN (st.s ++ E.s) 50 (o + 600000)) e r st with
        | some st' => walkT E tp l (a.pair o (freeN (st.s ++ E.s) 50 (o + 600000))) st'
        | none => none
      | none => none
    | _, _ => walkT E tp l (bindSh sh (lkE E st i) a) st
def walkC (E : XE) (tp : Tpl) (m : Nat) : Nat → List Sh → List X → Acc → XSt → Option (Acc × XSt)
  | j, sh :: l, x :: xs, a, st => match slName sh, isNilX x with
    | some o, true => match arOf tp o with
      | some (e, r) => match xnilBox E m j (freeN (st.s ++ E.s) 50 (o + 600000)) e r st with
        | some st' => walkC E tp m (j + 1) l xs (a.pair o (freeN (st.s ++ E.s) 50 (o + 600000))) st'
        | none => none
      | none => none
    | _, _ => walkC E tp m (j + 1) l xs (bindSh sh x a) st
  | _, _, _, a, st => some (a, st)
def nameOf (a : Acc) (n : Nat) : Nat := match lk a.ρ n with | some m => m | none => n
def walkS (E : XE) (tp : Tpl) : List (Nat × OSh) → Acc → XSt → Option (Acc × XSt)
  | [], a, st => some (a, st)
  | (n, .bx _ l) :: r, a, st => match lk st.s (nameOf a n) with
    | some (some (.bx _ cells)) => match walkC E tp (nameOf a n) 0 l cells a st with
      | some (a', st') => walkS E tp r a' st'
      | none => none
    | _ => walkS E tp r a st
  | _ :: r, a, st => walkS E tp r a st
def freezeL (E : XE) : List Nat → XSt → Option XSt
  | [], st => some st
  | o :: l, st => match lk st.s o with
    | some (some (.ar _ _ _)) => match xfreeze E o st with
      | some st' => freezeL E l st'
      | none => none
    | _ => freezeL E l st
/-- an object under another name, its old name gone -/
def xmove (E : XE) (o d : Nat) (st : XSt) : Option XSt :=
  match lk st.s o with
  | some (some x) => cond ((lk (st.s ++ E.s) d).isNone && E.t.all (fun p => p.2.allN (neB o)) && E.s.all (fun p => neB o p.1 && oAll (neB o) p.2))
      (some ⟨st.t.map fun p => (p.1, p.2.ren (mvF o d)), (o, none) :: (d, some (x.ren (mvF o d))) :: st.s.map fun p => (p.1, p.2.map (XO.ren (mvF o d)))⟩) none
  | _ => none
def moveL (E : XE) : List (Nat × OSh) → XSt → Option XSt
  | [], st => some st
  | (n, .gone) :: l, st => match lk st.s n with
    | some (some _) => match xmove E n (freeN (st.s ++ E.s) 50 (n + 800000)) st with
      | some st' => moveL E l st'
      | none => none
    | _ => moveL E l st
  | _ :: l, st => moveL E l st
def conform (E : XE) (tp : Tpl) (st : XSt) : Option (List HV) :=
  match moveL E tp.s st with
  | none => none
  | some st0 => match walkT E tp tp.t ⟨[], []⟩ st0 with
    | none => none
    | some (a, st1) => match walkS E tp tp.s a st1 with
      | none => none
      | some (a2, st2) => match freezeL E a2.fz st2 with
        | none => none
        | some st3 => match xnorm E (tp.t.map (·.1)) (tp.s.map fun p => (nameOf a2 p.1, p.1)) st3 with
          | none => none
          | some st4 => getTpl tp st4

omit [Mo] in
theorem mvF_fix {o d : Nat} : ∀ n, neB o n = true → fixB (mvF o d) n = true := by
  intro n h
  unfold neB at h
  simp only [Bool.not_eq_true'] at h
  unfold fixB mvF
  simp only [h, cond_false, Nat.beq_refl]
omit [Mo] in
mutual
theorem X.allN_mono {p q : Nat → Bool} (h : ∀ n, p n = true → q n = true) : ∀ (x : X), x.allN p = true → x.allN q = true
  | .sl _ o, k => h o k
  | .sw o _ _, k => h o k
  | .pt o _, k => h o k
  | .pe o _ _, k => h o k
  | .mp o, k => h o k
  | .it o, k => h o k
  | .sp o, k => h o k
  | .fn _ caps, k => allNL_mono h caps k
  | .ag cs, k => allNL_mono h cs k
  | .tp cs, k => allNL_mono h cs k
  | .ifc _ x, k => X.allN_mono h x k
  | .c _, _ => rfl
  | .i _ _, _ => rfl
  | .b _, _ => rfl
  | .s _, _ => rfl
  | .fz _ _ _, _ => rfl
  | .pf _ _ _, _ => rfl
  | .dead, _ => rfl
theorem allNL_mono {p q : Nat → Bool} (h : ∀ n, p n = true → q n = true) : ∀ (xs : List X), allNL p xs = true → allNL q xs = true
  | [], _ => rfl
  | x :: xs, k => by
    simp only [allNL, Bool.and_eq_true] at k ⊢
    exact ⟨X.allN_mono h x k.1, allNL_mono h xs k.2⟩
end
omit [Mo] in
theorem XO.allN_mono {p q : Nat → Bool} (h : ∀ n, p n = true → q n = true) (x : XO) (k : x.allN p = true) : x.allN q = true := by
  cases x with
  | bx e cells => exact allNL_mono h cells k
  | _ => rfl
theorem Conv.xmove {E : XE} {o d : Nat} {st st' : XSt} (h : Mc.xmove E o d st = some st') : Conv noG (encSt E st) (encSt E st') := by
  unfold Mc.xmove at h
  split at h
  · rename_i x hl
    obtain ⟨hc, rfl⟩ := cond_some h
    simp only [Bool.and_eq_true] at hc
    obtain ⟨⟨h0, h1⟩, h2⟩ := hc
    rw [List.all_eq_true] at h1 h2
    have fix : ∀ n, neB o n = true → fixB (mvF o d) n = true := mvF_fix
    have ho : encS (st.s ++ E.s) o = some (some x.enc) := by unfold encS; rw [lk_append, hl]; rfl
    have := Conv.move (G := noG) (t := encT (st.t ++ E.t)) (s := encS (st.s ++ E.s)) (m := E.n) (a := E.a) o d (by rw [ho]; rfl) (encS_free h0)
    have hod : o ≠ d := by
      rintro rfl
      rw [Option.isNone_iff_eq_none, lk_append, hl] at h0; cases h0
    have e1 : (fun i => (encT (st.t ++ E.t) i).ren (mvF o d)) = encT ((st.t.map fun p => (p.1, p.2.ren (mvF o d))) ++ E.t) := by
      funext i
      rw [encT_lk, encT_lk, ← X.ren_enc, lk_append, lk_append, lk_map (fun _ x => X.ren (mvF o d) x)]
      cases lk st.t i with
      | some x => rfl
      | none =>
        simp only [Option.map_none]
        cases he : lk E.t i with
        | none => rfl
        | some x => simp only; rw [X.ren_fix _ x (X.allN_mono fix x (h1 _ (lk_mem he)))]
    have e2 : mvS o d (encS (st.s ++ E.s)) = encS (((o, none) :: (d, some (x.ren (mvF o d))) :: st.s.map fun p => (p.1, p.2.map (XO.ren (mvF o d)))) ++ E.s) := by
      funext n
      unfold mvS
      simp only [ho, Option.map_some]
      unfold encS
      simp only [List.cons_append, lk]
      by_cases hn : n = o
      · subst hn; simp
      · have hb : Nat.beq n o = false := by rw [← Bool.not_eq_true, Nat.beq_eq]; exact hn
        have hb' : Nat.beq o n = false := by rw [← Bool.not_eq_true, Nat.beq_eq]; exact fun e => hn e.symm
        rw [hb, hb', cond_false, cond_false]
        by_cases hd : n = d
        · subst hd; simp [XO.ren_enc]
        · have hc : Nat.beq n d = false := by rw [← Bool.not_eq_true, Nat.beq_eq]; exact hd
          have hc' : Nat.beq d n = false := by rw [← Bool.not_eq_true, Nat.beq_eq]; exact fun e => hd e.symm
          rw [hc, hc', cond_false, cond_false, lk_append, lk_append, lk_map (fun (_ : Nat) (x : Option XO) => x.map (XO.ren (mvF o d)))]
          cases hs : lk st.s n with
          | some x => cases x <;> simp [XO.ren_enc]
          | none =>
            simp only [Option.map_none]
            cases he : lk E.s n with
            | none => rfl
            | some x =>
              have := h2 _ (lk_mem he)
              simp only [Bool.and_eq_true] at this
              cases x with
              | none => rfl
              | some y => simp only [Option.map_some]; rw [← XO.ren_enc, XO.ren_fix _ y (XO.allN_mono fix y this.2)]
    show Conv noG ⟨_, _, _, _⟩ ⟨_, _, _, _⟩
    rw [e1, e2] at this
    exact this
  · cases h
theorem moveL_conv {E : XE} : ∀ {l : List (Nat × OSh)} {st st' : XSt}, moveL E l st = some st' → Conv noG (encSt E st) (encSt E st')
  | [], st, st', h => by simp only [moveL] at h; cases h; exact Conv.refl _
  | (n, .gone) :: l, st, st', h => by
    simp only [moveL] at h
    split at h
    · split at h
      · rename_i st1 h1
        exact Conv.trans (Conv.xmove h1) (moveL_conv h)
      · cases h
    · exact moveL_conv h
  | (n, .ar _ _) :: l, st, st', h => by simp only [moveL] at h; exact moveL_conv h
  | (n, .bx _ _) :: l, st, st', h => by simp only [moveL] at h; exact moveL_conv h
  | (n, .si) :: l, st, st', h => by simp only [moveL] at h; exact moveL_conv h
theorem walkT_conv {E : XE} {tp : Tpl} : ∀ {l : List (Nat × Sh)} {a a' : Acc} {st st' : XSt}, walkT E tp l a st = some (a', st') → Conv noG (encSt E st) (encSt E st')
  | [], a, a', st, st', h => by simp only [walkT] at h; cases h; exact Conv.refl _
  | (i, sh) :: l, a, a', st, st', h => by
    simp only [walkT] at h
    split at h
    · split at h
      · split at h
        · rename_i st1 h1
          exact Conv.trans (Conv.xnilSlot h1) (walkT_conv h)
        · cases h
      · cases h
    · exact walkT_conv h
theorem walkC_conv {E : XE} {tp : Tpl} {m : Nat} : ∀ {j : Nat} {l : List Sh} {xs : List X} {a a' : Acc} {st st' : XSt}, walkC E tp m j l xs a st = some (a', st') → Conv noG (encSt E st) (encSt E st')
  | j, sh :: l, x :: xs, a, a', st, st', h => by
    simp only [walkC] at h
    split at h
    · split at h
      · split at h
        · rename_i st1 h1
          exact Conv.trans (Conv.xnilBox h1) (walkC_conv h)
        · cases h
      · cases h
    · exact walkC_conv h
  | _, [], _, a, a', st, st', h => by simp only [walkC] at h; cases h; exact Conv.refl _
  | _, _ :: _, [], a, a', st, st', h => by simp only [walkC] at h; cases h; exact Conv.refl _
theorem walkS_conv {E : XE} {tp : Tpl} : ∀ {l : List (Nat × OSh)} {a a' : Acc} {st st' : XSt}, walkS E tp l a st = some (a', st') → Conv noG (encSt E st) (encSt E st')
  | [], a, a', st, st', h => by simp only [walkS] at h; cases h; exact Conv.refl _
  | (n, .bx e ss) :: l, a, a', st, st', h => by
    simp only [walkS] at h
    split at h
    · split at h
      · rename_i a1 st1 h1
        exact Conv.trans (walkC_conv h1) (walkS_conv h)
      · cases h
    · exact walkS_conv h
  | (n, .ar _ _) :: l, a, a', st, st', h => by simp only [walkS] at h; exact walkS_conv h
  | (n, .si) :: l, a, a', st, st', h => by simp only [walkS] at h; exact walkS_conv h
  | (n, .gone) :: l, a, a', st, st', h => by simp only [walkS] at h; exact walkS_conv h
theorem freezeL_conv {E : XE} : ∀ {l : List Nat} {st st' : XSt}, freezeL E l st = some st' → Conv noG (encSt E st) (encSt E st')
  | [], st, st', h => by simp only [freezeL] at h; cases h; exact Conv.refl _
  | o :: l, st, st', h => by
    simp only [freezeL] at h
    split at h
    · split at h
      · rename_i st1 h1
        exact Conv.trans (Conv.xfreeze h1) (freezeL_conv h)
      · cases h
    · exact freezeL_conv h
theorem Conv.conform {E : XE} {tp : Tpl} {st : XSt} {hs : List HV} (h : Mc.conform E tp st = some hs) : Conv noG (encSt E st) (encSt E (fillTpl tp hs)) := by
  unfold Mc.conform at h
  split at h
  · cases h
  · rename_i st0 h0
    split at h
    · cases h
    · rename_i a st1 h1
      split at h
      · cases h
      · rename_i a2 st2 h2
        split at h
        · cases h
        · rename_i st3 h3
          split at h
          · cases h
          · rename_i st4 h4
            exact (moveL_conv h0).trans ((walkT_conv h1).trans ((walkS_conv h2).trans ((freezeL_conv h3).trans ((Conv.xnorm h4).trans (Conv.tpl h)))))
end Go.Proofs.YtnpgfcedmdnemaaDoor.Mc

/- THE MACHINE (53): contracts, typed; calls. -/
namespace Go.Proofs.YtnpgfcedmdnemaaDoor.Mc
open Go.RowKit
variable [Mo]
set_option linter.constructorNameAsVariable false
variable {P : Program} {D : Dec}

/-- one of several tuples -/
def AltT : List (List HTy) → Type
  | [] => Empty
  | [h] => Tup h
  | h :: g :: t => Tup h ⊕ AltT (g :: t)
def mkAlt : (hs : List (List HTy)) → Nat → List HV → Option (AltT hs)
  | [], _, _ => none
  | [h], 0, l => toTup h l
  | [_], _ + 1, _ => none
  | h :: _ :: _, 0, l => match toTup h l with | some y => some (.inl y) | none => none
  | _ :: g :: t, i + 1, l => match mkAlt (g :: t) i l with | some y => some (.inr y) | none => none
def sel.{u} {α β : Type} {γ : Sort u} (f : α → γ) (g : β → γ) : α ⊕ β → γ
  | .inl x => f x
  | .inr y => g y
def elimAlt.{u} {β : Sort u} : (hs : List (List HTy)) → AltT hs → (Nat → List HV → β) → β
  | [], x, _ => x.elim
  | [h], y, f => f 0 (ofTup h y)
  | h :: g :: t, x, f => sel (fun y => f 0 (ofTup h y)) (fun z => elimAlt (g :: t) z fun i l => f (i + 1) l) x
omit [Mo] in
theorem elim_mk.{u} {β : Sort u} : ∀ (hs : List (List HTy)) (i : Nat) (l : List HV) (y : AltT hs) (f : Nat → List HV → β), mkAlt hs i l = some y → elimAlt hs y f = f i l
  | [h], 0, l, y, f, k => by simp only [elimAlt]; rw [toTup_of h l y k]
  | [_], _ + 1, _, _, _, k => by simp [mkAlt] at k
  | [], _, _, y, _, _ => y.elim
  | h :: g :: t, 0, l, y, f, k => by
    simp only [mkAlt] at k
    split at k
    · rename_i z hz; cases k; simp only [elimAlt, sel]; rw [toTup_of h l z hz]
    · cases k
  | h :: g :: t, i + 1, l, y, f, k => by
    simp only [mkAlt] at k
    split at k
    · rename_i z hz; cases k; simp only [elimAlt, sel]; rw [elim_mk (g :: t) i l z _ hz]
    · cases k
omit [Mo] in
theorem elim_mono : ∀ (hs : List (List HTy)) (y : AltT hs) {p q : Nat → List HV → Prop}, (∀ i l, p i l → q i l) → elimAlt hs y p → elimAlt hs y q
  | [], y, _, _, _ => y.elim
  | [_], _, _, _, h => h _ _
  | _ :: _ :: _, .inl _, _, _, h => h _ _
  | _ :: g :: t, .inr z, _, _, h => elim_mono (g :: t) z fun i l => h (i + 1) l
omit [Mo] in
/-- the value and the law of one alternative -/
theorem elim_both {α : Type} {r : α} : ∀ (hs : List (List HTy)) (y : AltT hs) {f : Nat → List HV → Option α} {p : Nat → List HV → Prop}, elimAlt hs y f = some r → elimAlt hs y p → ∃ i l, f i l = some r ∧ p i l
  | [], y, _, _, _, _ => y.elim
  | [_], _, _, _, h, k => ⟨_, _, h, k⟩
  | _ :: _ :: _, .inl _, _, _, h, k => ⟨_, _, h, k⟩
  | _ :: g :: t, .inr z, f, p, h, k => by
    obtain ⟨i, l, h1, h2⟩ := elim_both (g :: t) z (f := fun i l => f (i + 1) l) (p := fun i l => p (i + 1) l) h k
    exact ⟨_, _, h1, h2⟩

structure CTpl where
  a : List Sh
  o : List (Nat × OSh)
structure RTpl where
  v : Sh
  o : List (Nat × OSh)
  h : List HTy
def inOf (A : CTpl) (l : List HV) : List X × XS := let p := fillL A.a l; (p.1, (fillS A.o p.2).1)
def outOf (R : RTpl) (l : List HV) : X × XS := let p := fillSh R.v l; (p.1, (fillS R.o p.2).1)
def rAt (R : List RTpl) (i : Nat) : RTpl := match R[i]? with | some r => r | none => ⟨.dead, [], []⟩
/-- what a call does, typed -/
def CTx (P : Program) (f : FuncId) (vs : List X) (s : XS) (r : X) (s1 : XS) : Prop := CT P noG f (vs.map X.enc) (encS s) fun r' s' => r' = r.enc ∧ s' = encS s1

/-! matches in which nothing is lost -/
def nlEq : Nl → Nl → Bool | .e, .e => true | .n, .n => true | .u, .u => true | _, _ => false
omit [Mo] in
theorem nlEq_eq {a b : Nl} (h : nlEq a b = true) : a = b := by cases a <;> cases b <;> first | rfl | cases h
mutual
def exSh : Sh → X → Bool
  | .fz nl _, .fz nl' _ _ => nlEq nl nl'
  | .fz _ _, .c _ => false
  | .sp _, .pt _ _ => false
  | .sp _, .c _ => false
  | .sl nl _, .sl nl' _ => nlEq nl nl'
  | .fn _ l, .fn _ xs => exL l xs
  | .ag l, .ag xs => exL l xs
  | .tp l, .tp xs => exL l xs
  | .ifc _ s, .ifc _ x => exSh s x
  | .dead, _ => false
  | _, _ => true
def exL : List Sh → List X → Bool
  | s :: l, x :: xs => exSh s x && exL l xs
  | _, _ => true
end
omit [Mo] in
mutual
theorem getSh_ex : ∀ (sh : Sh) (x : X) (hs l : List HV), getSh sh x = some hs → exSh sh x = true → fillSh sh (hs ++ l) = (x, l)
  | .dead, x, hs, l, h, k => by simp [exSh] at k
  | .i k, .i k' n, hs, l, h, _ => by
    simp only [getSh] at h
    split at h
    · rename_i hk; cases h; subst hk; rfl
    · cases h
  | .b, .b q, hs, l, h, _ => by simp only [getSh] at h; cases h; rfl
  | .s, .s q, hs, l, h, _ => by simp only [getSh] at h; cases h; rfl
  | .li k m, .i k' n, hs, l, h, _ => by
    simp only [getSh] at h
    split at h
    · rename_i hk; cases h; obtain ⟨rfl, rfl⟩ := hk; rfl
    · cases h
  | .lb p, .b q, hs, l, h, _ => by
    simp only [getSh] at h
    split at h
    · rename_i hk; cases h; subst hk; rfl
    · cases h
  | .c v, .c w, hs, l, h, _ => by
    simp only [getSh] at h
    obtain ⟨h1, rfl⟩ := cond_some h
    rw [sameC_eq h1]; rfl
  | .fz nl r, .fz nl' r' xs, hs, l, h, k => by
    simp only [getSh] at h
    cases hc : nlLe nl' nl with
    | false => rw [hc] at h; cases h
    | true =>
      rw [hc] at h
      simp only [cond_true] at h
      split at h
      · rename_i g _
        obtain ⟨g⟩ := g
        subst g
        cases h
        have k' : nlEq nl nl' = true := by simpa [exSh] using k
        have := nlEq_eq k'
        subst this; rfl
      · cases h
  | .sl nl o, .sl nl' o', hs, l, h, k => by
    simp only [getSh] at h
    obtain ⟨h1, rfl⟩ := cond_some h
    simp only [Bool.and_eq_true] at h1
    have k' : nlEq nl nl' = true := by simpa [exSh] using k
    have := nlEq_eq k'
    subst this
    rw [Nat.eq_of_beq_eq_true h1.2]; rfl
  | .sw o, .sw o' off len, hs, l, h, _ => by
    simp only [getSh] at h
    obtain ⟨h1, rfl⟩ := cond_some h
    rw [Nat.eq_of_beq_eq_true h1]; rfl
  | .pt o off, .pt o' off', hs, l, h, _ => by
    simp only [getSh] at h
    obtain ⟨h1, rfl⟩ := cond_some h
    simp only [Bool.and_eq_true] at h1
    rw [Nat.eq_of_beq_eq_true h1.1, Nat.eq_of_beq_eq_true h1.2]; rfl
  | .pe o off, .pe o' i off', hs, l, h, _ => by
    simp only [getSh] at h
    obtain ⟨h1, rfl⟩ := cond_some h
    simp only [Bool.and_eq_true] at h1
    rw [Nat.eq_of_beq_eq_true h1.1, Nat.eq_of_beq_eq_true h1.2]; rfl
  | .pf r off, .pf r' x off', hs, l, h, _ => by
    simp only [getSh] at h
    cases hc : Nat.beq off' off with
    | false => rw [hc] at h; cases h
    | true =>
      rw [hc] at h
      simp only [cond_true] at h
      split at h
      · rename_i g _
        obtain ⟨g⟩ := g
        subst g
        cases h; rw [Nat.eq_of_beq_eq_true hc]; rfl
      · cases h
  | .mp o, .mp o', hs, l, h, _ => by
    simp only [getSh] at h
    obtain ⟨h1, rfl⟩ := cond_some h
    rw [Nat.eq_of_beq_eq_true h1]; rfl
  | .it o, .it o', hs, l, h, _ => by
    simp only [getSh] at h
    obtain ⟨h1, rfl⟩ := cond_some h
    rw [Nat.eq_of_beq_eq_true h1]; rfl
  | .sp o, .sp o', hs, l, h, _ => by
    simp only [getSh] at h
    obtain ⟨h1, rfl⟩ := cond_some h
    rw [Nat.eq_of_beq_eq_true h1]; rfl
  | .fn f ss, .fn f' xs, hs, l, h, k => by
    simp only [getSh] at h
    cases hc : Nat.beq f' f with
    | false => rw [hc] at h; cases h
    | true =>
      rw [hc] at h
      have := getL_ex ss xs hs l h (by simpa only [exSh] using k)
      simp only [fillSh, this, Nat.eq_of_beq_eq_true hc]
  | .ag ss, .ag xs, hs, l, h, k => by
    simp only [getSh] at h
    simp only [fillSh, getL_ex ss xs hs l h (by simpa only [exSh] using k)]
  | .tp ss, .tp xs, hs, l, h, k => by
    simp only [getSh] at h
    simp only [fillSh, getL_ex ss xs hs l h (by simpa only [exSh] using k)]
  | .ifc t s, .ifc t' x, hs, l, h, k => by
    simp only [getSh] at h
    cases hc : Nat.beq t' t with
    | false => rw [hc] at h; cases h
    | true =>
      rw [hc] at h
      simp only [fillSh, getSh_ex s x hs l h (by simpa only [exSh] using k), Nat.eq_of_beq_eq_true hc]
  | .fz _ _, .c _, _, _, _, k => by simp [exSh] at k
theorem getL_ex : ∀ (ss : List Sh) (xs : List X) (hs l : List HV), getL ss xs = some hs → exL ss xs = true → fillL ss (hs ++ l) = (xs, l)
  | [], [], hs, l, h, _ => by simp only [getL] at h; cases h; rfl
  | s :: ss, x :: xs, hs, l, h, k => by
    simp only [getL] at h
    simp only [exL, Bool.and_eq_true] at k
    split at h
    · rename_i a b ha hb
      cases h
      rw [List.append_assoc]
      simp only [fillL, getSh_ex s x a (b ++ l) ha k.1, getL_ex ss xs b l hb k.2]
    · cases h
end
def exO : OSh → XO → Bool
  | .bx _ l, .bx _ cells => exL l cells
  | _, _ => true
omit [Mo] in
theorem getO_ex (o : OSh) (x : XO) (hs l : List HV) (h : getO o (some x) = some hs) (k : exO o x = true) : fillO o (hs ++ l) = (some x, l) := by
  cases o with
  | bx e ss =>
    cases x with
    | bx e' cells =>
      simp only [getO] at h
      cases hc : Nat.beq e' e with
      | false => rw [hc] at h; cases h
      | true =>
        rw [hc] at h
        simp only [fillO, getL_ex ss cells hs l h k, Nat.eq_of_beq_eq_true hc]
    | _ => simp [getO] at h
  | ar e r =>
    cases x with
    | ar e' r' xs =>
      simp only [getO] at h
      cases hc : Nat.beq e' e with
      | false => rw [hc] at h; cases h
      | true =>
        rw [hc] at h
        simp only [cond_true] at h
        split at h
        · rename_i g _
          obtain ⟨g⟩ := g
          subst g
          cases h
          rw [Nat.eq_of_beq_eq_true hc]; rfl
        · cases h
    | _ => simp [getO] at h
  | si =>
    cases x with
    | si s pos => simp only [getO] at h; cases h; rfl
    | _ => simp [getO] at h
  | gone => simp [getO] at h

omit [Mo] in
mutual
theorem X.ren_back (f g : Nat → Option Nat) (hfg : ∀ n m, g n = some m → f m = some n) : ∀ (x : X), x.allN (fun n => (g n).isSome) = true → (x.ren g).ren f = x
  | .sl nl o, h => by have h' : (g o).isSome = true := h; obtain ⟨m, hm⟩ := Option.isSome_iff_exists.1 h'; simp only [X.ren, hm, hfg _ _ hm]
  | .sw o off len, h => by have h' : (g o).isSome = true := h; obtain ⟨m, hm⟩ := Option.isSome_iff_exists.1 h'; simp only [X.ren, hm, hfg _ _ hm]
  | .pt o off, h => by have h' : (g o).isSome = true := h; obtain ⟨m, hm⟩ := Option.isSome_iff_exists.1 h'; simp only [X.ren, hm, hfg _ _ hm]
  | .pe o i off, h => by have h' : (g o).isSome = true := h; obtain ⟨m, hm⟩ := Option.isSome_iff_exists.1 h'; simp only [X.ren, hm, hfg _ _ hm]
  | .mp o, h => by have h' : (g o).isSome = true := h; obtain ⟨m, hm⟩ := Option.isSome_iff_exists.1 h'; simp only [X.ren, hm, hfg _ _ hm]
  | .it o, h => by have h' : (g o).isSome = true := h; obtain ⟨m, hm⟩ := Option.isSome_iff_exists.1 h'; simp only [X.ren, hm, hfg _ _ hm]
  | .sp o, h => by have h' : (g o).isSome = true := h; obtain ⟨m, hm⟩ := Option.isSome_iff_exists.1 h'; simp only [X.ren, hm, hfg _ _ hm]
  | .fn _ caps, h => by simp only [X.ren, xrenL_back f g hfg caps h]
  | .ag cs, h => by simp only [X.ren, xrenL_back f g hfg cs h]
  | .tp cs, h => by simp only [X.ren, xrenL_back f g hfg cs h]
  | .ifc t x, h => by simp only [X.ren, X.ren_back f g hfg x h]
  | .c v, _ => rfl
  | .i k n, _ => rfl
  | .b q, _ => rfl
  | .s s, _ => rfl
  | .fz nl r xs, _ => rfl
  | .pf r x off, _ => rfl
  | .dead, _ => rfl
theorem xrenL_back (f g : Nat → Option Nat) (hfg : ∀ n m, g n = some m → f m = some n) : ∀ (xs : List X), allNL (fun n => (g n).isSome) xs = true → xrenL f (xrenL g xs) = xs
  | [], _ => rfl
  | x :: xs, h => by
    simp only [allNL, Bool.and_eq_true] at h
    simp only [xrenL, X.ren_back f g hfg x h.1, xrenL_back f g hfg xs h.2]
end
omit [Mo] in
theorem XO.ren_back (f g : Nat → Option Nat) (hfg : ∀ n m, g n = some m → f m = some n) (x : XO) (h : x.allN (fun n => (g n).isSome) = true) : (x.ren g).ren f = x := by
  cases x with
  | bx e cells => simp only [XO.ren, xrenL_back f g hfg cells h]
  | _ => rfl

/-- the objects that a call leaves as they are -/
def keptOf : List Nat → XS → XS
  | [], _ => []
  | n :: l, s => match lk s n with | some x => (n, x) :: keptOf l s | none => keptOf l s

structure Con (P : Program) where
  f : FuncId
  fn : Func
  hfn : P.funcs[f]? = some fn
  hname : (fn.name == "runtime.NumGoroutine") = false
  hb : fn.body.isSome = true
  A : CTpl
  h : List HTy
  kp : List Nat
  R : List RTpl
  F : Tup h → Option (AltT (R.map (·.h)))
  ok : ∀ y r, F y = some r → elimAlt (R.map (·.h)) r fun i l => CTx P f (inOf A (ofTup h y)).1 (inOf A (ofTup h y)).2 (outOf (rAt R i) l).1 ((outOf (rAt R i) l).2 ++ keptOf kp (inOf A (ofTup h y)).2)

/-! calls -/
def xfn : X → Option (FuncId × List X)
  | .c (.func (.func f) a b) => cond (a.isEmpty && b.isEmpty) (some (f, [])) none
  | .fn f caps => some (f, caps)
  | _ => none
omit [Mo] in
theorem xfn_spec {x : X} {f : FuncId} {caps : List X} (h : xfn x = some (f, caps)) : fnOf x.enc = some (f, encL caps) := by
  unfold xfn at h
  split at h
  · rename_i f0 a b
    obtain ⟨h1, h2⟩ := cond_some h
    cases h2
    simp only [Bool.and_eq_true] at h1
    have : plain (.func (.func f) a b) = true := by simp only [plain, h1.1, h1.2]; rfl
    simp only [X.enc, this, if_true]; rfl
  · cases h; rfl
  · cases h

def bindO (g : XG) : List (Nat × OSh) → Acc → Acc
  | [], a => a
  | (n, .bx _ l) :: r, a => match gx g (nameOf a n) with
    | some (.bx _ cells) => bindO g r (bindL l cells a)
    | _ => bindO g r a
  | _ :: r, a => bindO g r a
def getOs (g : XG) (ρ : Ren) : List (Nat × OSh) → Ren → Option (List HV)
  | [], [] => some []
  | (n, sh) :: l, (n', m) :: k => cond (Nat.beq n' n) (match gx g m with
    | some x => match getO sh (some (x.ren (inv ρ))), getOs g ρ l k with
      | some a, some b => some (a ++ b)
      | _, _ => none
    | none => none) none
  | _, _ => none
/-- what is kept is handed over just as it is -/
def keepB (g : XG) (ρ : Ren) (kp : List Nat) : List (Nat × OSh) → Bool
  | [] => true
  | (n, sh) :: l => (cond (kp.any (Nat.beq n)) (match gx g ((lk ρ n).getD 0) with
    | some x => x.allN (fun k => (inv ρ k).isSome) && exO sh (x.ren (inv ρ))
    | none => false) true) && keepB g ρ kp l

inductive CO (C : Con P) where
  | bad
  | frz (o : Nat)
  | call (y : Tup C.h) (ρ : Ren)
def callIn (C : Con P) (g : XG) (xs : List X) : CO C :=
  let acc := bindO g C.A.o (bindL C.A.a xs ⟨[], []⟩)
  match acc.fz with
  | o :: _ => .frz o
  | [] =>
    let ρ := C.A.o.map fun p => (p.1, nameOf acc p.1)
    match getL C.A.a (xrenL (inv ρ) xs), getOs g ρ C.A.o ρ with
    | some h1, some h2 => match toTup C.h (h1 ++ h2) with
      | some y => cond (keepB g ρ C.kp C.A.o) (.call y ρ) .bad
      | none => .bad
    | _, _ => .bad

def hasKey (l : List Nat) (n : Nat) : Bool := l.any (Nat.beq n)
/-- names for what a call makes -/
def fresh (ρ : Ren) (d : Nat) : List (Nat × OSh) → Ren
  | [] => []
  | p :: os => cond (hasKey (ρ.map (·.1)) p.1) (fresh ρ d os) ((p.1, 400000 + d * 100 + (p.1 - 500000)) :: fresh ρ d os)
def isFree (g : XG) (n : Nat) : Bool := match g n with | none => true | some _ => false
def callB (g : XG) (ρ σ : Ren) (kp : List Nat) (os : List (Nat × OSh)) : Bool :=
  okRen ρ && ρ.all (fun p => Nat.ble 1000000 p.1) && okRen (ρ ++ σ) && σ.all (fun p => isFree g p.2) && nodupB (os.map (·.1)) && os.all (fun p => hasKey ((ρ ++ σ).map (·.1)) p.1)
    && (ρ ++ σ).all (fun p => cond (hasKey (os.map (·.1)) p.1) (!(hasKey kp p.1)) (hasKey kp p.1))
/-- what an alternative of a call leaves -/
def callOut (R : RTpl) (ρ : Ren) (d : Nat) (l : List HV) : X × XS :=
  let τ := ρ ++ fresh ρ d R.o
  let q := outOf R l
  (q.1.ren (ren τ), q.2.map fun p => ((ren τ p.1).getD 0, p.2.map (XO.ren (ren τ))))

theorem CT.wk {f : FuncId} {vs vs' : List V} {s s' : Store} {Q : V → Store → Prop} (h : CT P noG f vs s Q) (hv : WkL vs' vs) (hs : ∀ (B : Base) (w : World) (F : Nat → Prop) (loc : Nat → Option Loc), RelS noG B w F loc s' → RelS noG B w F loc s) :
    CT P noG f vs' s' Q := by
  intro F loc w args hn hS hA
  refine h F loc w args hn (hs _ _ _ _ hS) ⟨by rw [← hv.1]; exact hA.1, fun j y hj => ?_⟩
  obtain ⟨x, hx, hw⟩ := hv.2 j y hj
  obtain ⟨v, h1, h2⟩ := hA.2 j x hx
  exact ⟨v, h1, hw _ _ _ _ h2⟩

omit [Mo] in
theorem fillS_keys : ∀ (os : List (Nat × OSh)) (l : List HV), (fillS os l).1.map (·.1) = os.map (·.1)
  | [], l => rfl
  | (n, sh) :: os, l => by simp only [fillS, List.map_cons, fillS_keys os]

omit [Mo] in
theorem getOs_hand {g : XG} {s : Store} (ha : Agree g s) {ρ0 : Ren} : ∀ (os : List (Nat × OSh)) (ρ : Ren) (hs l : List HV), getOs g ρ0 os ρ = some hs →
    ∃ (L : List (Nat × O)) (Lx : XS), handL ρ0 s ρ = some L ∧ stoL L = encS Lx ∧ ∃ so, fillS os (hs ++ l) = (so, l) ∧ WkS Lx so
  | [], [], hs, l, h => by simp only [getOs] at h; cases h; exact ⟨[], [], rfl, rfl, [], rfl, .nil⟩
  | (n, sh) :: os, (n', m) :: ρ, hs, l, h => by
    simp only [getOs] at h
    cases hc : Nat.beq n' n with
    | false => rw [hc] at h; cases h
    | true =>
      have hnn := Nat.eq_of_beq_eq_true hc
      subst hnn
      rw [hc] at h
      simp only [cond_true] at h
      split at h
      · rename_i x hx
        split at h
        · rename_i a b h1 h2
          cases h
          obtain ⟨L, Lx, h3, h4, so, h5, h6⟩ := getOs_hand ha os ρ b l h2
          obtain ⟨x', h7, h8⟩ := getO_wk sh (some (x.ren (inv ρ0))) a (b ++ l) h1
          refine ⟨(n', O.ren (inv ρ0) x.enc) :: L, (n', some (x.ren (inv ρ0))) :: Lx, by simp only [handL, ha.get hx, h3], ?_, (n', x') :: so, by rw [List.append_assoc]; simp only [fillS, h7, h5], .cons _ _ _ _ _ h8 h6⟩
          funext k
          have h4' := congrFun h4 k
          unfold stoL encS at h4' ⊢
          rw [List.find?_cons, lk]
          simp only
          cases hk : Nat.beq n' k with
          | true => simp [XO.ren_enc]
          | false => simpa using h4'
        · cases h
      · cases h
  | [], _ :: _, _, _, h => by simp [getOs] at h
  | _ :: _, [], _, _, h => by simp [getOs] at h

omit [Mo] in
theorem xrenL_map (f : Nat → Option Nat) (xs : List X) : (xrenL f xs).map X.enc = renL f (xs.map X.enc) := by
  rw [← encL_map, xrenL_enc, encL_map]

omit [Mo] in
theorem isFree_spec {g : XG} {s : Store} (ha : Agree g s) {n : Nat} (h : isFree g n = true) : s n = none := by
  unfold isFree at h
  split at h
  · rename_i hn; exact ha.no n hn
  · cases h

omit [Mo] in
theorem over_ren {τ : Ren} (hτ : okRen τ = true) {s : Store} : ∀ (u : XS), (∀ p ∈ u, ∃ m, ren τ p.1 = some m) → nodupB (u.map (·.1)) = true → ∀ n, over s (u.map fun p => ((ren τ p.1).getD 0, p.2.map (XO.ren (ren τ)))) n =
      match inv τ n with
      | some m => match lk u m with | some x => some ((x.map XO.enc).map (O.ren (ren τ))) | none => s n
      | none => s n := by
  intro u
  induction u with
  | nil => intro _ _ n; simp only [List.map_nil, over, lk]; cases inv τ n <;> rfl
  | cons p u ih =>
    obtain ⟨q, x⟩ := p
    intro hm hnd n
    obtain ⟨m, hmm⟩ := hm (q, x) (by simp)
    simp only [List.map_cons, nodupB, Bool.and_eq_true, Bool.not_eq_true'] at hnd
    simp only [List.map_cons, over, hmm, Option.getD_some]
    by_cases hn : n = m
    · subst hn
      rw [upd_self]
      have : inv τ n = some q := (inv_iff hτ).2 ((ren_iff hτ).1 hmm)
      rw [this]
      simp only [lk, Nat.beq_refl, cond_true]
      cases x with
      | none => rfl
      | some x => simp [XO.ren_enc]
    · rw [upd_ne _ _ hn, ih (fun p hp => hm p (by simp [hp])) hnd.2 n]
      cases hi : inv τ n with
      | none => rfl
      | some m' =>
        simp only [lk]
        have : Nat.beq q m' = false := by
          rw [← Bool.not_eq_true, Nat.beq_eq]
          rintro rfl
          have h1 := (inv_iff hτ).1 hi
          have h2 := (ren_iff hτ).2 h1
          rw [h2] at hmm; cases hmm; exact hn rfl
        rw [this]; rfl

omit [Mo] in
theorem hasKey_mem {l : List Nat} {n : Nat} : hasKey l n = true ↔ n ∈ l := by
  unfold hasKey
  rw [List.any_eq_true]
  constructor
  · rintro ⟨x, h1, h2⟩; rw [Nat.eq_of_beq_eq_true h2]; exact h1
  · intro h; exact ⟨n, h, Nat.beq_refl n⟩

omit [Mo] in
theorem getOs_keys {g : XG} {ρ0 : Ren} : ∀ {os : List (Nat × OSh)} {ρ : Ren} {hs : List HV}, getOs g ρ0 os ρ = some hs → os.map (·.1) = ρ.map (·.1)
  | [], [], _, _ => rfl
  | (n, sh) :: os, (n', m) :: ρ, hs, h => by
    simp only [getOs] at h
    cases hc : Nat.beq n' n with
    | false => rw [hc] at h; cases h
    | true =>
      rw [hc] at h
      simp only [cond_true] at h
      split at h
      · split at h
        · rename_i h2
          simp only [List.map_cons, getOs_keys h2, Nat.eq_of_beq_eq_true hc]
        · cases h
      · cases h
  | [], _ :: _, _, h => by simp [getOs] at h
  | _ :: _, [], _, h => by simp [getOs] at h

omit [Mo] in
/-- what is kept stands in the callee's objects as it is -/
theorem getOs_kept {g : XG} {ρ0 : Ren} {kp : List Nat} : ∀ (os : List (Nat × OSh)) (ρ : Ren) (hs l : List HV) (so : XS), getOs g ρ0 os ρ = some hs → fillS os (hs ++ l) = (so, l) → (∀ p ∈ ρ, lk ρ0 p.1 = some p.2) → keepB g ρ0 kp os = true →
    ∀ (n m : Nat), lk ρ n = some m → n ∈ kp → ∃ x, gx g m = some x ∧ x.allN (fun k => (inv ρ0 k).isSome) = true ∧ lk so n = some (some (x.ren (inv ρ0)))
  | [], [], hs, l, so, h, hf, hr, hk, n, m, hn, hkp => by simp [lk] at hn
  | (n', sh) :: os, (n2, m') :: ρ, hs, l, so, h, hf, hr, hk, n, m, hn, hkp => by
    simp only [getOs] at h
    cases hc : Nat.beq n2 n' with
    | false => rw [hc] at h; cases h
    | true =>
      have hnn := Nat.eq_of_beq_eq_true hc
      subst hnn
      rw [hc] at h
      simp only [cond_true] at h
      simp only [keepB, Bool.and_eq_true] at hk
      split at h
      · rename_i x hx
        split at h
        · rename_i a b h1 h2
          cases h
          rw [List.append_assoc] at hf
          simp only [fillS] at hf
          simp only [lk] at hn
          cases hq : Nat.beq n2 n with
          | true =>
            have hqq := Nat.eq_of_beq_eq_true hq
            subst hqq
            rw [hq] at hn
            cases hn
            have hk1 := hk.1
            have hany : (kp.any (Nat.beq n2)) = true := hasKey_mem.2 hkp
            rw [hany, hr (n2, m') (by simp)] at hk1
            simp only [Option.getD_some, hx, cond_true, Bool.and_eq_true] at hk1
            have := getO_ex sh (x.ren (inv ρ0)) a (b ++ l) h1 hk1.2
            rw [this] at hf
            injection hf with hf1 hf2
            exact ⟨x, hx, hk1.1, by rw [← hf1]; simp [lk]⟩
          | false =>
            rw [hq] at hn
            simp only [cond_false] at hn
            obtain ⟨x', h7, _⟩ := getO_wk sh (some (x.ren (inv ρ0))) a (b ++ l) h1
            rw [h7] at hf
            injection hf with hf1 hf2
            obtain ⟨x1, e1, e2, e3⟩ := getOs_kept os ρ b l (fillS os (b ++ l)).1 h2 (Prod.ext rfl hf2) (fun p hp => hr p (by simp [hp])) hk.2 n m hn hkp
            exact ⟨x1, e1, e2, by rw [← hf1]; simp [lk, hq, e3]⟩
        · cases h
      · cases h
  | [], _ :: _, _, _, _, h, _, _, _, _, _, _, _ => by simp [getOs] at h
  | _ :: _, [], _, _, _, h, _, _, _, _, _, _, _ => by simp [getOs] at h

omit [Mo] in
theorem lk_keptOf {s : XS} : ∀ (kp : List Nat) (n : Nat), lk (keptOf kp s) n = if n ∈ kp then lk s n else none
  | [], n => by simp [keptOf, lk]
  | k :: kp, n => by
    simp only [keptOf]
    cases hl : lk s k with
    | none =>
      simp only []
      rw [lk_keptOf kp n]
      by_cases hn : n = k
      · subst hn; simp [hl]
      · simp [hn]
    | some x =>
      simp only [lk]
      cases hb : Nat.beq k n with
      | true => have := Nat.eq_of_beq_eq_true hb; subst this; simp [hl]
      | false =>
        have hn : ¬ n = k := by rintro rfl; simp at hb
        rw [cond_false, lk_keptOf kp n]; simp [hn]
omit [Mo] in
theorem lk_of_mem {α : Type} : ∀ {l : List (Nat × α)} {n : Nat} {a : α}, nodupB (l.map (·.1)) = true → (n, a) ∈ l → lk l n = some a
  | [], _, _, _, h => by cases h
  | (i, b) :: l, n, a, hd, h => by
    simp only [List.map_cons, nodupB, Bool.and_eq_true, Bool.not_eq_true'] at hd
    rw [lk]
    rcases List.mem_cons.1 h with h | h
    · cases h; simp
    · have : Nat.beq i n = false := by
        rw [← Bool.not_eq_true, Nat.beq_eq]
        rintro rfl
        exact nodup_mem hd.1 i (List.mem_map.2 ⟨_, h, rfl⟩) rfl
      rw [this, cond_false]; exact lk_of_mem hd.2 h

omit [Mo] in
theorem backS_call {g : XG} {s : Store} (ha : Agree g s) {ρ σ : Ren} {kp : List Nat} {os : List (Nat × OSh)} {out so : XS} (hcb : callB g ρ σ kp os = true) (hok : out.map (·.1) = os.map (·.1))
    (hkept : ∀ (n m : Nat), lk ρ n = some m → n ∈ kp → ∃ x, gx g m = some x ∧ x.allN (fun k => (inv ρ k).isSome) = true ∧ lk so n = some (some (x.ren (inv ρ)))) (hso : so.map (·.1) = ρ.map (·.1)) :
    backS (ρ ++ σ) (encS (out ++ keptOf kp so)) s = over s (out.map fun p => ((ren (ρ ++ σ) p.1).getD 0, p.2.map (XO.ren (ren (ρ ++ σ))))) := by
  unfold callB at hcb
  simp only [Bool.and_eq_true] at hcb
  obtain ⟨⟨⟨⟨⟨⟨b1, b2⟩, b3⟩, b4⟩, b5⟩, b6⟩, b7⟩ := hcb
  have hnr : nodupB (ρ.map (·.1)) = true := by unfold okRen at b1; rw [Bool.and_eq_true] at b1; exact b1.1
  have hmem : ∀ p ∈ out, ∃ m, ren (ρ ++ σ) p.1 = some m := by
    intro p hp
    have h1 : p.1 ∈ os.map (·.1) := by rw [← hok]; exact List.mem_map.2 ⟨p, hp, rfl⟩
    obtain ⟨q, hq, he⟩ := List.mem_map.1 h1
    have h2 := hasKey_mem.1 (List.all_eq_true.1 b6 q hq)
    obtain ⟨t, ht, he2⟩ := List.mem_map.1 h2
    exact ⟨t.2, (ren_iff b3).2 (by rw [← he, ← he2]; simpa using ht)⟩
  funext n
  rw [over_ren b3 out hmem (by rw [hok]; exact b5) n]
  unfold backS
  cases hi : inv (ρ ++ σ) n with
  | none => rfl
  | some m =>
    have h1 := (inv_iff b3).1 hi
    simp only [encS, lk_append]
    cases hl : lk out m with
    | some x => rfl
    | none =>
      simp only
      have hno : hasKey (os.map (·.1)) m = false := by
        rw [← Bool.not_eq_true, hasKey_mem, ← hok]
        intro hm
        obtain ⟨p, hp, he⟩ := List.mem_map.1 hm
        exact lk_none hl p.2 (by rw [← he]; simpa using hp)
      have h7 := List.all_eq_true.1 b7 _ h1
      simp only [hno, cond_false] at h7
      have hmk := hasKey_mem.1 h7
      rw [lk_keptOf, if_pos hmk]
      rcases List.mem_append.1 h1 with hr | hs
      · obtain ⟨x, e1, e2, e3⟩ := hkept m n (lk_of_mem hnr hr) hmk
        rw [e3, ha.is _ _ (gx_some e1)]
        simp only [Option.map_some]
        rw [← XO.ren_enc, XO.ren_back _ _ (fun a b hab => ?_) x e2]
        exact (ren_iff b3).2 (List.mem_append_left _ ((inv_iff b1).1 hab))
      · have hnone : lk so m = none := by
          cases hq : lk so m with
          | none => rfl
          | some y =>
            exfalso
            have h3 : m ∈ ρ.map (·.1) := by rw [← hso]; exact List.mem_map.2 ⟨_, lk_mem hq, rfl⟩
            obtain ⟨p, hp, he⟩ := List.mem_map.1 h3
            unfold okRen at b3
            rw [Bool.and_eq_true] at b3
            have h5 : ∀ (l : Ren) (p q : Nat × Nat), nodupB (l.map (·.1)) = true → p ∈ l → q ∈ l → p.1 = q.1 → p = q := by
              intro l p q hd hp hq he
              have e1 := lk_of_mem hd (show (p.1, p.2) ∈ l from hp)
              have e2 := lk_of_mem hd (show (q.1, q.2) ∈ l from hq)
              rw [he, e2] at e1
              exact Prod.ext he (Option.some.inj e1).symm
            have hpq := h5 _ p (m, n) b3.1 (List.mem_append_left _ hp) h1 he
            subst hpq
            -- a name of both parts
            have : ∀ (a b : Ren) (q : Nat × Nat), nodupB ((a ++ b).map (·.1)) = true → q ∈ a → q ∈ b → False := by
              intro a b q hd h1 h2
              induction a with
              | nil => cases h1
              | cons z a ih =>
                simp only [List.cons_append, List.map_cons, nodupB, Bool.and_eq_true, Bool.not_eq_true'] at hd
                rcases List.mem_cons.1 h1 with h1 | h1
                · subst h1
                  exact nodup_mem hd.1 q.1 (List.mem_map.2 ⟨q, List.mem_append_right _ h2, rfl⟩) rfl
                · exact ih hd.2 h1
            exact this ρ σ _ b3.1 hp hs
        rw [hnone, isFree_spec ha (List.all_eq_true.1 b4 _ hs)]; rfl

/-- a call's law -/
theorem callIn_ok {C : Con P} {g : XG} {o : Oper} {st : St} (ha : Agree g st.s) {fop : Operand} {args : Array Operand} {ts : Array TypeId} {e : Operand → X} {caps : List X} {y : Tup C.h} {ρ : Ren}
    (hop : o.op = .call ⟨.value fop, args, ts⟩) (he : ∀ x ∈ o.op.operands.toList, ev noG st.t x = (e x).enc) (hf : xfn (e fop) = some (C.f, caps)) (hc : callIn C g (args.toList.map e ++ caps) = .call y ρ)
    (d : Nat) {r : AltT (C.R.map (·.h))} (hr : C.F y = some r) :
    elimAlt (C.R.map (·.h)) r fun i l => callB g ρ (fresh ρ d (rAt C.R i).o) C.kp (rAt C.R i).o = true → OkW P noG o st (callOut (rAt C.R i) ρ d l).1.enc (over st.s (callOut (rAt C.R i) ρ d l).2) := by
  unfold callIn at hc
  simp only at hc
  split at hc
  · cases hc
  · split at hc
    · rename_i h1 h2 e1 e2
      split at hc
      · rename_i y' hy
        cases hkb : keepB g (C.A.o.map fun p => (p.1, nameOf (bindO g C.A.o (bindL C.A.a (args.toList.map e ++ caps) ⟨[], []⟩)) p.1)) C.kp C.A.o with
        | false => rw [hkb] at hc; cases hc
        | true =>
        rw [hkb] at hc
        simp only [cond_true] at hc
        injection hc with hc1 hc2
        subst hc1
        refine elim_mono _ _ ?_ (C.ok y' r hr)
        intro i l hct hcb
        have hfop : ev noG st.t fop = (e fop).enc := he fop (by rw [hop]; simp [Op.operands, Call.operands])
        have hargs : args.toList.map (ev noG st.t) = (args.toList.map e).map X.enc := by
          rw [List.map_map]
          refine List.map_congr_left fun z hz => he z ?_
          rw [hop]; simp only [Op.operands, Call.operands, Array.toList_append, List.mem_append]; exact .inr hz
        rw [hc2] at e1 e2 hkb
        have ho := toTup_of C.h _ y' hy
        obtain ⟨xs', k1, k2⟩ := getL_wk C.A.a _ h1 h2 e1
        obtain ⟨L, Lx, k3, k4, so, k5, k6⟩ := getOs_hand ha (ρ0 := ρ) C.A.o ρ h2 [] e2
        have hb := hcb
        unfold callB at hcb
        simp only [Bool.and_eq_true] at hcb
        obtain ⟨⟨⟨⟨⟨⟨b1, b2⟩, b3⟩, b4⟩, b5⟩, b6⟩, b7⟩ := hcb
        have hnr : nodupB (ρ.map (·.1)) = true := by unfold okRen at b1; rw [Bool.and_eq_true] at b1; exact b1.1
        have hkept := getOs_kept C.A.o ρ h2 [] so e2 k5 (fun p hp => lk_of_mem hnr (by simpa using hp)) hkb
        rw [List.append_nil] at k5
        have hin : inOf C.A (ofTup C.h y') = (xs', so) := by rw [ho]; unfold inOf; simp only [k1, k5]
        have hso : so.map (·.1) = ρ.map (·.1) := by
          rw [← getOs_keys e2]
          have := fillS_keys C.A.o h2
          rw [k5] at this; exact this
        rw [hin] at hct
        have hct' : CT P noG C.f (renL (inv ρ) (args.toList.map (ev noG st.t) ++ encL caps)) (stoL L) fun r' s' => r' = (outOf (rAt C.R i) l).1.enc ∧ s' = encS ((outOf (rAt C.R i) l).2 ++ keptOf C.kp so) := by
          refine CT.wk hct ?_ ?_
          · rw [hargs, encL_map, ← List.map_append, ← xrenL_map]; exact k2
          · intro B w F loc h
            rw [k4] at h
            have := RelS.wkS (post := []) k6 [] (by simpa using h)
            simpa using this
        have := OkW.call (σ := fresh ρ d (rAt C.R i).o) hop (by rw [hfop]; exact xfn_spec hf) C.hfn C.hname C.hb b1 b2 k3 rfl hct' b3 (by
          rw [List.all_eq_true] at b4 ⊢
          intro p hp
          rw [isFree_spec ha (b4 p hp)]; rfl)
        rw [backS_call ha hb (by unfold outOf; exact fillS_keys _ _) hkept hso] at this
        unfold callOut
        simp only
        rw [X.ren_enc]
        exact this
      · cases hc
    · cases hc
end Go.Proofs.YtnpgfcedmdnemaaDoor.Mc

/- THE MACHINE (54): typed operations run in a row. -/
namespace Go.Proofs.YtnpgfcedmdnemaaDoor.Mc
open Go.RowKit
variable [Mo]
set_option linter.constructorNameAsVariable false
variable {P : Program} {D : Dec}

def putX (st : XSt) (dst : Option Nat) (v : X) (u : XS) : XSt := ⟨match dst with | some d => (d, v) :: st.t | none => st.t, u ++ st.s⟩
omit [Mo] in
theorem putX_enc (E : XE) (st : XSt) (dst : Option Nat) (v : X) (u : XS) : encSt E (putX st dst v u) = (encSt E st).put dst v.enc (over (encSt E st).s u) := by
  cases dst with
  | none =>
    show St.mk (encT (st.t ++ E.t)) (encS ((u ++ st.s) ++ E.s)) E.n E.a = St.mk _ _ _ _
    rw [List.append_assoc, encS_over]; rfl
  | some d =>
    show St.mk (encT ((d, v) :: (st.t ++ E.t))) (encS ((u ++ st.s) ++ E.s)) E.n E.a = St.mk _ _ _ _
    rw [List.append_assoc, encS_over, encT_cons]; rfl
def fitsX (E : XE) (dst : Option Nat) : Bool := match dst with | some d => Nat.blt d E.n | none => true
def evE (E : XE) (st : XSt) : Operand → X := evX (st.t ++ E.t)
def gE (E : XE) (st : XSt) : XG := fun n => lk (st.s ++ E.s) n
omit [Mo] in
theorem agreeE (E : XE) (st : XSt) : Agree (gE E st) (encSt E st).s := by
  constructor
  · intro o x h
    show encS (st.s ++ E.s) o = _
    unfold encS
    rw [show lk (st.s ++ E.s) o = some (some x) from h]; rfl
  · intro d h
    show encS (st.s ++ E.s) d = _
    unfold encS
    rw [show lk (st.s ++ E.s) d = none from h]
omit [Mo] in
theorem evE_enc (E : XE) (st : XSt) (x : Operand) : ev noG (encSt E st).t x = (evE E st x).enc := (evX_enc _ x).symm

/-- is a guarded operation carried out? -/
def wantX (ops : Array Oper) (E : XE) (o : Oper) (st : XSt) : Option Bool :=
  match o.guard with
  | none => some true
  | some (j, w) => match (ops[j]?).bind (·.dst) with
    | some d => cond (Nat.blt d E.n) (match lkE E st d with | .b q => some (q == w) | .tp [] => some false | _ => none) none
    | none => none
omit [Mo] in
theorem lkE_enc (E : XE) (st : XSt) (i : Nat) : (encSt E st).t i = (lkE E st i).enc := encT_lk _ i
omit [Mo] in
theorem wantX_spec {ops : Array Oper} {E : XE} {o : Oper} {st : XSt} {b : Bool} (h : wantX ops E o st = some b) : want ops o (encSt E st) = some b := by
  unfold wantX at h
  unfold want
  split at h
  · rename_i hg; rw [hg]; exact h
  · rename_i j w hg
    rw [hg]
    simp only
    split at h
    · rename_i d hd
      rw [hd]
      simp only
      cases hn : Nat.blt d E.n with
      | false => rw [hn] at h; cases h
      | true =>
        rw [hn] at h
        simp only [cond_true] at h
        have hn' : Nat.blt d (encSt E st).n = true := hn
        rw [hn', lkE_enc]
        split at h
        · rename_i q hq; rw [hq]; exact h
        · rename_i hq; rw [hq]; exact h
        · cases h
    · cases h

variable {G : Glob}
theorem TrOps.opW {ops : Array Oper} {o : Oper} {l : List Oper} {st : St} {Q : Exit → St → Prop} {v : V} {s' : Store} (hw : want ops o st = some true) (hd : fits st o.dst = true) (h : OkW P G o st v s')
    (k : TrOps P G ops l (st.put o.dst v s') Q) : TrOps P G ops (o :: l) st Q := by
  intro B F loc a w hR hdf
  show if _ then _ else _
  rw [want_spec hR hw]
  simp only [if_true]
  left
  exact h B F loc a w hR _ _ fun x F' loc' w' hS hk hs hv => k B F' loc' _ w' (hR.put hd hS hk hs hv) (by cases ho : o.dst <;> simp [Act.put, hdf])
theorem TrOps.opD {ops : Array Oper} {o : Oper} {l : List Oper} {st : St} {Q : Exit → St → Prop} {c : Bool} {v1 v2 : V} (hw : want ops o st = some true) (hd : fits st o.dst = true) (h : OkD P o st c v1 v2)
    (k1 : c = true → TrOps P noG ops l (st.put o.dst v1 st.s) Q) (k2 : TrOps P noG ops l (st.put o.dst v2 st.s) Q) : TrOps P noG ops (o :: l) st Q := by
  intro B F loc a w hR hdf
  show if _ then _ else _
  rw [want_spec hR hw]
  simp only [if_true]
  left
  obtain ⟨x, hrun, hx⟩ := h B F loc a w hR
  unfold Oper.wp
  rw [hrun]
  have hdf' : (a.put o.dst x).defers = [] := by cases ho : o.dst <;> simp [Act.put, hdf]
  rcases hx with ⟨hc, hx⟩ | hx
  · exact k1 hc B F loc _ w (hR.put hd hR.s (Kept.refl _ _) (Same.refl _) hx) hdf'
  · exact k2 B F loc _ w (hR.put hd hR.s (Kept.refl _ _) (Same.refl _) hx) hdf'

noncomputable def nilT {R : Type} (c : Bool) (A B : Option R) : Option R := cond c (open Classical in if A = B then B else none) B
omit [Mo] in
theorem nilT_out {R : Type} {c : Bool} {A B : Option R} {r : R} (h : nilT c A B = some r) : (c = true → A = some r) ∧ B = some r := by
  cases c with
  | false => exact ⟨fun h => (by cases h), h⟩
  | true =>
    simp only [nilT, cond_true] at h
    split at h
    · rename_i hab; exact ⟨fun _ => by rw [hab]; exact h, h⟩
    · cases h
omit [Mo] in
theorem nilT_of {R : Type} {c : Bool} {A B : Option R} (h : c = true → A = B) : nilT c A B = B := by
  cases c with
  | false => rfl
  | true => simp only [nilT, cond_true, h rfl]; simp

/-! what an operation wants frozen first -/
mutual
def ownedIn : X → Option Nat
  | .sl _ o => some o
  | .sw o _ _ => some o
  | .ag l => ownedL l
  | .ifc _ x => ownedIn x
  | _ => none
def ownedL : List X → Option Nat
  | [] => none
  | x :: l => match ownedIn x with | some o => some o | none => ownedL l
end
def isPe : X → Bool | .pe _ _ _ => true | _ => false
def frzWish (e : Operand → X) : Op → Option Nat
  | .buildSlice _ _ parts => ownedL (parts.toList.map fun p => e p.2)
  | .store _ p x => cond (isPe (e p)) (ownedIn (e x)) none
  | _ => none

mutual
def Sh.ren (f : Nat → Option Nat) : Sh → Sh
  | .sl nl o => match f o with | some o' => .sl nl o' | none => .dead
  | .sw o => match f o with | some o' => .sw o' | none => .dead
  | .pt o off => match f o with | some o' => .pt o' off | none => .dead
  | .pe o off => match f o with | some o' => .pe o' off | none => .dead
  | .mp o => match f o with | some o' => .mp o' | none => .dead
  | .it o => match f o with | some o' => .it o' | none => .dead
  | .sp o => match f o with | some o' => .sp o' | none => .dead
  | .fn g l => .fn g (shrenL f l)
  | .ag l => .ag (shrenL f l)
  | .tp l => .tp (shrenL f l)
  | .ifc t x => .ifc t (Sh.ren f x)
  | x => x
def shrenL (f : Nat → Option Nat) : List Sh → List Sh
  | [] => []
  | x :: l => Sh.ren f x :: shrenL f l
end
def OSh.ren (f : Nat → Option Nat) : OSh → OSh
  | .bx e l => .bx e (shrenL f l)
  | x => x
/-- an object that tells less -/
def xweak (sh : OSh) (n : Nat) (st : XSt) : Option XSt :=
  match lk st.s n with
  | some (some x) => match getO sh (some x) with
    | some hs => some ⟨st.t, (n, (fillO sh hs).1) :: st.s⟩
    | none => none
  | _ => none
theorem Conv.xweak {E : XE} {sh : OSh} {n : Nat} {st st' : XSt} (h : Mc.xweak sh n st = some st') : Conv noG (encSt E st) (encSt E st') := by
  unfold Mc.xweak at h
  split at h
  · rename_i x hl
    split at h
    · rename_i hs hgo
      cases h
      obtain ⟨x', h1, h2⟩ := getO_wk sh (some x) hs [] hgo
      rw [List.append_nil] at h1
      rw [h1]
      intro B F loc tmps w hR
      refine ⟨F, loc, ⟨?_, hR.t, hR.n, hR.a⟩⟩
      have hS : RelS noG B w F loc (encS (st.s ++ E.s)) := hR.s
      have he : encS ((n, some x) :: (st.s ++ E.s)) = encS (st.s ++ E.s) := by
        funext m
        unfold encS
        rw [lk]
        cases hb : Nat.beq n m with
        | true => rw [← Nat.eq_of_beq_eq_true hb, lk_append, hl]; rfl
        | false => rfl
      have := RelS.wkO (pre := []) (post := st.s ++ E.s) (by rw [List.nil_append, he]; exact hS) h2
      exact this
    · cases h
  · cases h
def xweakL (ρ : Ren) (kp : List Nat) : List (Nat × OSh) → XSt → Option XSt
  | [], st => some st
  | (n, sh) :: l, st => cond (hasKey kp n) (match xweak (sh.ren (ren ρ)) ((lk ρ n).getD 0) st with
    | some st' => xweakL ρ kp l st'
    | none => none) (xweakL ρ kp l st)
theorem xweakL_conv {E : XE} {ρ : Ren} {kp : List Nat} : ∀ {l : List (Nat × OSh)} {st st' : XSt}, xweakL ρ kp l st = some st' → Conv noG (encSt E st) (encSt E st')
  | [], st, st', h => by simp only [xweakL] at h; cases h; exact Conv.refl _
  | (n, sh) :: l, st, st', h => by
    simp only [xweakL] at h
    cases hc : hasKey kp n with
    | false => rw [hc] at h; exact xweakL_conv h
    | true =>
      rw [hc] at h
      simp only [cond_true] at h
      split at h
      · rename_i st1 h1
        exact Conv.trans (Conv.xweak h1) (xweakL_conv h)
      · cases h

/-! one operation -/
def callOp : Op → Option (Operand × List Operand)
  | .call ⟨.value f, args, _⟩ => some (f, args.toList)
  | _ => none
def dNum : Option Nat → Nat | some d => d | none => 99999
def callK {R : Type} (C : Con P) (E : XE) (o : Oper) (st : XSt) (y : Tup C.h) (ρ : Ren) (kk : XSt → Option R) : Option R :=
  (C.F y).bind fun r => elimAlt (C.R.map (·.h)) r fun i l =>
    cond (callB (gE E st) ρ (fresh ρ (dNum o.dst) (rAt C.R i).o) C.kp (rAt C.R i).o) (kk (putX st o.dst (callOut (rAt C.R i) ρ (dNum o.dst) l).1 (callOut (rAt C.R i) ρ (dNum o.dst) l).2)) none
/-- the first contract that fits; if none does, the first that asks for something frozen or for an object that tells less -/
inductive Pick (P : Program) where
  | bad
  | call (C : Con P) (y : Tup C.h) (ρ : Ren)
  | frz (o : Nat)
  | wkn (st : XSt)
def pick1 (E : XE) (f : FuncId) (xs : List X) (st : XSt) : List (Con P) → Pick P
  | [] => .bad
  | C :: Γ => cond (Nat.beq C.f f) (match callIn C (gE E st) xs with
    | .call y ρ => .call C y ρ
    | _ => pick1 E f xs st Γ) (pick1 E f xs st Γ)
def pick2 (E : XE) (f : FuncId) (xs : List X) (st : XSt) : List (Con P) → Pick P
  | [] => .bad
  | C :: Γ => cond (Nat.beq C.f f) (match callIn C (gE E st) xs with
    | .frz o => .frz o
    | _ =>
      let ρ := C.A.o.map fun p => (p.1, nameOf (bindO (gE E st) C.A.o (bindL C.A.a xs ⟨[], []⟩)) p.1)
      match walkS E ⟨[], C.A.o⟩ C.A.o (bindL C.A.a xs ⟨[], []⟩) st with
      | some (_, st1) => cond (Nat.blt st.s.length st1.s.length) (.wkn st1) (cond (keepB (gE E st) ρ C.kp C.A.o) (pick2 E f xs st Γ) (match xweakL ρ C.kp C.A.o st with
      | some st' => .wkn st'
      | none => pick2 E f xs st Γ))
      | none => pick2 E f xs st Γ) (pick2 E f xs st Γ)
def pickC (E : XE) (f : FuncId) (xs : List X) (st : XSt) (Γ : List (Con P)) : Pick P :=
  match pick1 E f xs st Γ with
  | .bad => pick2 E f xs st Γ
  | p => p
noncomputable def opRun {R : Type} (D : Dec) (rows : Nat → Option Row) (Γ : List (Con P)) (ops : Array Oper) (E : XE) : Nat → Oper → XSt → (XSt → Option R) → Option R
  | 0, _, _, _ => none
  | n + 1, o, st, kk => match wantX ops E o st, fitsX E o.dst with
    | some true, true => match callOp o.op with
      | some (fop, args) => match xfn (evE E st fop) with
        | some (f, caps) => match pickC E f (args.map (evE E st) ++ caps) st Γ with
          | .call C y ρ => callK C E o st y ρ kk
          | .frz q => match xfreeze E q st with
            | some st' => opRun D rows Γ ops E n o st' kk
            | none => none
          | .wkn st' => opRun D rows Γ ops E n o st' kk
          | .bad => none
        | none => none
      | none => match frzWish (evE E st) o.op with
        | some q => match xfreeze E q st with
          | some st' => opRun D rows Γ ops E n o st' kk
          | none => none
        | none => match xop D rows (gE E st) (evE E st) o with
          | .ok v u => kk (putX st o.dst v u)
          | .grd q v u => grd q (kk (putX st o.dst v u))
          | .bnd _ m f => m.bind fun a => kk (putX st o.dst (f a).1 (f a).2)
          | .nilq c v1 v2 => nilT c (kk (putX st o.dst v1 [])) (kk (putX st o.dst v2 []))
          | .cs c v1 u1 v2 u2 => cond c (kk (putX st o.dst v1 u1)) (kk (putX st o.dst v2 u2))
          | _ => none
    | _, _ => none

theorem pick1_call {E : XE} {f : FuncId} {xs : List X} {st : XSt} : ∀ {Γ : List (Con P)} {C : Con P} {y : Tup C.h} {ρ : Ren}, pick1 E f xs st Γ = .call C y ρ → C.f = f ∧ callIn C (gE E st) xs = .call y ρ
  | [], C, y, ρ, h => by cases h
  | C' :: Γ, C, y, ρ, h => by
    simp only [pick1] at h
    cases hc : Nat.beq C'.f f with
    | false => rw [hc] at h; exact pick1_call h
    | true =>
      rw [hc] at h
      simp only [cond_true] at h
      split at h
      · rename_i y' ρ' hci
        cases h
        exact ⟨Nat.eq_of_beq_eq_true hc, hci⟩
      · exact pick1_call h
theorem pick1_only {E : XE} {f : FuncId} {xs : List X} {st : XSt} : ∀ {Γ : List (Con P)}, pick1 E f xs st Γ = .bad ∨ ∃ C y ρ, pick1 E f xs st Γ = .call C y ρ
  | [] => .inl rfl
  | C' :: Γ => by
    simp only [pick1]
    cases Nat.beq C'.f f with
    | false => exact pick1_only
    | true =>
      simp only [cond_true]
      split
      · exact .inr ⟨_, _, _, rfl⟩
      · exact pick1_only
theorem pick2_wkn {E : XE} {f : FuncId} {xs : List X} {st st' : XSt} : ∀ {Γ : List (Con P)}, pick2 E f xs st Γ = .wkn st' → Conv noG (encSt E st) (encSt E st')
  | [], h => by cases h
  | C' :: Γ, h => by
    simp only [pick2] at h
    cases hc : Nat.beq C'.f f with
    | false => rw [hc] at h; exact pick2_wkn h
    | true =>
      rw [hc] at h
      simp only [cond_true] at h
      split at h
      · cases h
      · split at h
        · rename_i a1 st1 hw
          cases hb : Nat.blt st.s.length st1.s.length with
          | true =>
            rw [hb] at h
            cases h
            exact walkS_conv hw
          | false =>
            rw [hb] at h
            simp only [cond_false] at h
            cases hk : keepB (gE E st) (C'.A.o.map fun p => (p.1, nameOf (bindO (gE E st) C'.A.o (bindL C'.A.a xs ⟨[], []⟩)) p.1)) C'.kp C'.A.o with
            | true => rw [hk] at h; exact pick2_wkn h
            | false =>
              rw [hk] at h
              simp only [cond_false] at h
              split at h
              · rename_i st1 h1
                cases h
                exact xweakL_conv h1
              · exact pick2_wkn h
        · exact pick2_wkn h
theorem pick2_call {E : XE} {f : FuncId} {xs : List X} {st : XSt} {C : Con P} {y : Tup C.h} {ρ : Ren} : ∀ {Γ : List (Con P)}, pick2 E f xs st Γ ≠ .call C y ρ
  | [], h => by cases h
  | C' :: Γ, h => by
    simp only [pick2] at h
    cases hc : Nat.beq C'.f f with
    | false => rw [hc] at h; exact pick2_call h
    | true =>
      rw [hc] at h
      simp only [cond_true] at h
      split at h
      · cases h
      · split at h
        · rename_i a1 st1 hw
          cases hb : Nat.blt st.s.length st1.s.length with
          | true => rw [hb] at h; cases h
          | false =>
            rw [hb] at h
            simp only [cond_false] at h
            cases hk : keepB (gE E st) (C'.A.o.map fun p => (p.1, nameOf (bindO (gE E st) C'.A.o (bindL C'.A.a xs ⟨[], []⟩)) p.1)) C'.kp C'.A.o with
            | true => rw [hk] at h; exact pick2_call h
            | false =>
              rw [hk] at h
              simp only [cond_false] at h
              split at h
              · cases h
              · exact pick2_call h
        · exact pick2_call h
theorem pickC_call {E : XE} {f : FuncId} {xs : List X} {st : XSt} {Γ : List (Con P)} {C : Con P} {y : Tup C.h} {ρ : Ren} (h : pickC E f xs st Γ = .call C y ρ) : C.f = f ∧ callIn C (gE E st) xs = .call y ρ := by
  unfold pickC at h
  split at h
  · exact absurd h pick2_call
  · exact pick1_call h
theorem pickC_wkn {E : XE} {f : FuncId} {xs : List X} {st st' : XSt} {Γ : List (Con P)} (h : pickC E f xs st Γ = .wkn st') : Conv noG (encSt E st) (encSt E st') := by
  unfold pickC at h
  split at h
  · exact pick2_wkn h
  · rcases pick1_only (E := E) (f := f) (xs := xs) (st := st) (Γ := Γ) with h1 | ⟨C, y, ρ, h1⟩
    · rw [h1] at h; cases h
    · rw [h1] at h; cases h

omit [Mo] in
theorem callOp_spec {op : Op} {fop : Operand} {args : List Operand} (h : callOp op = some (fop, args)) : ∃ az ts, op = .call ⟨.value fop, az, ts⟩ ∧ az.toList = args := by
  unfold callOp at h
  split at h
  · rename_i f az ts; cases h; exact ⟨az, ts, rfl, rfl⟩
  · cases h

theorem opRun_sound (hg : Good P D) {R : Type} {rows : Nat → Option Row} {Γ : List (Con P)} {ops : Array Oper} {E : XE} {l : List Oper} {Q : Exit → St → Prop} {r : R} : ∀ (n : Nat) (o : Oper) (st : XSt) (kk : XSt → Option R), opRun D rows Γ ops E n o st kk = some r →
    (∀ st', kk st' = some r → TrOps P noG ops l (encSt E st') Q) → TrOps P noG ops (o :: l) (encSt E st) Q
  | 0, _, _, _, h, _ => by cases h
  | n + 1, o, st, kk, h, hk => by
    simp only [opRun] at h
    split at h
    · rename_i hw hfit
      have hw' := wantX_spec hw
      have hd : fits (encSt E st) o.dst = true := hfit
      split at h
      · rename_i fop args hco
        split at h
        · rename_i f caps hf
          split at h
          · rename_i C y ρ hp
            obtain ⟨rfl, hci⟩ := pickC_call hp
            obtain ⟨az, ts, hop, rfl⟩ := callOp_spec hco
            unfold callK at h
            obtain ⟨z, hz, h⟩ := bind_out h
            have law := callIn_ok (agreeE E st) hop (fun x _ => evE_enc E st x) hf hci (dNum o.dst) hz
            obtain ⟨i, l', h1, h2⟩ := elim_both _ z h law
            obtain ⟨hcb, h1⟩ := grd_out (c := callB _ _ _ _ _) h1
            refine TrOps.opW hw' hd (h2 hcb) ?_
            rw [← putX_enc]
            exact hk _ h1
          · split at h
            · rename_i st' hfz
              exact TrOps.conv (Conv.xfreeze hfz) (opRun_sound hg n o st' kk h hk)
            · cases h
          · rename_i st' hp
            exact TrOps.conv (pickC_wkn hp) (opRun_sound hg n o st' kk h hk)
          · cases h
        · cases h
      · split at h
        · split at h
          · rename_i st' hfz
            exact TrOps.conv (Conv.xfreeze hfz) (opRun_sound hg n o st' kk h hk)
          · cases h
        · have law := xop_spec (o := o) (st := encSt E st) (rows := rows) hg (agreeE E st) (fun x _ => evE_enc E st x)
          split at h
          · rename_i v u hx
            rw [hx] at law
            refine TrOps.op hw' hd law ?_
            rw [← putX_enc]; exact hk _ h
          · rename_i q v u hx
            rw [hx] at law
            obtain ⟨hq, h⟩ := grd_out h
            refine TrOps.op hw' hd (law hq) ?_
            rw [← putX_enc]; exact hk _ h
          · rename_i α m f hx
            rw [hx] at law
            obtain ⟨a, ha, h⟩ := bind_out h
            refine TrOps.op hw' hd (law a ha) ?_
            rw [← putX_enc]; exact hk _ h
          · rename_i c v1 v2 hx
            rw [hx] at law
            obtain ⟨h1, h2⟩ := nilT_out h
            refine TrOps.opD hw' hd law (fun hc => ?_) ?_
            · have := putX_enc E st o.dst v1 []
              simp only [over] at this
              rw [← this]; exact hk _ (h1 hc)
            · have := putX_enc E st o.dst v2 []
              simp only [over] at this
              rw [← this]; exact hk _ h2
          · rename_i c v1 u1 v2 u2 hx
            rw [hx] at law
            cases c with
            | true =>
              refine TrOps.op hw' hd (law.1 rfl) ?_
              rw [← putX_enc]; exact hk _ h
            | false =>
              refine TrOps.op hw' hd (law.2 rfl) ?_
              rw [← putX_enc]; exact hk _ h
          · cases h
    · cases h
end Go.Proofs.YtnpgfcedmdnemaaDoor.Mc

/- THE MACHINE (55): regions that draw their order, by what each operation reads and writes. -/
namespace Go.Proofs.YtnpgfcedmdnemaaDoor.Mc
open Go.RowKit
variable [Mo]
variable {P : Program} {D : Dec}

/-- a way back along the orders that bind -/
inductive Way (ops : Array Oper) : Nat → Nat → Prop where
  | one {i j : Nat} (h : depOn ops i j = true) : Way ops i j
  | step {i k j : Nat} (h : depOn ops i k = true) (w : Way ops k j) : Way ops i j
omit [Mo] in
theorem Way.down {ops : Array Oper} {p : Nat → Prop} (hd : ∀ a b, p a → depOn ops a b = true → p b) {i j : Nat} (w : Way ops i j) (hi : p i) : p j := by
  induction w with
  | one h => exact hd _ _ hi h
  | step h _ ih => exact ih (hd _ _ hi h)

section
variable {ops : Array Oper} {t : Nat → V} {s : Store} {n : Nat} {an : List Nat} {vals : List V} {us : Nat → XS} {ns : Nat → List Nat} {B : Base}

/-- what the listed operations write, the later ones above -/
def acc (us : Nat → XS) (f : Nat → Bool) : Nat → XS
  | 0 => []
  | k + 1 => cond (f k) (us k) [] ++ acc us f k
structure Chk2 (ops : Array Oper) (n : Nat) (us : Nat → XS) (ns : Nat → List Nat) : Prop where
  fit : ∀ (i : Nat) (o : Oper) (d : Nat), ops[i]? = some o → o.dst = some d → d < n
  uniq : ∀ (i : Nat) (o : Oper) (d : Nat), ops[i]? = some o → o.dst = some d → dAt ops d = some i
  reads : ∀ i, i < ops.size → ∀ d ∈ rdOf ops i, ∀ j, dAt ops d = some j → depOn ops i j = true ∨ depOn ops j i = true ∨ i = j
  low : ∀ i j, depOn ops i j = true → j < i
  conf : ∀ i j, i < ops.size → j < ops.size → i ≠ j → Way ops i j ∨ Way ops j i ∨ ∀ m x, lk (us j) m = some x → m ∉ ns i ∧ lk (us i) m = none

def seqF (i j : Nat) : Bool := Nat.blt j i
/-- an operation's law where what it reads is as it is in a row -/
def LawL (P : Program) (ops : Array Oper) (t : Nat → V) (s : Store) (n : Nat) (an : List Nat) (vals : List V) (us : Nat → XS) (ns : Nat → List Nat) (i : Nat) : Prop :=
  ∀ st : St, st.n = n → st.a = an → (∀ d ∈ rdOf ops i, st.t d = tL ops t vals (seqF i) d) → (∀ m ∈ ns i, st.s m = over s (acc us (seqF i) ops.size) m) → OpLaw P noG ops (oA ops i) st (vOf vals i) (over st.s (us i))

structure Inv2 (B : Base) (ops : Array Oper) (t : Nat → V) (s : Store) (n : Nat) (an : List Nat) (vals : List V) (us : Nat → XS) (listed : Array Bool) (a : Act) (w : World) : Prop where
  size : listed.size = ops.size
  down : ∀ i j, Lf listed i = true → depOn ops i j = true → Lf listed j = true
  defers : a.defers = []
  rel : ∃ F loc, Rel noG B F loc ⟨tL ops t vals (Lf listed), over s (acc us (Lf listed) ops.size), n, an⟩ a.tmps w

omit [Mo] in
theorem over_lk (s : Store) : ∀ (u : XS) (m : Nat), over s u m = match lk u m with | some x => some (x.map XO.enc) | none => s m
  | [], m => rfl
  | (o, x) :: u, m => by
    rw [over, lk]
    by_cases h : m = o
    · subst h; rw [upd_self]; simp
    · have hb : Nat.beq o m = false := by rw [← Bool.not_eq_true, Nat.beq_eq]; exact fun e => h e.symm
      rw [upd_ne _ _ h, hb, cond_false]; exact over_lk s u m
omit [Mo] in
theorem lk_acc_eq {us : Nat → XS} {f g : Nat → Bool} {m : Nat} : ∀ (k : Nat), (∀ j, j < k → f j = g j ∨ lk (us j) m = none) → lk (acc us f k) m = lk (acc us g k) m
  | 0, _ => rfl
  | k + 1, h => by
    simp only [acc, lk_append]
    rw [lk_acc_eq k (fun j hj => h j (by omega))]
    rcases h k (by omega) with h1 | h1
    · rw [h1]
    · cases hf : f k <;> cases hg : g k <;> simp [lk, h1]

theorem inv2_step (hc : Chk2 ops n us ns) (hl : ∀ i, i < ops.size → LawL P ops t s n an vals us ns i) {listed : Array Bool} {a : Act} {w : World} (hI : Inv2 B ops t s n an vals us listed a w) {i : Nat} (hi : i ∈ Region.ready .any ops listed)
    {Q' : Exit → Act → World → Prop} {K : Act → World → Prop} (hK : ∀ a' w', Inv2 B ops t s n an vals us (listed.setIfInBounds i true) a' w' → K a' w') : wpOp P ops Q' i K a w := by
  obtain ⟨his, hL0, hdep⟩ := ready_spec hI.size hi
  obtain ⟨F, loc, hR⟩ := hI.rel
  have hil : i < listed.size := by rw [hI.size]; exact his
  have ho : ops[i]? = some ops[i] := by simp [his]
  generalize hoo : ops[i] = o at ho
  have hoA : oA ops i = o := by unfold oA; rw [Array.getElem?_toList, ho]; rfl
  -- operations that are unordered with i
  have unord : ∀ j, Lf listed j ≠ seqF i j → j < ops.size → j ≠ i ∧ ¬ Way ops i j ∧ ¬ Way ops j i := by
    intro j hne hj
    have hji : j ≠ i := by
      rintro rfl
      apply hne
      rw [hL0]; symm; unfold seqF; rw [← Bool.not_eq_true, Nat.blt_eq]; omega
    refine ⟨hji, fun hw => hne ?_, fun hw => hne ?_⟩
    · have h1 : Lf listed j = true := by
        cases hw with
        | one h => exact hdep _ h
        | step h w => exact w.down (p := fun q => Lf listed q = true) (fun a b h1 h2 => hI.down a b h1 h2) (hdep _ h)
      have h2 : j < i := hw.down (p := fun q => q < i ∨ q = i) (fun a b h1 h2 => by have := hc.low _ _ h2; omega) (.inr rfl) |>.elim id (fun h => absurd h hji)
      rw [h1]; unfold seqF; symm; rw [Nat.blt_eq]; exact h2
    · have h1 : Lf listed j = false := by
        rw [← Bool.not_eq_true]
        intro hb
        have := hw.down (p := fun q => Lf listed q = true) (fun a b h1 h2 => hI.down a b h1 h2) hb
        rw [hL0] at this; cases this
      have h2 : i < j := hw.down (p := fun q => q < j ∨ q = j) (fun a b h1 h2 => by have := hc.low _ _ h2; omega) (.inr rfl) |>.elim id (fun h => absurd h.symm hji)
      rw [h1]; unfold seqF; symm; rw [← Bool.not_eq_true, Nat.blt_eq]; omega
  have hnone : ∀ m, (m ∈ ns i ∨ lk (us i) m ≠ none) → ∀ j, j < ops.size → Lf listed j = seqF i j ∨ lk (us j) m = none := by
    intro m hm j hj
    by_cases h : Lf listed j = seqF i j
    · exact .inl h
    · right
      obtain ⟨h1, h2, h3⟩ := unord j h hj
      rcases hc.conf i j his hj (fun e => h1 e.symm) with h4 | h4 | h4
      · exact absurd h4 h2
      · exact absurd h4 h3
      · cases hx : lk (us j) m with
        | none => rfl
        | some x =>
          obtain ⟨h5, h6⟩ := h4 m x hx
          rcases hm with hm | hm
          · exact absurd hm h5
          · exact absurd h6 hm
  -- the state that the law sees
  have law := hl i his ⟨keepT (fun x => x) (tL ops t vals (Lf listed)) (rdOf ops i), over s (acc us (Lf listed) ops.size), n, an⟩ rfl rfl (fun d hd => by
      show keepT _ _ _ d = _
      rw [keepT_mem, if_pos hd]
      unfold tL
      cases hq : dAt ops d with
      | none => rfl
      | some q =>
        simp only
        obtain ⟨oq, hoq, _⟩ := dAt_some hq
        have hqs := (Array.getElem?_eq_some_iff.1 hoq).1
        have : Lf listed q = seqF i q := by
          by_cases h : Lf listed q = seqF i q
          · exact h
          · exfalso
            obtain ⟨h1, h2, h3⟩ := unord q h hqs
            rcases hc.reads i his d hd q hq with h4 | h4 | h4
            · exact h2 (.one h4)
            · exact h3 (.one h4)
            · exact h1 h4.symm
        rw [this]) (fun m hm => by
      show over s _ m = over s _ m
      rw [over_lk, over_lk, lk_acc_eq ops.size (hnone m (.inl hm))])
  simp only [hoA] at law
  have hRI : Rel noG B F loc ⟨keepT (fun x => x) (tL ops t vals (Lf listed)) (rdOf ops i), over s (acc us (Lf listed) ops.size), n, an⟩ a.tmps w := by
    refine ⟨hR.s, fun d => ?_, hR.n, hR.a⟩
    show RelV w F loc (keepT (fun x => x) (tL ops t vals (Lf listed)) (rdOf ops i) d) _
    rcases keepT_spec2 (fun x => x) (tL ops t vals (Lf listed)) (rdOf ops i) d with ⟨h1, h2⟩ | h1
    · rw [h1]; exact hR.t d
    · rw [h1]; exact .dead _
  -- what stands behind the operation
  have hnew : ∀ d, Lf (listed.setIfInBounds i true) d = (Nat.beq d i || Lf listed d) := fun d => Lf_set hil
  have hdown : ∀ p q, Lf (listed.setIfInBounds i true) p = true → depOn ops p q = true → Lf (listed.setIfInBounds i true) q = true := by
    intro p q hp hd
    rw [hnew] at hp ⊢
    simp only [Bool.or_eq_true] at hp ⊢
    rcases hp with hp | hp
    · rw [Nat.eq_of_beq_eq_true hp] at hd; exact .inr (hdep q hd)
    · exact .inr (hI.down _ _ hp hd)
  have hfit : fits ⟨tL ops t vals (Lf listed), over s (acc us (Lf listed) ops.size), n, an⟩ o.dst = true := by
    unfold fits
    cases hd : o.dst with
    | none => rfl
    | some d => simpa using hc.fit i o d ho hd
  have hput : ∀ (s' : Store), St.put ⟨tL ops t vals (Lf listed), over s (acc us (Lf listed) ops.size), n, an⟩ o.dst (vOf vals i) s' = ⟨tL ops t vals (Lf (listed.setIfInBounds i true)), s', n, an⟩ := by
    intro s'
    have : (match o.dst with | some d => upd (tL ops t vals (Lf listed)) d (vOf vals i) | none => tL ops t vals (Lf listed)) = tL ops t vals (Lf (listed.setIfInBounds i true)) := by
      funext d
      cases hd : o.dst with
      | none =>
        show tL ops t vals (Lf listed) d = _
        unfold tL
        cases hq : dAt ops d with
        | none => rfl
        | some q =>
          obtain ⟨oq, hoq, hdq⟩ := dAt_some hq
          have : Nat.beq q i = false := by
            rw [← Bool.not_eq_true, Nat.beq_eq]
            rintro rfl
            rw [ho] at hoq; cases hoq; rw [hd] at hdq; cases hdq
          simp only [hnew, this, Bool.false_or]
      | some d' =>
        show upd (tL ops t vals (Lf listed)) d' (vOf vals i) d = _
        by_cases hdd : d = d'
        · subst hdd
          rw [upd_self]
          unfold tL
          rw [hc.uniq i o d ho hd]
          simp only [hnew, Nat.beq_refl, Bool.true_or, cond_true]
        · rw [upd_ne _ _ hdd]
          unfold tL
          cases hq : dAt ops d with
          | none => rfl
          | some q =>
            obtain ⟨oq, hoq, hdq⟩ := dAt_some hq
            have : Nat.beq q i = false := by
              rw [← Bool.not_eq_true, Nat.beq_eq]
              rintro rfl
              rw [ho] at hoq; cases hoq; rw [hd] at hdq; exact hdd (Option.some.inj hdq).symm
            simp only [hnew, this, Bool.false_or]
    exact congrArg (fun t => St.mk t s' n an) this
  -- the store behind it
  have hsto : over (over s (acc us (Lf listed) ops.size)) (us i) = over s (acc us (Lf (listed.setIfInBounds i true)) ops.size) := by
    funext m
    rw [over_lk, over_lk, over_lk]
    have key : ∀ k, i < k → k ≤ ops.size → lk (acc us (Lf (listed.setIfInBounds i true)) k) m = match lk (us i) m with | some x => some x | none => lk (acc us (Lf listed) k) m := by
      intro k
      induction k with
      | zero => intro h; omega
      | succ k ih =>
        intro hik hks
        simp only [acc, lk_append]
        by_cases hki : k = i
        · subst hki
          have e1 : Lf (listed.setIfInBounds k true) k = true := by rw [hnew]; simp
          rw [e1, hL0, cond_true, cond_false]
          have e2 : lk (acc us (Lf (listed.setIfInBounds k true)) k) m = lk (acc us (Lf listed) k) m := lk_acc_eq k fun j hj => .inl (by
            rw [hnew]
            have : Nat.beq j k = false := by rw [← Bool.not_eq_true, Nat.beq_eq]; omega
            rw [this, Bool.false_or])
          rw [e2]
          simp only [lk]
          cases lk (us k) m <;> rfl
        · have e1 : Lf (listed.setIfInBounds i true) k = Lf listed k := by
            rw [hnew]
            have : Nat.beq k i = false := by rw [← Bool.not_eq_true, Nat.beq_eq]; exact hki
            rw [this, Bool.false_or]
          rw [e1, ih (by omega) (by omega)]
          cases hx : lk (us i) m with
          | none => rfl
          | some x =>
            simp only
            have : lk (cond (Lf listed k) (us k) []) m = none := by
              cases hLk : Lf listed k with
              | false => rfl
              | true =>
                rcases hnone m (.inr (by rw [hx]; simp)) k (by omega) with h | h
                · exfalso
                  rw [hLk] at h
                  have : k < i := by unfold seqF at h; rw [eq_comm, Nat.blt_eq] at h; exact h
                  omega
                · exact h
            rw [this]
    rw [key ops.size his (Nat.le_refl _)]
    cases lk (us i) m <;> rfl
  have fin : ∀ (x : Value) (F' : Nat → Prop) (loc' : Nat → Option Loc) (w' : World) (s' : Store), s' = over (over s (acc us (Lf listed) ops.size)) (us i) → RelS noG B w' F' loc' s' → Kept w F w' F' → Same loc loc' → RelV w' F' loc' (vOf vals i) x → K (a.put o.dst x) w' := by
    intro x F' loc' w' s' hs' hS hkp hsm hv
    rw [hs', hsto] at hS
    refine hK _ _ ⟨by simp [hI.size], hdown, by cases hd : o.dst <;> simp [Act.put, hI.defers], F', loc', ?_⟩
    have := hR.put hfit hS hkp hsm hv
    rw [hput] at this
    exact this
  unfold wpOp
  rw [ho]
  simp only
  rcases law with ⟨hw, hok⟩ | ⟨hw, hv, hs⟩
  · rw [if_pos (want_spec hRI hw)]
    exact .inl (hok B F loc a w hRI K Q' fun x F' loc' w' h1 h2 h3 h4 => fin x F' loc' w' _ rfl h1 h2 h3 h4)
  · rw [if_neg (by rw [want_spec hRI hw]; simp)]
    refine fin undef F loc w (over s (acc us (Lf listed) ops.size)) hs.symm hR.s (Kept.refl _ _) (Same.refl _) ?_
    rw [hv]; exact .tp [] [] (fun _ => undef) rfl (fun j hj => by simp at hj) (fun j x hj => by simp at hj)

theorem any_go2 (hc : Chk2 ops n us ns) (hl : ∀ i, i < ops.size → LawL P ops t s n an vals us ns i) {Q' : Exit → Act → World → Prop}
    (hQ : ∀ (a : Act) (w : World) (listed : Array Bool), Inv2 B ops t s n an vals us listed a w → (∀ i, i < ops.size → Lf listed i = true) → Q' .normal a w) :
    ∀ (fuel : Nat) (listed : Array Bool) (a : Act) (w : World) (U : List Nat), Inv2 B ops t s n an vals us listed a w → U.length ≤ fuel → (∀ i, i < ops.size → Lf listed i = true ∨ i ∈ U) → wpAny P .any ops Q' fuel listed a w
  | 0, listed, a, w, U, hI, hU, hcov => by
    have hall : ∀ i, i < ops.size → Lf listed i = true := fun i hi => by
      rcases hcov i hi with h | h
      · exact h
      · have : U = [] := List.eq_nil_of_length_eq_zero (by omega)
        rw [this] at h; cases h
    refine ⟨?_, hQ a w listed hI hall⟩
    cases hr : Region.ready .any ops listed with
    | nil => rfl
    | cons x xs =>
      obtain ⟨h1, h2, _⟩ := ready_spec hI.size (show x ∈ Region.ready .any ops listed by rw [hr]; simp)
      rw [hall x h1] at h2; cases h2
  | fuel + 1, listed, a, w, U, hI, hU, hcov => by
    refine ⟨fun h0 => ?_, fun i hi => ?_⟩
    · refine hQ a w listed hI fun i hi => ?_
      by_cases hb : Lf listed i = true
      · exact hb
      · exfalso
        obtain ⟨j, hj, hj0, hjl⟩ := first_out ⟨i, hi, by simpa using hb⟩
        have := ready_of hI.size hj hj0 fun q hq => hjl q (hc.low _ _ hq)
        rw [h0] at this; cases this
    · obtain ⟨his, hL0, _⟩ := ready_spec hI.size hi
      have hil : i < listed.size := by rw [hI.size]; exact his
      refine inv2_step hc hl hI hi fun a' w' hI' => any_go2 hc hl hQ fuel _ a' w' (U.erase i) hI' ?_ fun j hj => ?_
      · rcases hcov i his with h | h
        · rw [h] at hL0; cases hL0
        · rw [List.length_erase_of_mem h]; omega
      · rw [Lf_set hil]
        by_cases hji : j = i
        · subst hji; left; simp
        · rcases hcov j hj with h | h
          · left; rw [h]; simp
          · right; exact (List.mem_erase_of_ne hji).2 h

/-- a region that draws its order -/
theorem Tr.any {id : Nat} {Q : Exit → St → Prop} (hm : P.follows .mixedOrders = true) (hc : Chk2 ops n us ns) (hl : ∀ i, i < ops.size → LawL P ops t s n an vals us ns i)
    (k : Q .normal ⟨tL ops t vals (seqF ops.size), over s (acc us (seqF ops.size) ops.size), n, an⟩) : Tr P noG (.region id ops true) ⟨t, s, n, an⟩ Q := by
  intro B F loc a w hR hd
  refine wp_region_any hm (any_go2 (B := B) hc hl ?_ _ _ _ _ (List.range ops.size) ?_ (by simp) (fun i hi => .inr (List.mem_range.2 hi)))
  · intro a' w' listed hI hall
    obtain ⟨F', loc', hR'⟩ := hI.rel
    refine ⟨hI.defers, F', loc', _, ?_, k⟩
    have e1 : tL ops t vals (seqF ops.size) = tL ops t vals (Lf listed) := by
      funext d
      unfold tL
      cases hq : dAt ops d with
      | none => rfl
      | some q =>
        obtain ⟨oq, hoq, _⟩ := dAt_some hq
        have hqs := (Array.getElem?_eq_some_iff.1 hoq).1
        have : seqF ops.size q = true := by unfold seqF; rw [Nat.blt_eq]; exact hqs
        simp only [hall q hqs, this, cond_true]
    have e2 : over s (acc us (seqF ops.size) ops.size) = over s (acc us (Lf listed) ops.size) := by
      funext m
      rw [over_lk, over_lk, lk_acc_eq (g := Lf listed) ops.size fun j hj => .inl (by rw [hall j hj]; unfold seqF; rw [Nat.blt_eq]; exact hj)]
    rw [e1, e2]; exact hR'
  · have hL : ∀ i, Lf (Array.replicate ops.size false) i = false := fun i => by
      unfold Lf
      by_cases hi : i < ops.size <;> simp [Array.getD_eq_getD_getElem?, hi]
    refine ⟨by simp, fun i j hi => (by rw [hL] at hi; cases hi), hd, F, loc, ?_⟩
    have e : tL ops t vals (Lf (Array.replicate ops.size false)) = t := by
      funext d
      unfold tL
      cases dAt ops d with
      | none => rfl
      | some q => simp only [hL, cond_false]
    have e2 : over s (acc us (Lf (Array.replicate ops.size false)) ops.size) = s := by
      funext m
      rw [over_lk, lk_acc_eq (g := fun _ => false) ops.size fun j hj => .inl (hL j)]
      have : ∀ k, lk (acc us (fun _ => false) k) m = none := by
        intro k; induction k with
        | zero => rfl
        | succ k ih => simpa [acc] using ih
      rw [this]
    rw [e, e2]
    have hk : Kept w F { w with drawn := w.drawn + 1 } F := fun b hb => ⟨hb, rfl⟩
    exact ⟨relS_drew hR.s, fun i => (hR.t i).mono hk (Same.refl _), hR.n, hR.a⟩
end
end Go.Proofs.YtnpgfcedmdnemaaDoor.Mc

/- THE MACHINE (56): regions, typed: in a row, and in any order. -/
namespace Go.Proofs.YtnpgfcedmdnemaaDoor.Mc
open Go.RowKit
variable [Mo]
set_option linter.constructorNameAsVariable false
variable {P : Program} {D : Dec}

omit [Mo] in
theorem encSt_lit {E : XE} {st : XSt} {d : Nat} {x y : X} (h : lkE E st d = x) (hxy : y.enc = x.enc) : encSt E ⟨(d, y) :: st.t, st.s⟩ = encSt E st := by
  have : encT ((d, y) :: st.t ++ E.t) = encT (st.t ++ E.t) := by
    rw [List.cons_append, encT_cons]
    funext i
    by_cases hi : i = d
    · subst hi
      rw [upd_self, hxy, ← h]
      exact (lkE_enc E st i).symm
    · rw [upd_ne _ _ hi]
  unfold encSt
  simp only [this]

def skipX {R : Type} (ops : Array Oper) (E : XE) (o : Oper) (st : XSt) (kk : XSt → Option R) : Option R :=
  match wantX ops E o st, fitsX E o.dst with
  | some false, true => kk (putX st o.dst (.tp []) [])
  | _, _ => none
/-- a guarded operation: both ways -/
def guardX {R : Type} (ops : Array Oper) (E : XE) (o : Oper) (st : XSt) (run skip : XSt → Option R) : Option R :=
  match o.guard with
  | none => run st
  | some (j, w) => match (ops[j]?).bind (·.dst) with
    | none => none
    | some d => match lkE E st d with
      | .b q => cond q (cond w (run ⟨(d, .b true) :: st.t, st.s⟩) (skip ⟨(d, .b true) :: st.t, st.s⟩)) (cond w (skip ⟨(d, .b false) :: st.t, st.s⟩) (run ⟨(d, .b false) :: st.t, st.s⟩))
      | .tp [] => skip st
      | _ => none
omit [Mo] in
theorem guardX_out {R : Type} {ops : Array Oper} {E : XE} {o : Oper} {st : XSt} {run skip : XSt → Option R} {r : R} (h : guardX ops E o st run skip = some r) :
    ∃ st', encSt E st' = encSt E st ∧ (run st' = some r ∨ skip st' = some r) := by
  unfold guardX at h
  split at h
  · exact ⟨st, rfl, .inl h⟩
  · rename_i j w _
    split at h
    · cases h
    · rename_i d _
      split at h
      · rename_i q hq
        cases q with
        | true =>
          refine ⟨_, encSt_lit hq rfl, ?_⟩
          cases w
          · exact .inr h
          · exact .inl h
        | false =>
          refine ⟨_, encSt_lit hq rfl, ?_⟩
          cases w
          · exact .inl h
          · exact .inr h
      · exact ⟨st, rfl, .inr h⟩
      · cases h
/-- what is to be frozen ahead of an operation -/
def fzAt (i : Nat) : List (Nat × Nat) → List Nat
  | [] => []
  | p :: l => cond (Nat.beq p.1 i) (p.2 :: fzAt i l) (fzAt i l)
noncomputable def execOps {R : Type} (D : Dec) (rows : Nat → Option Row) (Γ : List (Con P)) (ops : Array Oper) (E : XE) (fz : List (Nat × Nat)) : Nat → List Oper → XSt → (XSt → Option R) → Option R
  | _, [], st, K => K st
  | i, o :: l, st, K => guardX ops E o st (fun st' => match freezeL E (fzAt i fz) st' with
    | some st1 => opRun D rows Γ ops E 9 o st1 fun st2 => execOps D rows Γ ops E fz (i + 1) l st2 K
    | none => none) (fun st' => skipX ops E o st' fun st2 => execOps D rows Γ ops E fz (i + 1) l st2 K)
theorem skipX_sound {R : Type} {ops : Array Oper} {E : XE} {o : Oper} {l : List Oper} {st : XSt} {kk : XSt → Option R} {Q : Exit → St → Prop} {r : R} (h : skipX ops E o st kk = some r)
    (hk : ∀ st', kk st' = some r → TrOps P noG ops l (encSt E st') Q) : TrOps P noG ops (o :: l) (encSt E st) Q := by
  unfold skipX at h
  split at h
  · rename_i hw hf
    refine TrOps.skipped (wantX_spec hw) hf ?_
    have := putX_enc E st o.dst (.tp []) []
    simp only [over] at this
    have e : (X.tp []).enc = vU := rfl
    rw [e] at this
    rw [← this]; exact hk _ h
  · cases h
theorem execOps_sound (hg : Good P D) {R : Type} {rows : Nat → Option Row} {Γ : List (Con P)} {ops : Array Oper} {E : XE} {fz : List (Nat × Nat)} {Q : Exit → St → Prop} {r : R} : ∀ (l : List Oper) (i : Nat) (st : XSt) (K : XSt → Option R), execOps D rows Γ ops E fz i l st K = some r →
    (∀ st', K st' = some r → Q .normal (encSt E st')) → TrOps P noG ops l (encSt E st) Q
  | [], i, st, K, h, hk => TrOps.nil (hk st h)
  | o :: l, i, st, K, h, hk => by
    obtain ⟨st', he, h⟩ := guardX_out h
    rw [← he]
    rcases h with h | h
    · split at h
      · rename_i st1 hf
        exact TrOps.conv (freezeL_conv hf) (opRun_sound hg 9 o st1 _ h fun st2 h2 => execOps_sound hg l (i + 1) st2 K h2 hk)
      · cases h
    · exact skipX_sound h fun st2 h2 => execOps_sound hg l (i + 1) st2 K h2 hk

/-! any order -/
mutual
def X.names : X → List Nat
  | .sl _ o => [o]
  | .sw o _ _ => [o]
  | .pt o _ => [o]
  | .pe o _ _ => [o]
  | .mp o => [o]
  | .it o => [o]
  | .sp o => [o]
  | .fn _ l => namesL l
  | .ag l => namesL l
  | .tp l => namesL l
  | .ifc _ x => x.names
  | _ => []
def namesL : List X → List Nat
  | [] => []
  | x :: l => x.names ++ namesL l
end
def addN (l : List Nat) : List Nat → List Nat
  | [] => l
  | n :: k => addN (cond (hasKey l n) l (l ++ [n])) k
def objN (g : XG) (n : Nat) : List Nat := match gx g n with | some (.bx _ cells) => namesL cells | _ => []
def reach (g : XG) : Nat → List Nat → List Nat
  | 0, l => l
  | k + 1, l => reach g k (addN l (l.flatMap (objN g)))
def opNs (E : XE) (st : XSt) (o : Oper) : List Nat :=
  match callOp o.op with
  | some (fop, args) => reach (gE E st) 5 (addN [] (namesL ((fop :: args).map (evE E st)))) ++ (List.range 10).map fun j => 400000 + dNum o.dst * 100 + j
  | none => match o.op with
    | .move _ => []
    | .assign _ => []
    | .pick _ _ _ => []
    | .extract _ _ => []
    | .field _ _ _ => []
    | .unOp _ _ _ => []
    | .makeFunc _ _ _ => []
    | .makeInterface _ _ => []
    | .typeAssert _ _ _ _ => []
    | _ => addN [dNum o.dst] (namesL (o.op.operands.toList.map (evE E st)))
def gR (ns : List Nat) (g : XG) : XG := fun m => cond (hasKey ns m) (g m) (some none)
def pickG (g : XG) (f : FuncId) (xs : List X) : List (Con P) → Pick P
  | [] => .bad
  | C :: Γ => cond (Nat.beq C.f f) (match callIn C g xs with
    | .call y ρ => .call C y ρ
    | _ => pickG g f xs Γ) (pickG g f xs Γ)
theorem pickG_call {g : XG} {f : FuncId} {xs : List X} : ∀ {Γ : List (Con P)} {C : Con P} {y : Tup C.h} {ρ : Ren}, pickG g f xs Γ = .call C y ρ → C.f = f ∧ callIn C g xs = .call y ρ
  | [], C, y, ρ, h => by cases h
  | C' :: Γ, C, y, ρ, h => by
    simp only [pickG] at h
    cases hc : Nat.beq C'.f f with
    | false => rw [hc] at h; exact pickG_call h
    | true =>
      rw [hc] at h
      simp only [cond_true] at h
      split at h
      · rename_i y' ρ' hci
        cases h
        exact ⟨Nat.eq_of_beq_eq_true hc, hci⟩
      · exact pickG_call h

def opRunD {R : Type} (D : Dec) (rows : Nat → Option Row) (Γ : List (Con P)) (ops : Array Oper) (E : XE) (o : Oper) (st : XSt) (g : XG) (kk : X → XS → Option R) : Option R :=
  match wantX ops E o st with
  | some true => match callOp o.op with
    | some (fop, args) => match xfn (evE E st fop) with
      | some (f, caps) => match pickG g f (args.map (evE E st) ++ caps) Γ with
        | .call C y ρ => (C.F y).bind fun r => elimAlt (C.R.map (·.h)) r fun i l =>
            cond (callB g ρ (fresh ρ (dNum o.dst) (rAt C.R i).o) C.kp (rAt C.R i).o) (kk (callOut (rAt C.R i) ρ (dNum o.dst) l).1 (callOut (rAt C.R i) ρ (dNum o.dst) l).2) none
        | _ => none
      | none => none
    | none => match xop D rows g (evE E st) o with
      | .ok v u => kk v u
      | .grd q v u => grd q (kk v u)
      | .bnd _ m f => m.bind fun a => kk (f a).1 (f a).2
      | _ => none
  | some false => kk (.tp []) []
  | none => none

/-- an operation's law wherever what it reads is the same -/
def LawAtD (P : Program) (ops : Array Oper) (i : Nat) (st0 : St) (ns : List Nat) (v : V) (u : XS) : Prop :=
  ∀ st : St, st.n = st0.n → st.a = st0.a → (∀ d ∈ rdOf ops i, st.t d = st0.t d) → (∀ m ∈ ns, st.s m = st0.s m) → OpLaw P noG ops (oA ops i) st v (over st.s u)

omit [Mo] in
theorem want_reads {ops : Array Oper} {i : Nat} (hi : i < ops.size) {st st0 : St} (hn : st.n = st0.n) (ht : ∀ d ∈ rdOf ops i, st.t d = st0.t d) : want ops (oA ops i) st = want ops (oA ops i) st0 := by
  have ho : ops[i]? = some ops[i] := by simp [hi]
  have hoA : oA ops i = ops[i] := by unfold oA; rw [Array.getElem?_toList, ho]; rfl
  rw [hoA]
  unfold want
  cases hgd : ops[i].guard with
  | none => rfl
  | some jw =>
    obtain ⟨j, w⟩ := jw
    simp only
    cases hd : (ops[j]?).bind (·.dst) with
    | none => rfl
    | some d =>
      simp only
      have : d ∈ rdOf ops i := by
        unfold rdOf
        rw [ho]
        unfold Oper.looksAt
        simp [hgd, hd]
      rw [hn, ht d this]
omit [Mo] in
theorem opd_reads {ops : Array Oper} {i : Nat} (hi : i < ops.size) {st st0 : St} (ht : ∀ d ∈ rdOf ops i, st.t d = st0.t d) : ∀ x ∈ (oA ops i).op.operands.toList, ev noG st.t x = ev noG st0.t x := by
  have ho : ops[i]? = some ops[i] := by simp [hi]
  have hoA : oA ops i = ops[i] := by unfold oA; rw [Array.getElem?_toList, ho]; rfl
  intro x hx
  cases x with
  | tmp d =>
    have : d ∈ rdOf ops i := by
      unfold rdOf
      rw [ho]
      unfold Oper.looksAt
      rw [hoA] at hx
      simp only [List.mem_append, List.mem_filterMap]
      exact .inl ⟨_, hx, rfl⟩
    exact ht d this
  | _ => rfl
end Go.Proofs.YtnpgfcedmdnemaaDoor.Mc

/- THE MACHINE (57): a region in any order, typed. -/
namespace Go.Proofs.YtnpgfcedmdnemaaDoor.Mc
open Go.RowKit
variable [Mo]
set_option linter.constructorNameAsVariable false
variable {P : Program} {D : Dec}

theorem opRunD_sound (hg : Good P D) {R : Type} {rows : Nat → Option Row} {Γ : List (Con P)} {ops : Array Oper} {E : XE} {i : Nat} (hi : i < ops.size) {st : XSt} {ns : List Nat} {kk : X → XS → Option R} {r : R}
    (h : opRunD D rows Γ ops E (oA ops i) st (gR ns (gE E st)) kk = some r) : ∃ v u, kk v u = some r ∧ LawAtD P ops i (encSt E st) ns v.enc u := by
  have agree : ∀ (st1 : St), (∀ m ∈ ns, st1.s m = (encSt E st).s m) → Agree (gR ns (gE E st)) st1.s := by
    intro st1 hs
    have h0 := agreeE E st
    constructor
    · intro o x hx
      unfold gR at hx
      cases hk : hasKey ns o with
      | false => rw [hk] at hx; cases hx
      | true =>
        rw [hk] at hx
        rw [hs o (hasKey_mem.1 hk)]; exact h0.is o x hx
    · intro d hd
      unfold gR at hd
      cases hk : hasKey ns d with
      | false => rw [hk] at hd; cases hd
      | true =>
        rw [hk] at hd
        rw [hs d (hasKey_mem.1 hk)]; exact h0.no d hd
  have evs : ∀ (st1 : St), (∀ d ∈ rdOf ops i, st1.t d = (encSt E st).t d) → ∀ x ∈ (oA ops i).op.operands.toList, ev noG st1.t x = (evE E st x).enc := by
    intro st1 ht x hx
    rw [opd_reads hi ht x hx]; exact evE_enc E st x
  unfold opRunD at h
  split at h
  · rename_i hw
    have hw' := wantX_spec hw
    have wants : ∀ (st1 : St), st1.n = (encSt E st).n → (∀ d ∈ rdOf ops i, st1.t d = (encSt E st).t d) → want ops (oA ops i) st1 = some true := by
      intro st1 hn ht
      rw [want_reads hi hn ht]; exact hw'
    split at h
    · rename_i fop args hco
      split at h
      · rename_i f caps hf
        split at h
        · rename_i C y ρ hp
          obtain ⟨rfl, hci⟩ := pickG_call hp
          obtain ⟨az, ts, hop, rfl⟩ := callOp_spec hco
          obtain ⟨z, hz, h⟩ := bind_out h
          have law : elimAlt (C.R.map (·.h)) z fun i' l => callB (gR ns (gE E st)) ρ (fresh ρ (dNum (oA ops i).dst) (rAt C.R i').o) C.kp (rAt C.R i').o = true →
              LawAtD P ops i (encSt E st) ns (callOut (rAt C.R i') ρ (dNum (oA ops i).dst) l).1.enc (callOut (rAt C.R i') ρ (dNum (oA ops i).dst) l).2 := by
            have all : ∀ (hs : List (List HTy)) (y : AltT hs) {A : Type 0} {p : A → Nat → List HV → Prop}, (∀ a, elimAlt hs y (p a)) → elimAlt hs y fun i l => ∀ a, p a i l := by
              intro hs
              induction hs with
              | nil => exact fun y => y.elim
              | cons b t ih =>
                cases t with
                | nil => exact fun y A p h a => h a
                | cons c t =>
                  intro y
                  cases y with
                  | inl y => exact fun h a => h a
                  | inr z => exact fun {A p} h => ih z (p := fun a i l => p a (i + 1) l) h
            have h3 := all _ z (A := { st1 : St // st1.n = (encSt E st).n ∧ st1.a = (encSt E st).a ∧ (∀ d ∈ rdOf ops i, st1.t d = (encSt E st).t d) ∧ ∀ m ∈ ns, st1.s m = (encSt E st).s m })
              (p := fun a i' l => callB (gR ns (gE E st)) ρ (fresh ρ (dNum (oA ops i).dst) (rAt C.R i').o) C.kp (rAt C.R i').o = true → OkW P noG (oA ops i) a.1 (callOut (rAt C.R i') ρ (dNum (oA ops i).dst) l).1.enc (over a.1.s (callOut (rAt C.R i') ρ (dNum (oA ops i).dst) l).2))
              (fun a => callIn_ok (agree a.1 a.2.2.2.2) hop (evs a.1 a.2.2.2.1) hf hci (dNum (oA ops i).dst) hz)
            refine elim_mono _ _ ?_ h3
            intro i' l h4 hcb st1 hn ha ht hs
            exact .inl ⟨wants st1 hn ht, h4 ⟨st1, hn, ha, ht, hs⟩ hcb⟩
          obtain ⟨i', l, h1, h2⟩ := elim_both _ z h law
          obtain ⟨hcb, h1⟩ := grd_out (c := callB _ _ _ _ _) h1
          exact ⟨_, _, h1, h2 hcb⟩
        · cases h
      · cases h
    · have law : ∀ (st1 : St), (∀ d ∈ rdOf ops i, st1.t d = (encSt E st).t d) → (∀ m ∈ ns, st1.s m = (encSt E st).s m) → OutOk P (oA ops i) st1 (xop D rows (gR ns (gE E st)) (evE E st) (oA ops i)) :=
        fun st1 ht hs => xop_spec hg (agree st1 hs) (evs st1 ht)
      split at h
      · rename_i v u hx
        rw [hx] at law
        exact ⟨v, u, h, fun st1 hn ha ht hs => .inl ⟨wants st1 hn ht, OkV.w (law st1 ht hs)⟩⟩
      · rename_i q v u hx
        rw [hx] at law
        obtain ⟨hq, h⟩ := grd_out h
        exact ⟨v, u, h, fun st1 hn ha ht hs => .inl ⟨wants st1 hn ht, OkV.w (law st1 ht hs hq)⟩⟩
      · rename_i α m f hx
        rw [hx] at law
        obtain ⟨a, ha', h⟩ := bind_out h
        exact ⟨_, _, h, fun st1 hn ha ht hs => .inl ⟨wants st1 hn ht, OkV.w (law st1 ht hs a ha')⟩⟩
      · cases h
  · rename_i hw
    have hw' := wantX_spec hw
    refine ⟨.tp [], [], h, fun st1 hn ha ht hs => .inr ⟨?_, rfl, rfl⟩⟩
    rw [want_reads hi hn ht]; exact hw'
  · cases h

/-! the trace -/
structure TE where
  v : X
  u : XS
  ns : List Nat
def valsOf (tr : List TE) : List V := tr.map fun e => e.v.enc
def usOf (tr : List TE) (j : Nat) : XS := match tr[j]? with | some e => e.u | none => []
def nsOf (tr : List TE) (j : Nat) : List Nat := match tr[j]? with | some e => e.ns | none => []
def ordB (masks : List Nat) (i j : Nat) : Bool := Nat.testBit (masks.getD i 0) j || Nat.testBit (masks.getD j 0) i
def confB (masks : List Nat) (tr : List TE) : Bool :=
  (List.range tr.length).all fun j => cond (usOf tr j).isEmpty true ((List.range tr.length).all fun i => Nat.beq i j || ordB masks i j || (usOf tr j).all fun p => !(hasKey (nsOf tr i) p.1) && !(hasKey ((usOf tr i).map (·.1)) p.1))
def depL (ops : Array Oper) (i : Nat) : List Nat := match ops[i]? with | some o => (o.after.toList.filter (Region.binds .any)).map (·.on) | none => []
def maskB (ops : Array Oper) (masks : List Nat) : Bool :=
  (List.range ops.size).all fun i => Nat.beq ((depL ops i).foldl (fun m j => m ||| ((1 <<< j) ||| masks.getD j 0)) 0) (masks.getD i 0)
def preB (ops : Array Oper) (n : Nat) (masks : List Nat) : Bool :=
  (dsts ops).all (fun d => Nat.blt d n) && (List.range ops.size).all (fun j => match ops[j]? with | some o => (match o.dst with | some d => (match dAt ops d with | some i => Nat.beq i j | none => false) | none => true) | none => true)
  && (List.range ops.size).all (fun i => (rdOf ops i).all fun d => match dAt ops d with | some j => hasKey (depL ops i) j || hasKey (depL ops j) i || Nat.beq i j | none => true)
  && (List.range ops.size).all (fun i => (depL ops i).all fun j => Nat.blt j i) && maskB ops masks

omit [Mo] in
theorem depOn_iff {ops : Array Oper} {i j : Nat} : depOn ops i j = true ↔ j ∈ depL ops i := by
  unfold depOn depL
  cases ops[i]? with
  | none => simp
  | some o =>
    simp only [List.mem_map, List.mem_filter]
    rw [Array.any_eq_true']
    constructor
    · rintro ⟨e, he, hb⟩
      simp only [Bool.and_eq_true] at hb
      exact ⟨e, ⟨by simpa using he, hb.1⟩, Nat.eq_of_beq_eq_true hb.2⟩
    · rintro ⟨e, ⟨he, hb⟩, rfl⟩
      exact ⟨e, by simpa using he, by rw [hb]; simp⟩
omit [Mo] in
theorem fold_bit {f : Nat → Nat} {b : Nat} : ∀ (l : List Nat) (m : Nat), Nat.testBit (l.foldl (fun m j => m ||| ((1 <<< j) ||| f j)) m) b = true → Nat.testBit m b = true ∨ ∃ j ∈ l, j = b ∨ Nat.testBit (f j) b = true
  | [], m, h => .inl h
  | j :: l, m, h => by
    rcases fold_bit l _ h with h1 | ⟨k, hk, h1⟩
    · simp only [Nat.testBit_or, Bool.or_eq_true] at h1
      rcases h1 with h1 | h1 | h1
      · exact .inl h1
      · refine .inr ⟨j, by simp, .inl ?_⟩
        rw [Nat.one_shiftLeft, Nat.testBit_two_pow] at h1
        exact of_decide_eq_true h1
      · exact .inr ⟨j, by simp, .inr h1⟩
    · exact .inr ⟨k, by simp [hk], h1⟩
omit [Mo] in
theorem mask_way {ops : Array Oper} {masks : List Nat} (h : maskB ops masks = true) (hlow : ∀ i j, depOn ops i j = true → j < i) : ∀ (i : Nat), i < ops.size → ∀ j, Nat.testBit (masks.getD i 0) j = true → Way ops i j := by
  intro i
  induction i using Nat.strongRecOn with
  | _ i ih =>
    intro hi j hb
    have := List.all_eq_true.1 h i (List.mem_range.2 hi)
    rw [← Nat.eq_of_beq_eq_true this] at hb
    rcases fold_bit _ _ hb with h1 | ⟨k, hk, h1⟩
    · simp at h1
    · have hd : depOn ops i k = true := depOn_iff.2 hk
      rcases h1 with rfl | h1
      · exact .one hd
      · exact .step hd (ih k (hlow _ _ hd) (Nat.lt_trans (hlow _ _ hd) hi) j h1)

structure Pre (ops : Array Oper) (n : Nat) (masks : List Nat) : Prop where
  fit : ∀ (i : Nat) (o : Oper) (d : Nat), ops[i]? = some o → o.dst = some d → d < n
  uniq : ∀ (i : Nat) (o : Oper) (d : Nat), ops[i]? = some o → o.dst = some d → dAt ops d = some i
  reads : ∀ i, i < ops.size → ∀ d ∈ rdOf ops i, ∀ j, dAt ops d = some j → depOn ops i j = true ∨ depOn ops j i = true ∨ i = j
  low : ∀ i j, depOn ops i j = true → j < i
  mask : maskB ops masks = true
omit [Mo] in
theorem pre_of {ops : Array Oper} {n : Nat} {masks : List Nat} (h : preB ops n masks = true) : Pre ops n masks := by
  simp only [preB, Bool.and_eq_true] at h
  obtain ⟨⟨⟨⟨h1, h2⟩, h3⟩, h4⟩, h5⟩ := h
  refine ⟨?_, ?_, ?_, ?_, h5⟩
  · intro i o d ho hd
    have := List.all_eq_true.1 h1 d (List.mem_filterMap.2 ⟨o, by rw [← Array.getElem?_toList] at ho; exact List.mem_of_getElem? ho, hd⟩)
    simpa using this
  · intro i o d ho hd
    have hi := (Array.getElem?_eq_some_iff.1 ho).1
    have := List.all_eq_true.1 h2 i (List.mem_range.2 hi)
    simp only [ho, hd] at this
    split at this
    · rename_i j hj; rw [hj, Nat.eq_of_beq_eq_true this]
    · cases this
  · intro i hi d hd j hj
    have := List.all_eq_true.1 (List.all_eq_true.1 h3 i (List.mem_range.2 hi)) d hd
    simp only [hj, Bool.or_eq_true] at this
    rcases this with (h | h) | h
    · exact .inl (depOn_iff.2 (hasKey_mem.1 h))
    · exact .inr (.inl (depOn_iff.2 (hasKey_mem.1 h)))
    · exact .inr (.inr (Nat.eq_of_beq_eq_true h))
  · intro i j hd
    have hi := dep_size hd
    have := List.all_eq_true.1 (List.all_eq_true.1 h4 i (List.mem_range.2 hi)) j (depOn_iff.1 hd)
    simpa using this

structure Path (P : Program) (ops : Array Oper) (E : XE) (t0 : Nat → V) (s0 : Store) (k : Nat) (st : XSt) (tr : List TE) : Prop where
  len : tr.length = k
  t : (encSt E st).t = tL ops t0 (valsOf tr) (seqF k)
  s : (encSt E st).s = over s0 (acc (usOf tr) (seqF k) k)
  law : ∀ i, i < k → LawAtD P ops i ⟨tL ops t0 (valsOf tr) (seqF i), over s0 (acc (usOf tr) (seqF i) i), E.n, E.a⟩ (nsOf tr i) (vOf (valsOf tr) i) (usOf tr i)

omit [Mo] in
theorem acc_congr {us us' : Nat → XS} {f g : Nat → Bool} : ∀ (k : Nat), (∀ j, j < k → f j = g j ∧ us j = us' j) → acc us f k = acc us' g k
  | 0, _ => rfl
  | k + 1, h => by
    simp only [acc, (h k (by omega)).1, (h k (by omega)).2]
    rw [acc_congr k fun j hj => h j (by omega)]
omit [Mo] in
theorem usOf_append {tr : List TE} {e : TE} {j : Nat} (h : j < tr.length) : usOf (tr ++ [e]) j = usOf tr j := by unfold usOf; rw [List.getElem?_append_left h]
omit [Mo] in
theorem nsOf_append {tr : List TE} {e : TE} {j : Nat} (h : j < tr.length) : nsOf (tr ++ [e]) j = nsOf tr j := by unfold nsOf; rw [List.getElem?_append_left h]
omit [Mo] in
theorem vOf_append {tr : List TE} {e : TE} {j : Nat} (h : j < tr.length) : vOf (valsOf (tr ++ [e])) j = vOf (valsOf tr) j := by unfold vOf valsOf; rw [List.map_append, List.getElem?_append_left (by simpa using h)]
omit [Mo] in
theorem tL_congr {ops : Array Oper} {t0 : Nat → V} {vs vs' : List V} {f : Nat → Bool} (h : ∀ j, f j = true → vOf vs j = vOf vs' j) : tL ops t0 vs f = tL ops t0 vs' f := by
  funext d
  unfold tL
  cases dAt ops d with
  | none => rfl
  | some j =>
    simp only
    cases hf : f j with
    | false => rfl
    | true => simp only [cond_true, h j hf]
omit [Mo] in
theorem seqF_lt {i j : Nat} : seqF i j = true ↔ j < i := by unfold seqF; rw [Nat.blt_eq]

theorem Path.step {ops : Array Oper} {E : XE} {t0 : Nat → V} {s0 : Store} {k : Nat} {st : XSt} {tr : List TE} {masks : List Nat} (hp : Pre ops E.n masks) (h : Path P ops E t0 s0 k st tr) {o : Oper} (ho : ops[k]? = some o) {v : X} {u : XS} {ns : List Nat}
    (hl : LawAtD P ops k (encSt E st) ns v.enc u) : Path P ops E t0 s0 (k + 1) (putX st o.dst v u) (tr ++ [⟨v, u, ns⟩]) := by
  have hlen := h.len
  have hu : usOf (tr ++ [⟨v, u, ns⟩]) k = u := by unfold usOf; rw [← hlen]; simp
  have hns : nsOf (tr ++ [⟨v, u, ns⟩]) k = ns := by unfold nsOf; rw [← hlen]; simp
  have hv : vOf (valsOf (tr ++ [⟨v, u, ns⟩])) k = v.enc := by unfold vOf valsOf; rw [← hlen]; simp
  have hts : ∀ i, i ≤ k → tL ops t0 (valsOf (tr ++ [⟨v, u, ns⟩])) (seqF i) = tL ops t0 (valsOf tr) (seqF i) := fun i hi => tL_congr fun j hj => vOf_append (by have := seqF_lt.1 hj; omega)
  have hacc : ∀ i, i ≤ k → acc (usOf (tr ++ [⟨v, u, ns⟩])) (seqF i) i = acc (usOf tr) (seqF i) i := fun i hi => acc_congr i fun j hj => ⟨rfl, usOf_append (by omega)⟩
  refine ⟨by simp [hlen], ?_, ?_, fun i hi => ?_⟩
  · rw [putX_enc]
    have e1 : ((encSt E st).put o.dst v.enc (over (encSt E st).s u)).t = match o.dst with | some d => upd (encSt E st).t d v.enc | none => (encSt E st).t := rfl
    rw [e1, h.t, ← hts k (Nat.le_refl _)]
    have step : ∀ j, j ≠ k → seqF (k + 1) j = seqF k j := by
      intro j hj
      rw [Bool.eq_iff_iff, seqF_lt, seqF_lt]; omega
    cases hd : o.dst with
    | none =>
      funext d
      show tL ops t0 (valsOf (tr ++ [⟨v, u, ns⟩])) (seqF k) d = tL ops t0 (valsOf (tr ++ [⟨v, u, ns⟩])) (seqF (k + 1)) d
      unfold tL
      cases hq : dAt ops d with
      | none => rfl
      | some q =>
        obtain ⟨oq, hoq, hdq⟩ := dAt_some hq
        have : q ≠ k := by rintro rfl; rw [ho] at hoq; cases hoq; rw [hd] at hdq; cases hdq
        simp only [step q this]
    | some d' =>
      funext d
      show upd _ d' v.enc d = _
      by_cases hdd : d = d'
      · subst hdd
        rw [upd_self]
        unfold tL
        rw [hp.uniq k o d ho hd]
        have : seqF (k + 1) k = true := seqF_lt.2 (by omega)
        simp only [this, cond_true, hv]
      · rw [upd_ne _ _ hdd]
        unfold tL
        cases hq : dAt ops d with
        | none => rfl
        | some q =>
          obtain ⟨oq, hoq, hdq⟩ := dAt_some hq
          have : q ≠ k := by rintro rfl; rw [ho] at hoq; cases hoq; rw [hd] at hdq; exact hdd (Option.some.inj hdq).symm
          simp only [step q this]
  · rw [putX_enc]
    show over (encSt E st).s u = _
    rw [h.s]
    have : seqF (k + 1) k = true := seqF_lt.2 (by omega)
    simp only [acc, this, cond_true, hu]
    have e2 : acc (usOf (tr ++ [⟨v, u, ns⟩])) (seqF (k + 1)) k = acc (usOf tr) (seqF k) k := acc_congr k fun j hj => ⟨by rw [Bool.eq_iff_iff, seqF_lt, seqF_lt]; omega, usOf_append (by omega)⟩
    rw [e2]
    funext m
    rw [over_lk, over_lk, over_lk, lk_append]
    cases lk u m <;> rfl
  · by_cases hik : i = k
    · subst hik
      rw [hu, hns, hv, hts i (Nat.le_refl _), hacc i (Nat.le_refl _), ← h.t, ← h.s]
      exact hl
    · have hik' : i < k := by omega
      rw [hts i (by omega), hacc i (by omega), nsOf_append (by omega), usOf_append (by omega), vOf_append (by omega)]
      exact h.law i hik'

omit [Mo] in
theorem acc_stop {us : Nat → XS} {i : Nat} : ∀ (k : Nat), i ≤ k → acc us (seqF i) k = acc us (seqF i) i
  | 0, h => by have : i = 0 := by omega
               subst this; rfl
  | k + 1, h => by
    by_cases hik : i = k + 1
    · subst hik; rfl
    · simp only [acc]
      have : seqF i k = false := by rw [← Bool.not_eq_true, seqF_lt]; omega
      rw [this, cond_false, List.nil_append]
      exact acc_stop k (by omega)

theorem Path.done {ops : Array Oper} {E : XE} {st0 st : XSt} {tr : List TE} {masks : List Nat} (hp : Pre ops E.n masks) (h : Path P ops E (encSt E st0).t (encSt E st0).s ops.size st tr) (hc : confB masks tr = true) {id : Nat} {Q : Exit → St → Prop} (hm : P.follows .mixedOrders = true)
    (k : Q .normal (encSt E st)) : Tr P noG (.region id ops true) (encSt E st0) Q := by
  have chk : Chk2 ops E.n (usOf tr) (nsOf tr) := by
    refine ⟨hp.fit, hp.uniq, hp.reads, hp.low, fun i j hi hj hij => ?_⟩
    have h1 := List.all_eq_true.1 hc j (List.mem_range.2 (by rw [h.len]; exact hj))
    cases he : (usOf tr j).isEmpty with
    | true =>
      right; right
      intro m x hx
      rw [List.isEmpty_iff] at he
      rw [he] at hx; cases hx
    | false =>
      rw [he, cond_false] at h1
      have h2 := List.all_eq_true.1 h1 i (List.mem_range.2 (by rw [h.len]; exact hi))
      simp only [Bool.or_eq_true] at h2
      rcases h2 with (h2 | h2) | h2
      · exact absurd (Nat.eq_of_beq_eq_true h2) hij
      · unfold ordB at h2
        rw [Bool.or_eq_true] at h2
        rcases h2 with h2 | h2
        · exact .inl (mask_way hp.mask hp.low i hi j h2)
        · exact .inr (.inl (mask_way hp.mask hp.low j hj i h2))
      · right; right
        intro m x hx
        have h3 := List.all_eq_true.1 h2 _ (lk_mem hx)
        simp only [Bool.and_eq_true, Bool.not_eq_true'] at h3
        refine ⟨fun hm => ?_, ?_⟩
        · rw [hasKey_mem.2 hm] at h3; cases h3.1
        · cases hl : lk (usOf tr i) m with
          | none => rfl
          | some y =>
            have := h3.2
            rw [hasKey_mem.2 (List.mem_map.2 ⟨_, lk_mem hl, rfl⟩)] at this; cases this
  have := Tr.any (id := id) (t := (encSt E st0).t) (s := (encSt E st0).s) (n := E.n) (an := E.a) (vals := valsOf tr) (Q := Q) hm chk (fun i hi => ?_) ?_
  · exact this
  · have hl := h.law i hi
    intro st1 hn ha ht hs
    refine hl st1 hn ha ht fun m hm => ?_
    rw [hs m hm, acc_stop ops.size (by omega)]
  · rw [← h.t, ← h.s]; exact k

noncomputable def execD {R : Type} (D : Dec) (rows : Nat → Option Row) (Γ : List (Con P)) (ops : Array Oper) (E : XE) (masks : List Nat) : List Oper → XSt → List TE → (XSt → Option R) → Option R
  | [], st, tr, K => grd (confB masks tr) (K st)
  | o :: l, st, tr, K =>
    let step := fun st' => opRunD D rows Γ ops E o st' (gR (opNs E st' o) (gE E st')) fun v u => execD D rows Γ ops E masks l (putX st' o.dst v u) (tr ++ [⟨v, u, opNs E st' o⟩]) K
    guardX ops E o st step step

theorem Path.lit {ops : Array Oper} {E : XE} {t0 : Nat → V} {s0 : Store} {k : Nat} {st st' : XSt} {tr : List TE} (h : Path P ops E t0 s0 k st tr) (he : encSt E st' = encSt E st) : Path P ops E t0 s0 k st' tr :=
  ⟨h.len, by rw [he]; exact h.t, by rw [he]; exact h.s, h.law⟩

theorem execD_sound (hg : Good P D) {R : Type} {rows : Nat → Option Row} {Γ : List (Con P)} {ops : Array Oper} {E : XE} {masks : List Nat} (hp : Pre ops E.n masks) {st0 : XSt} {r : R} : ∀ (l : List Oper) (k : Nat) (st : XSt) (tr : List TE) (K : XSt → Option R),
    ops.toList.drop k = l → k ≤ ops.size → Path P ops E (encSt E st0).t (encSt E st0).s k st tr → execD D rows Γ ops E masks l st tr K = some r →
    ∃ st' tr', Path P ops E (encSt E st0).t (encSt E st0).s ops.size st' tr' ∧ confB masks tr' = true ∧ K st' = some r
  | [], k, st, tr, K, hl, hk, hpath, h => by
    obtain ⟨hc, h⟩ := grd_out h
    have : k = ops.size := by
      have := congrArg List.length hl
      simp at this; omega
    subst this
    exact ⟨st, tr, hpath, hc, h⟩
  | o :: l, k, st, tr, K, hl, hk, hpath, h => by
    have hks : k < ops.size := by
      have := congrArg List.length hl
      simp at this; omega
    have ho : ops[k]? = some o := by
      have := congrArg (fun l => l[0]?) hl
      simpa using this
    have hoA : oA ops k = o := by unfold oA; rw [Array.getElem?_toList, ho]; rfl
    have hl' : ops.toList.drop (k + 1) = l := by
      have := congrArg (List.drop 1) hl
      rw [List.drop_drop] at this
      simpa [Nat.add_comm] using this
    simp only [execD] at h
    obtain ⟨st', he, h⟩ := guardX_out h
    have h : opRunD D rows Γ ops E o st' (gR (opNs E st' o) (gE E st')) (fun v u => execD D rows Γ ops E masks l (putX st' o.dst v u) (tr ++ [⟨v, u, opNs E st' o⟩]) K) = some r := h.elim id id
    rw [← hoA] at h
    obtain ⟨v, u, h1, h2⟩ := opRunD_sound hg hks h
    rw [hoA] at h1 h2
    exact execD_sound hg hp l (k + 1) _ _ K hl' hks (Path.step hp (hpath.lit he) ho h2) h1
end Go.Proofs.YtnpgfcedmdnemaaDoor.Mc

/- THE MACHINE (58): code run, typed; that what comes out is what the code does. -/
namespace Go.Proofs.YtnpgfcedmdnemaaDoor.Mc
open Go.RowKit
variable [Mo]
set_option linter.constructorNameAsVariable false
variable {P : Program} {D : Dec}

/-- notes on code: where states are joined, loops, masks of regions that draw. kt, ko: slots and objects that stay as they are; ts: the ends and their templates -/
inductive An where
  | nd
  | sq (a b : An)
  | jn (kt ko : List Nat) (ts : List (Nat × Tpl)) (hs : List (List HTy)) (a b : An)
  | lp (kt ko : List Nat) (L : Tpl) (h : List HTy) (ts : List (Nat × Tpl)) (hs : List (List HTy)) (a : An)
  | mk (frz masks : List Nat)
  | fr (fz : List (Nat × Nat))
  | al (i : Nat) (a b : An)
def An.fst : An → An | .sq a _ => a | _ => .nd
def An.snd : An → An | .sq _ b => b | _ => .nd
def An.ms : An → List Nat | .mk _ l => l | _ => []
def An.fr' : An → List (Nat × Nat) | .fr l => l | _ => []
def An.fz : An → List Nat | .mk l _ => l | _ => []

def isCX : X → Bool | .c _ => true | _ => false
/-- the note that holds at a state: of two, the first one where a slot holds a constant -/
def An.at (E : XE) (st : XSt) : An → An
  | .al i a b => cond (isCX (lkE E st i)) (a.at E st) (b.at E st)
  | a => a
def exNum : Exit → Option Nat
  | .normal => some 0
  | .ret => some 1
  | .exit id => some (id + 2)
  | _ => none

def keepL {α : Type} (t : List (Nat × α)) : List Nat → List (Nat × α)
  | [] => []
  | i :: l => match lk t i with | some x => (i, x) :: keepL t l | none => keepL t l
def dropL {α : Type} (l : List Nat) : List (Nat × α) → List (Nat × α)
  | [] => []
  | p :: t => cond (hasKey l p.1) (dropL l t) (p :: dropL l t)
def inE (kt ko : List Nat) (E : XE) (st : XSt) : XE := ⟨keepL st.t kt ++ E.t, keepL st.s ko ++ E.s, E.n, E.a⟩
def inSt (kt ko : List Nat) (st : XSt) : XSt := ⟨dropL kt st.t, dropL ko st.s⟩
def backSt (kt ko : List Nat) (st : XSt) (f : XSt) : XSt := ⟨f.t ++ keepL st.t kt, f.s ++ keepL st.s ko⟩

omit [Mo] in
theorem lk_keepL {α : Type} (t : List (Nat × α)) : ∀ (l : List Nat) (n : Nat), lk (keepL t l) n = if n ∈ l then lk t n else none
  | [], n => by simp [keepL, lk]
  | i :: l, n => by
    simp only [keepL]
    cases hl : lk t i with
    | none =>
      simp only []
      rw [lk_keepL t l n]
      by_cases hn : n = i
      · subst hn; simp [hl]
      · simp [hn]
    | some x =>
      simp only [lk]
      cases hb : Nat.beq i n with
      | true => have := Nat.eq_of_beq_eq_true hb; subst this; simp [hl]
      | false =>
        have hn : ¬ n = i := by rintro rfl; simp at hb
        rw [cond_false, lk_keepL t l n]; simp [hn]
omit [Mo] in
theorem lk_dropL {α : Type} (l : List Nat) : ∀ (t : List (Nat × α)) (n : Nat), lk (dropL l t) n = if n ∈ l then none else lk t n
  | [], n => by simp [dropL, lk]
  | (i, x) :: t, n => by
    simp only [dropL, lk]
    cases hk : hasKey l i with
    | true =>
      rw [cond_true, lk_dropL l t n]
      cases hb : Nat.beq i n with
      | true => have := Nat.eq_of_beq_eq_true hb; subst this; simp [hasKey_mem.1 hk]
      | false => rfl
    | false =>
      rw [cond_false, lk]
      cases hb : Nat.beq i n with
      | true =>
        have := Nat.eq_of_beq_eq_true hb; subst this
        have : i ∉ l := fun h => by rw [hasKey_mem.2 h] at hk; cases hk
        simp [this]
      | false => rw [cond_false, lk_dropL l t n]; rfl
omit [Mo] in
theorem lk_split {α : Type} (l : List Nat) (t u : List (Nat × α)) (n : Nat) : lk (dropL l t ++ (keepL t l ++ u)) n = lk (t ++ u) n := by
  rw [lk_append, lk_append, lk_append, lk_dropL, lk_keepL]
  by_cases h : n ∈ l
  · rw [if_pos h, if_pos h]
  · rw [if_neg h, if_neg h]
omit [Mo] in
theorem encT_ext {t u : XT} (h : ∀ i, lk t i = lk u i) : encT t = encT u := by funext i; unfold encT; rw [h]
omit [Mo] in
theorem encS_ext {t u : XS} (h : ∀ i, lk t i = lk u i) : encS t = encS u := by funext i; unfold encS; rw [h]
omit [Mo] in
theorem encSt_in (kt ko : List Nat) (E : XE) (st : XSt) : encSt (inE kt ko E st) (inSt kt ko st) = encSt E st := by
  unfold encSt inE inSt
  simp only
  rw [encT_ext (lk_split kt st.t E.t), encS_ext (lk_split ko st.s E.s)]
omit [Mo] in
theorem encSt_back (kt ko : List Nat) (E : XE) (st f : XSt) : encSt E (backSt kt ko st f) = encSt (inE kt ko E st) f := by
  unfold encSt inE backSt
  simp only [List.append_assoc]

/-! ends -/
def leafX (E : XE) (hs : List (List HTy)) : Nat → List (Nat × Tpl) → Nat → XSt → Option (AltT hs)
  | _, [], _, _ => none
  | i, (x, tp) :: ts, e, st => cond (Nat.beq x e) (match conform E tp st with
    | some l => mkAlt hs i l
    | none => leafX E hs (i + 1) ts e st) (leafX E hs (i + 1) ts e st)
def endAt (ts : List (Nat × Tpl)) (i : Nat) : Nat × Tpl := match ts[i]? with | some p => p | none => (0, ⟨[], []⟩)
omit [Mo] in
theorem leafX_out {E : XE} {hs : List (List HTy)} {e : Nat} {st : XSt} {y : AltT hs} {ts0 : List (Nat × Tpl)} : ∀ (ts : List (Nat × Tpl)) (i : Nat), (∀ j, ts0[i + j]? = ts[j]?) → leafX E hs i ts e st = some y →
    ∃ k l, (endAt ts0 k).1 = e ∧ conform E (endAt ts0 k).2 st = some l ∧ mkAlt hs k l = some y
  | [], i, _, h => by cases h
  | (x, tp) :: ts, i, h0, h => by
    have hn : ∀ j, ts0[i + 1 + j]? = ts[j]? := fun j => by have := h0 (j + 1); simpa [Nat.add_assoc, Nat.add_comm 1 j] using this
    simp only [leafX] at h
    cases hb : Nat.beq x e with
    | false => rw [hb] at h; exact leafX_out ts (i + 1) hn h
    | true =>
      rw [hb] at h
      simp only [cond_true] at h
      split at h
      · rename_i l hl
        have he : endAt ts0 i = (x, tp) := by unfold endAt; have := h0 0; simp at this; rw [this]
        exact ⟨i, l, by rw [he]; exact Nat.eq_of_beq_eq_true hb, by rw [he]; exact hl, h⟩
      · exact leafX_out ts (i + 1) hn h

/-- a loop, by fuel -/
def loopN {α β : Type} (f : α → Option (α ⊕ β)) : Nat → α → Option β
  | 0, _ => none
  | k + 1, a => (f a).bind (sel (loopN f k) some)

def leafL (E : XE) (L : Tpl) (h : List HTy) (ts : List (Nat × Tpl)) (hs : List (List HTy)) (e : Nat) (st : XSt) : Option (Tup h ⊕ AltT hs) :=
  cond (Nat.beq e 0) (match conform E L st with
    | some l => match toTup h l with | some y => some (.inl y) | none => none
    | none => none) (match leafX E hs 0 ts e st with | some y => some (.inr y) | none => none)

noncomputable def exec (D : Dec) (rows : Nat → Option Row) (Γ : List (Con P)) (fuel : Nat) : Code → ∀ {R : Type}, An → XE → XSt → (Nat → XSt → Option R) → Option R
  | .skip, _, _, _, st, K => K 0 st
  | .ret, _, _, _, st, K => K 1 st
  | .exit id, _, _, _, st, K => K (id + 2) st
  | .region _ ops draw, _, an, E, st, K => cond draw
      (grd (preB ops E.n (an.at E st).ms) (match freezeL E (an.at E st).fz st with
        | some st' => execD D rows Γ ops E (an.at E st).ms ops.toList st' [] (K 0)
        | none => none))
      (execOps D rows Γ ops E (an.at E st).fr' 0 ops.toList st (K 0))
  | .seq a b, _, an, E, st, K => match an.at E st with
    | .jn kt ko ts hs A B =>
      (exec D rows Γ fuel a A (inE kt ko E st) (inSt kt ko st) (leafX (inE kt ko E st) hs 0 ts)).bind fun y => elimAlt hs y fun i l =>
        cond (Nat.beq (endAt ts i).1 0) (exec D rows Γ fuel b B E (backSt kt ko st (fillTpl (endAt ts i).2 l)) K) (K (endAt ts i).1 (backSt kt ko st (fillTpl (endAt ts i).2 l)))
    | an => exec D rows Γ fuel a an.fst E st fun e st' => cond (Nat.beq e 0) (exec D rows Γ fuel b an.snd E st' K) (K e st')
  | .cond c a b, _, an, E, st, K => match evE E st c with
    | .b q => cond q (exec D rows Γ fuel a (an.at E st).fst E st K) (exec D rows Γ fuel b (an.at E st).snd E st K)
    | _ => none
  | .block id c, _, an, E, st, K => exec D rows Γ fuel c an E st fun e st' => cond (Nat.beq e (id + 2)) (K 0 st') (K e st')
  | .loop c, _, an, E, st, K => match an.at E st with
    | .lp kt ko L h ts hs A => match conform (inE kt ko E st) L (inSt kt ko st) with
      | some l => match toTup h l with
        | some y0 => (loopN (fun y => exec D rows Γ fuel c A (inE kt ko E st) (fillTpl L (ofTup h y)) (leafL (inE kt ko E st) L h ts hs)) fuel y0).bind fun x => elimAlt hs x fun i l =>
            K (endAt ts i).1 (backSt kt ko st (fillTpl (endAt ts i).2 l))
        | none => none
      | none => none
    | _ => none
  | _, _, _, _, _, _ => none

def PostX {R : Type} (E : XE) (K : Nat → XSt → Option R) (r : R) : Exit → St → Prop := fun e s => ∃ x st', exNum e = some x ∧ Conv noG s (encSt E st') ∧ K x st' = some r

omit [Mo] in
theorem exNum_normal {e : Exit} (h : exNum e = some 0) : e = .normal := by cases e <;> simp [exNum] at h <;> rfl

theorem leafX_post {R : Type} {E : XE} {kt ko : List Nat} {st : XSt} {hs : List (List HTy)} {ts : List (Nat × Tpl)} {y : AltT hs} {x : Nat} {st' : XSt} (h : leafX (inE kt ko E st) hs 0 ts x st' = some y) (f : Nat → List HV → Option R) {r : R} (hf : elimAlt hs y f = some r) :
    ∃ k l, (endAt ts k).1 = x ∧ f k l = some r ∧ Conv noG (encSt (inE kt ko E st) st') (encSt E (backSt kt ko st (fillTpl (endAt ts k).2 l))) := by
  obtain ⟨k, l, h1, h2, h3⟩ := leafX_out (ts0 := ts) ts 0 (fun j => by simp) h
  refine ⟨k, l, h1, ?_, ?_⟩
  · rw [← elim_mk hs k l y f h3]; exact hf
  · rw [encSt_back]; exact Conv.conform h2

theorem exec_sound (hg : Good P D) (hm : P.follows .mixedOrders = true) {rows : Nat → Option Row} {Γ : List (Con P)} {fuel : Nat} : ∀ (c : Code) {R : Type} (an : An) (E : XE) (st : XSt) (K : Nat → XSt → Option R) (r : R), exec D rows Γ fuel c an E st K = some r →
    Tr P noG c (encSt E st) (PostX E K r) := by
  intro c
  induction c with
  | skip => intro R an E st K r h; exact Tr.skip ⟨0, st, rfl, Conv.refl _, by simpa only [exec] using h⟩
  | ret => intro R an E st K r h; exact Tr.ret ⟨1, st, rfl, Conv.refl _, by simpa only [exec] using h⟩
  | exit id => intro R an E st K r h; exact Tr.exit ⟨id + 2, st, rfl, Conv.refl _, by simpa only [exec] using h⟩
  | region id ops draw =>
    intro R an E st K r h
    simp only [exec] at h
    cases draw with
    | false =>
      simp only [cond_false] at h
      exact Tr.region (execOps_sound hg ops.toList 0 st (K 0) h fun st' h' => ⟨0, st', rfl, Conv.refl _, h'⟩)
    | true =>
      simp only [cond_true] at h
      obtain ⟨hp, h⟩ := grd_out h
      have hp := pre_of hp
      split at h
      · rename_i st1 hf
        refine Tr.conv (freezeL_conv hf) ?_
        have p0 : Path P ops E (encSt E st1).t (encSt E st1).s 0 st1 [] := by
          refine ⟨rfl, ?_, rfl, fun i hi => by omega⟩
          funext d
          unfold tL
          cases dAt ops d with
          | none => rfl
          | some q =>
            have : seqF 0 q = false := by rw [← Bool.not_eq_true, seqF_lt]; omega
            simp only [this, cond_false]
        obtain ⟨st', tr', h1, h2, h3⟩ := execD_sound hg hp ops.toList 0 st1 [] (K 0) (by simp) (Nat.zero_le _) p0 h
        exact h1.done hp h2 hm ⟨0, st', rfl, Conv.refl _, h3⟩
      · cases h
  | seq a b iha ihb =>
    intro R an E st K r h
    have plain : ∀ (A B : An), exec D rows Γ fuel a A E st (fun e st' => cond (Nat.beq e 0) (exec D rows Γ fuel b B E st' K) (K e st')) = some r → Tr P noG (.seq a b) (encSt E st) (PostX E K r) := by
      intro A B h
      refine Tr.seq ((iha A E st _ r h).mono ?_)
      rintro e s ⟨x, st', h1, h2, h3⟩
      replace h3 : (cond (Nat.beq x 0) (exec D rows Γ fuel b B E st' K) (K x st')) = some r := h3
      cases hx : Nat.beq x 0 with
      | true =>
        rw [hx] at h3
        have hx0 := Nat.eq_of_beq_eq_true hx
        subst hx0
        obtain rfl := exNum_normal h1
        exact Tr.conv h2 (ihb B E st' K r h3)
      | false =>
        rw [hx] at h3
        have hne : e ≠ .normal := by rintro rfl; cases h1; cases hx
        have : thenQ P noG b (PostX E K r) e s = PostX E K r e s := by cases e <;> first | rfl | exact absurd rfl hne
        rw [this]; exact ⟨x, st', h1, h2, h3⟩
    simp only [exec] at h
    generalize an.at E st = an at h
    cases an with
    | jn kt ko ts hs A B =>
      obtain ⟨y, hy, h⟩ := bind_out h
      have ha := iha A (inE kt ko E st) (inSt kt ko st) _ y hy
      rw [encSt_in] at ha
      refine Tr.seq (ha.mono ?_)
      rintro e s ⟨x, st', h1, h2, h3⟩
      obtain ⟨k, l, h4, h5, h6⟩ := leafX_post h3 _ h
      cases hx : Nat.beq (endAt ts k).1 0 with
      | true =>
        rw [hx] at h5
        have hx0 := Nat.eq_of_beq_eq_true hx
        rw [h4] at hx0
        subst hx0
        obtain rfl := exNum_normal h1
        exact Tr.conv (h2.trans h6) (ihb B E _ K r h5)
      | false =>
        rw [hx] at h5
        have hne : e ≠ .normal := by rintro rfl; cases h1; rw [h4] at hx; cases hx
        have : thenQ P noG b (PostX E K r) e s = PostX E K r e s := by cases e <;> first | rfl | exact absurd rfl hne
        rw [this]; exact ⟨x, _, h1, h2.trans h6, by rw [← h4]; exact h5⟩
    | nd => exact plain _ _ h
    | sq A B => exact plain _ _ h
    | lp => exact plain _ _ h
    | mk => exact plain _ _ h
    | al => exact plain _ _ h
    | fr => exact plain _ _ h
  | cond c a b iha ihb =>
    intro R an E st K r h
    simp only [exec] at h
    split at h
    · rename_i q hq
      refine Tr.cond q (by rw [evE_enc, hq]; rfl) (fun e => ?_) (fun e => ?_)
      · subst e; exact iha _ E st K r h
      · subst e; exact ihb _ E st K r h
    · cases h
  | block id c ih =>
    intro R an E st K r h
    simp only [exec] at h
    refine Tr.block ((ih an E st _ r h).mono ?_)
    rintro e s ⟨x, st', h1, h2, h3⟩
    replace h3 : (cond (Nat.beq x (id + 2)) (K 0 st') (K x st')) = some r := h3
    cases hx : Nat.beq x (id + 2) with
    | true =>
      rw [hx] at h3
      have hx' := Nat.eq_of_beq_eq_true hx
      subst hx'
      cases e with
      | exit id' =>
        simp only [exNum, Option.some.injEq] at h1
        have : id' = id := by omega
        subst this
        show if id' = id' then _ else _
        rw [if_pos rfl]; exact ⟨0, st', rfl, h2, h3⟩
      | _ => simp [exNum] at h1
    | false =>
      rw [hx] at h3
      cases e with
      | exit id' =>
        simp only [exNum, Option.some.injEq] at h1
        have : id' ≠ id := by rintro rfl; rw [← h1] at hx; simp at hx
        show if id' = id then _ else _
        rw [if_neg this]; exact ⟨x, st', by simp [exNum, h1], h2, h3⟩
      | _ => exact ⟨x, st', h1, h2, h3⟩
  | loop c ih =>
    intro R an E st K r h
    simp only [exec] at h
    generalize an.at E st = an at h
    cases an with
    | lp kt ko L hh ts hs A =>
      simp only at h
      split at h
      · rename_i l0 hl0
        split at h
        · rename_i y0 hy0
          obtain ⟨z, hz, h⟩ := bind_out h
          have c0 := Conv.conform hl0
          rw [encSt_in, ← toTup_of hh l0 y0 hy0] at c0
          refine Tr.conv c0 ?_
          refine Tr.loop (fun n s => ∃ y, Conv noG s (encSt (inE kt ko E st) (fillTpl L (ofTup hh y))) ∧ loopN (fun y => exec D rows Γ fuel c A (inE kt ko E st) (fillTpl L (ofTup hh y)) (leafL (inE kt ko E st) L hh ts hs)) n y = some z) fuel ⟨y0, Conv.refl _, hz⟩ ?_
          rintro n s ⟨y, hcv, hn⟩
          cases n with
          | zero => cases hn
          | succ n =>
            simp only [loopN] at hn
            obtain ⟨q, hq, hn⟩ := bind_out hn
            refine Tr.conv hcv ((ih A _ _ _ q hq).mono ?_)
            rintro e s' ⟨x, st', h1, h2, h3⟩
            unfold leafL at h3
            cases hx : Nat.beq x 0 with
            | true =>
              rw [hx] at h3
              simp only [cond_true] at h3
              have hx0 := Nat.eq_of_beq_eq_true hx
              subst hx0
              obtain rfl := exNum_normal h1
              split at h3
              · rename_i l1 hl1
                split at h3
                · rename_i y1 hy1
                  cases h3
                  refine ⟨n, Nat.lt_succ_self n, y1, h2.trans ?_, hn⟩
                  rw [toTup_of hh l1 y1 hy1]; exact Conv.conform hl1
                · cases h3
              · cases h3
            | false =>
              rw [hx] at h3
              simp only [cond_false] at h3
              split at h3
              · rename_i y1 hy1
                cases h3
                simp only [sel] at hn
                cases hn
                obtain ⟨k, l, h4, h5, h6⟩ := leafX_post hy1 _ h
                have hne : e ≠ .normal := by rintro rfl; cases h1; cases hx
                have : loopQ (fun n s => ∃ y, Conv noG s (encSt (inE kt ko E st) (fillTpl L (ofTup hh y))) ∧ loopN (fun y => exec D rows Γ fuel c A (inE kt ko E st) (fillTpl L (ofTup hh y)) (leafL (inE kt ko E st) L hh ts hs)) n y = some z) (n + 1) (PostX E K r) e s' = PostX E K r e s' := by
                  cases e <;> first | rfl | exact absurd rfl hne
                rw [this]
                exact ⟨x, _, h1, h2.trans h6, by rw [← h4]; exact h5⟩
              · cases h3
        · cases h
      · cases h
    | nd => cases h
    | sq A B => cases h
    | jn => cases h
    | mk => cases h
    | al => cases h
    | fr => cases h
  | _ => intro R an E st K r h; simp [exec] at h
end Go.Proofs.YtnpgfcedmdnemaaDoor.Mc

/- THE MACHINE (59): from a function's run, typed, to its contract. -/
namespace Go.Proofs.YtnpgfcedmdnemaaDoor.Mc
open Go.RowKit
variable [Mo]
set_option linter.constructorNameAsVariable false
variable {P : Program} {D : Dec}

theorem Tr.post {G : Glob} {c : Code} {st : St} {Q Q2 : Exit → St → Prop} (h : Tr P G c st Q) (hq : ∀ e s, Q e s → ∃ s2, Conv G s s2 ∧ Q2 e s2) : Tr P G c st Q2 := by
  intro B F loc a w hR hd
  refine wp_mono (h B F loc a w hR hd) ?_
  rintro e a' w' ⟨h1, F', loc', st', h2, h3⟩
  obtain ⟨s2, hc, hq2⟩ := hq e st' h3
  obtain ⟨F2, loc2, hR2⟩ := hc B F' loc' a'.tmps w' h2
  exact ⟨h1, F2, loc2, s2, hR2, hq2⟩

def resX1 (D : Dec) (E : XE) (st : XSt) : ResultVar → Option X
  | .tmp t => some (lkE E st t)
  | .cell a t => match xload D (gE E st) t (lkE E st a) with | .ok v _ => some v | _ => none
def resXs (D : Dec) (E : XE) (st : XSt) : List ResultVar → Option (List X)
  | [] => some []
  | r :: rs => match resX1 D E st r, resXs D E st rs with
    | some x, some xs => some (x :: xs)
    | _, _ => none
def oneX : List X → X
  | [x] => x
  | xs => .tp xs
def resX (D : Dec) (E : XE) (st : XSt) (rs : List ResultVar) : Option X := match resXs D E st rs with | some xs => some (oneX xs) | none => none
omit [Mo] in
theorem resX1_spec {E : XE} {st : XSt} {r : ResultVar} {x : X} (h : resX1 D E st r = some x) : oneRes D (encSt E st) r = some x.enc := by
  cases r with
  | tmp t => simp only [resX1] at h; cases h; show some ((encSt E st).t t) = _; rw [lkE_enc]
  | cell a t =>
    simp only [resX1] at h
    have law := xload_spec (D := D) (agreeE E st) (e := fun o => match o with | .tmp i => (encSt E st).t i | _ => .dead) (t := t) (op := .tmp a) (p := lkE E st a) (lkE_enc E st a)
    split at h
    · rename_i v u hx
      cases h
      rw [hx] at law
      exact law.2
    · cases h
omit [Mo] in
theorem resXs_spec {E : XE} {st : XSt} : ∀ {rs : List ResultVar} {xs : List X}, resXs D E st rs = some xs → manyRes D (encSt E st) rs = some (xs.map X.enc)
  | [], xs, h => by cases h; rfl
  | r :: rs, xs, h => by
    simp only [resXs] at h
    split at h
    · rename_i x xs' h1 h2
      cases h
      simp only [manyRes, resX1_spec h1, resXs_spec h2, List.map_cons]
    · cases h
omit [Mo] in
theorem resX_spec {E : XE} {st : XSt} {rs : List ResultVar} {x : X} (h : resX D E st rs = some x) : resV D (encSt E st) rs = some x.enc := by
  unfold resX at h
  split at h
  · rename_i xs hxs
    cases h
    unfold resV
    rw [resXs_spec hxs]
    cases xs with
    | nil => rfl
    | cons x xs =>
      cases xs with
      | nil => rfl
      | cons y ys => simp [oneX, X.enc, encL_map]
  · cases h

/-- where a call begins -/
def argT : Nat → List X → XT
  | _, [] => []
  | i, x :: xs => (i, x) :: argT (i + 1) xs
def fnE (fn : Func) (A : CTpl) (kp : List Nat) (q : List X × XS) : XE := ⟨[], keptOf kp q.2, q.1.length + (fn.ntmps - q.1.length), A.o.map (·.1)⟩
def fnSt (kp : List Nat) (q : List X × XS) : XSt := ⟨argT 0 q.1, dropL kp q.2⟩
/-- how it ends: the first of the results that fits -/
def leafR (D : Dec) (E : XE) (rs : List ResultVar) (hs : List (List HTy)) (R : List RTpl) (e : Nat) (st : XSt) : Option (AltT hs) :=
  cond (Nat.ble e 1) (match resX D E st rs with
    | some x => leafX ⟨[], E.s, 1, E.a⟩ hs 0 (R.map fun r => (0, ⟨[(0, r.v)], r.o⟩)) 0 ⟨[(0, x)], st.s⟩
    | none => none) none

omit [Mo] in
theorem lk_argT : ∀ (xs : List X) (i n : Nat), lk (argT i xs) n = if i ≤ n then xs[n - i]? else none
  | [], i, n => by simp [argT, lk]
  | x :: xs, i, n => by
    simp only [argT, lk]
    cases hb : Nat.beq i n with
    | true => have := Nat.eq_of_beq_eq_true hb; subst this; simp
    | false =>
      have hne : i ≠ n := by rintro rfl; simp at hb
      rw [cond_false, lk_argT xs (i + 1) n]
      by_cases h : i ≤ n
      · rw [if_pos (by omega), if_pos h]
        have : n - i = (n - (i + 1)) + 1 := by omega
        rw [this, List.getElem?_cons_succ]
      · rw [if_neg (by omega), if_neg h]

def altOf (hs : List (List HTy)) (y : AltT hs) : Nat × List HV := elimAlt hs y fun i l => (i, l)
omit [Mo] in
theorem elim_altOf {β : Type} : ∀ (hs : List (List HTy)) (y : AltT hs) (f : Nat → List HV → β), elimAlt hs y f = f (altOf hs y).1 (altOf hs y).2
  | [], y, _ => y.elim
  | [_], _, _ => rfl
  | _ :: _ :: _, .inl _, _ => rfl
  | _ :: g :: t, .inr z, f => by
    have h1 := elim_altOf (g :: t) z fun i l => f (i + 1) l
    have h2 := elim_altOf (g :: t) z fun i l => (i + 1, l)
    show elimAlt (g :: t) z (fun i l => f (i + 1) l) = f (elimAlt (g :: t) z fun i l => (i + 1, l)).1 (elimAlt (g :: t) z fun i l => (i + 1, l)).2
    rw [h1, h2]

theorem con_ok (hg : Good P D) (hm : P.follows .mixedOrders = true) {f : FuncId} {fn : Func} {c : Code} (hfn : P.funcs[f]? = some fn) (hb : fn.body = some c) {rows : Nat → Option Row} {Γ : List (Con P)} {fuel : Nat} {A : CTpl} {h : List HTy} {kp : List Nat} {R : List RTpl} (an : An) (y : Tup h) {r : AltT (R.map (·.h))}
    (he : exec D rows Γ fuel c an (fnE fn A kp (inOf A (ofTup h y))) (fnSt kp (inOf A (ofTup h y))) (leafR D (fnE fn A kp (inOf A (ofTup h y))) fn.results.toList (R.map (·.h)) R) = some r) :
    elimAlt (R.map (·.h)) r fun i l => CTx P f (inOf A (ofTup h y)).1 (inOf A (ofTup h y)).2 (outOf (rAt R i) l).1 ((outOf (rAt R i) l).2 ++ keptOf kp (inOf A (ofTup h y)).2) := by
  generalize hq : inOf A (ofTup h y) = q at he ⊢
  have hkeys : q.2.map (·.1) = A.o.map (·.1) := by
    rw [← hq]; unfold inOf; exact fillS_keys _ _
  rw [elim_altOf]
  generalize hk : altOf _ r = kl
  obtain ⟨i, l⟩ := kl
  have tr := exec_sound hg hm (rows := rows) (Γ := Γ) (fuel := fuel) c an _ _ _ r he
  -- the walk's start
  have start : Conv noG (st0 (q.1.map X.enc) (encS q.2) fn.ntmps (A.o.map (·.1))) (encSt (fnE fn A kp q) (fnSt kp q)) := by
    intro B F loc tmps w hR
    refine ⟨F, loc, ⟨?_, fun j => ?_, ?_, hR.a⟩⟩
    · have h1 : RelS noG B w F loc (encS q.2) := hR.s
      have h2 : encS (dropL kp q.2 ++ keptOf kp q.2) = encS q.2 := encS_ext fun n => by
        rw [lk_append, lk_dropL, lk_keptOf]
        by_cases hn : n ∈ kp
        · simp [hn]
        · simp only [if_neg hn]; cases lk q.2 n <;> rfl
      show RelS noG B w F loc (encS (dropL kp q.2 ++ keptOf kp q.2))
      rw [h2]; exact h1
    · have h1 := hR.t j
      show RelV w F loc (encT (argT 0 q.1 ++ []) j) _
      rw [List.append_nil, encT_lk, lk_argT, if_pos (Nat.zero_le _), Nat.sub_zero]
      have h2 : RelV w F loc (((q.1.map X.enc)[j]?).getD vU) (tmps.getD j undef) := h1
      rw [List.getElem?_map] at h2
      cases hx : q.1[j]? with
      | none => exact .dead _
      | some x => rw [hx] at h2; exact h2
    · have := hR.n
      show tmps.size = _
      rw [this]; simp [st0, fnE]; rfl
  have han : ∀ n x, encS q.2 n = some x → n ∈ A.o.map (·.1) := by
    intro n x hx
    rw [← hkeys]
    unfold encS at hx
    cases hl : lk q.2 n with
    | none => rw [hl] at hx; cases hx
    | some z => exact List.mem_map.2 ⟨_, lk_mem hl, rfl⟩
  have ct := CT.of_tr hg hfn hb (vs := q.1.map X.enc) (s := encS q.2) (an := A.o.map (·.1)) (Q := fun r' s' => ∃ st', ∃ x, r' = x.enc ∧ s' = (encSt (fnE fn A kp q) st').s ∧ leafX ⟨[], (fnE fn A kp q).s, 1, (fnE fn A kp q).a⟩ (R.map (·.h)) 0 (R.map fun r => (0, ⟨[(0, r.v)], r.o⟩)) 0 ⟨[(0, x)], st'.s⟩ = some r) han
    (Tr.conv start (tr.post fun e s hp => by
      obtain ⟨x, st', h1, h2, h3⟩ := hp
      refine ⟨_, h2, ?_⟩
      unfold leafR at h3
      cases hx : Nat.ble x 1 with
      | false => rw [hx] at h3; cases h3
      | true =>
        rw [hx] at h3
        simp only [cond_true] at h3
        split at h3
        · rename_i z hz
          have := resX_spec hz
          have hx1 := Nat.le_of_ble_eq_true hx
          cases e with
          | normal => exact ⟨_, this, st', z, rfl, rfl, h3⟩
          | ret => exact ⟨_, this, st', z, rfl, rfl, h3⟩
          | exit id => simp only [exNum, Option.some.injEq] at h1; omega
          | _ => simp [exNum] at h1
        · cases h3))
  intro F loc w args hn hS hA
  refine (ct F loc w args hn hS hA).mono ?_
  rintro e w' ⟨v, F', loc', r', s', rfl, hS', hv, st', x, rfl, rfl, hleaf⟩
  obtain ⟨k, l', h4, h5, h6⟩ := leafX_out (ts0 := R.map fun r => (0, ⟨[(0, r.v)], r.o⟩)) _ 0 (fun j => by simp) hleaf
  have hkl : (k, l') = (i, l) := by rw [← hk]; exact (elim_mk _ k l' r (fun i l => (i, l)) h6).symm
  cases hkl
  have hend : endAt (R.map fun r => (0, ⟨[(0, r.v)], r.o⟩)) i = (0, ⟨[(0, (rAt R i).v)], (rAt R i).o⟩) ∨ endAt (R.map fun r => (0, ⟨[(0, r.v)], r.o⟩)) i = (0, ⟨[], []⟩) := by
    unfold endAt rAt
    rw [List.getElem?_map]
    cases R[i]? with
    | none => exact .inr rfl
    | some z => exact .inl rfl
  have hmk : (R.map (·.h))[i]? ≠ none := by
    have : ∀ (hs : List (List HTy)) (i : Nat) (l : List HV) (y : AltT hs), mkAlt hs i l = some y → hs[i]? ≠ none := by
      intro hs
      induction hs with
      | nil => intro i l y; exact y.elim
      | cons a t ih =>
        intro i l y h
        cases i with
        | zero => simp
        | succ i =>
          cases t with
          | nil => simp [mkAlt] at h
          | cons b t =>
            simp only [mkAlt] at h
            split at h
            · rename_i z hz; simpa using ih i l z hz
            · cases h
    exact this _ _ _ _ h6
  have hri : R[i]? ≠ none := by rw [List.getElem?_map] at hmk; intro h; rw [h] at hmk; exact hmk rfl
  have hend : endAt (R.map fun r => (0, (⟨[(0, r.v)], r.o⟩ : Tpl))) i = (0, ⟨[(0, (rAt R i).v)], (rAt R i).o⟩) := by
    unfold endAt rAt
    rw [List.getElem?_map]
    cases hz : R[i]? with
    | none => exact absurd hz hri
    | some z => rfl
  rw [hend] at h5
  have cv := Conv.conform h5
  have hR : Rel noG (baseOf loc w F hn) F' loc' (encSt ⟨[], (fnE fn A kp q).s, 1, (fnE fn A kp q).a⟩ ⟨[(0, x)], st'.s⟩) #[v] w' := by
    refine ⟨hS', fun j => ?_, rfl, fun o l hl => ?_⟩
    · show RelV w' F' loc' (encT [(0, x)] j) _
      cases j with
      | zero => exact hv
      | succ j => exact .dead _
    · obtain ⟨obj, hobj⟩ := hS.dom o l hl
      exact han o obj hobj
  obtain ⟨F2, loc2, hR2⟩ := cv _ _ _ _ _ hR
  refine ⟨v, F2, loc2, _, _, rfl, hR2.s, hR2.t 0, ?_, ?_⟩
  · show encT ((fillTpl ⟨[(0, (rAt R i).v)], (rAt R i).o⟩ l).t ++ []) 0 = (fillSh (rAt R i).v l).1.enc
    simp [fillTpl, fillT, encT, lk]
  · show encS ((fillTpl ⟨[(0, (rAt R i).v)], (rAt R i).o⟩ l).s ++ keptOf kp q.2) = encS ((fillS (rAt R i).o (fillSh (rAt R i).v l).2).1 ++ keptOf kp q.2)
    simp [fillTpl, fillT]
end Go.Proofs.YtnpgfcedmdnemaaDoor.Mc

/- THE MACHINE (60): what is handed in, as typed values; from a contract to the row's call. -/
namespace Go.Proofs.YtnpgfcedmdnemaaDoor.Mc
open Go.RowKit
variable [Mo]
variable {P : Program} {W : World} {H : Type} {enc : TypeId × Value → H} {base : Nat} {sp : Nat → Bool} {held : Bool}

omit [Mo] in
theorem cond_ok {α : Type} {c : Bool} {a : Option α} {b : α} (h : cond c a none = some b) : c = true ∧ a = some b := by
  cases c
  · cases h
  · exact ⟨rfl, h⟩

/-! rows in a row -/
def Row.cat : Row → Row → Row
  | .nil, s => s
  | .int k r, s => .int k (r.cat s)
  | .bool r, s => .bool (r.cat s)
  | .str r, s => .str (r.cat s)
  | .sl e r, s => .sl e (r.cat s)
def catD : (r s : Row) → r.den → s.den → (r.cat s).den
  | .nil, _, _, y => y
  | .int _ r, s, x, y => prM (r.cat s) (prF r x) (catD r s (prS r x) y)
  | .bool r, s, x, y => prM (r.cat s) (prF r x) (catD r s (prS r x) y)
  | .str r, s, x, y => prM (r.cat s) (prF r x) (catD r s (prS r x) y)
  | .sl _ r, s, x, y => prM (r.cat s) (prF r x) (catD r s (prS r x) y)
omit [Mo] in
theorem en_cat : ∀ (r s : Row) (x : r.den) (y : s.den), (r.cat s).en (catD r s x y) = r.en x ++ s.en y
  | .nil, _, _, _ => rfl
  | .int _ r, s, x, y => by simp only [Row.cat, catD, Row.en, prF_mk, prS_mk, en_cat r s, List.cons_append]
  | .bool r, s, x, y => by simp only [Row.cat, catD, Row.en, prF_mk, prS_mk, en_cat r s, List.cons_append]
  | .str r, s, x, y => by simp only [Row.cat, catD, Row.en, prF_mk, prS_mk, en_cat r s, List.cons_append]
  | .sl _ r, s, x, y => by simp only [Row.cat, catD, Row.en, prF_mk, prS_mk, en_cat r s, List.cons_append]

/-- what is known of data that was handed in -/
def Row.gd : (r : Row) → r.den → Prop
  | .nil, _ => True
  | .int k r, x => (Lit.int k (prF r x)).wf = true ∧ r.gd (prS r x)
  | .bool r, x => r.gd (prS r x)
  | .str r, x => (prF r x).size ≤ maxLen ∧ r.gd (prS r x)
  | .sl e r, x => ((prF r x).length ≤ maxLen ∧ ∀ z ∈ prF r x, e.gd z) ∧ r.gd (prS r x)
/-- how much it holds -/
def Row.blk : (r : Row) → r.den → Nat
  | .nil, _ => 0
  | .int _ r, x => r.blk (prS r x)
  | .bool r, x => r.blk (prS r x)
  | .str r, x => (prF r x).size + r.blk (prS r x)
  | .sl e r, x => ((prF r x).map fun z => e.blk z + 1).sum + r.blk (prS r x)
omit [Mo] in
theorem blk_cat : ∀ (r s : Row) (x : r.den) (y : s.den), (r.cat s).blk (catD r s x y) = r.blk x + s.blk y
  | .nil, _, _, _ => by simp only [Row.cat, catD, Row.blk, Nat.zero_add]
  | .int _ r, s, x, y => by simp only [Row.cat, catD, Row.blk, prS_mk, blk_cat r s]
  | .bool r, s, x, y => by simp only [Row.cat, catD, Row.blk, prS_mk, blk_cat r s]
  | .str r, s, x, y => by simp only [Row.cat, catD, Row.blk, prS_mk, prF_mk, blk_cat r s, Nat.add_assoc]
  | .sl e r, s, x, y => by simp only [Row.cat, catD, Row.blk, prS_mk, prF_mk, blk_cat r s, Nat.add_assoc]
omit [Mo] in
theorem blk_sum {α : Type} (f : α → Nat) : ∀ (xs : List α) (ns : List Nat), ns.length = xs.length → (∀ i (h : i < xs.length), f xs[i] + 1 ≤ ns.getD i 0) → (xs.map fun z => f z + 1).sum ≤ ns.sum
  | [], ns, _, _ => by simp
  | x :: xs, n :: ns, hl, h => by
    have h0 := h 0 (by simp)
    have := blk_sum f xs ns (by simpa using hl) (fun i hi => by have := h (i + 1) (by simpa using hi); simpa using this)
    simp only [List.getElem_cons_zero, List.getD_cons_zero] at h0
    simp only [List.map_cons, List.sum_cons]
    omega
  | _ :: _, [], hl, _ => by simp at hl
omit [Mo] in
theorem sum_drop : ∀ (ns : List Nat) (i : Nat), i < ns.length → (ns.drop i).sum = ns.getD i 0 + (ns.drop (i + 1)).sum
  | [], _, h => by simp at h
  | n :: ns, 0, _ => by simp
  | n :: ns, i + 1, h => by
    have := sum_drop ns i (by simpa using h)
    simpa using this
omit [Mo] in
theorem gd_cat : ∀ (r s : Row) (x : r.den) (y : s.den), r.gd x → s.gd y → (r.cat s).gd (catD r s x y)
  | .nil, _, _, _, _, k => k
  | .int _ r, s, x, y, h, k => by simp only [Row.cat, catD, Row.gd, prF_mk, prS_mk]; exact ⟨h.1, gd_cat r s _ _ h.2 k⟩
  | .bool r, s, x, y, h, k => by simp only [Row.cat, catD, Row.gd, prS_mk]; exact gd_cat r s _ _ h k
  | .str r, s, x, y, h, k => by simp only [Row.cat, catD, Row.gd, prF_mk, prS_mk]; exact ⟨h.1, gd_cat r s _ _ h.2 k⟩
  | .sl _ r, s, x, y, h, k => by simp only [Row.cat, catD, Row.gd, prF_mk, prS_mk]; exact ⟨h.1, gd_cat r s _ _ h.2 k⟩

/-- a type's cells as a row -/
def rowFs (P : Program) (f : TypeId → Option Row) (n : Nat) : Nat → List Field → Option Row
  | off, [] => cond (Nat.beq off n) (some .nil) none
  | off, fl :: fs => cond (Nat.beq fl.offset off) (match f fl.type, rowFs P f n (off + P.cellsOf fl.type) fs with
    | some r, some s => cond (Nat.beq r.len (P.cellsOf fl.type)) (some (r.cat s)) none
    | _, _ => none) none
def rowT (P : Program) : Nat → TypeId → Option Row
  | 0, _ => none
  | n + 1, t => match P.underlying t with
    | some (.int k) => some (.int k .nil)
    | some .bool => some (.bool .nil)
    | some .string => some (.str .nil)
    | some (.slice e) => cond (Nat.blt 0 (P.cellsOf e)) (match rowT P n e with | some r => some (.sl r .nil) | none => none) none
    | some (.struct fs) => rowFs P (rowT P n) (P.cellsOf t) 0 fs.toList
    | _ => none

instance rowInh : (r : Row) → Inhabited r.den := fun r => ⟨r.zero⟩
omit [Mo] in
theorem rowFs_opens {f : TypeId → Option Row} {n : Nat} {cs : List Value} (hl : cs.length = n) {fs : Array Field} {ns : List Nat} (hns : ns.length = fs.size)
    (hf : ∀ (i : Nat) (fl : Field) (r : Row), fs[i]? = some fl → f fl.type = some r → ∃ a : r.den, RelCells W ((cs.drop fl.offset).take (P.cellsOf fl.type)) (r.en a) ∧ r.gd a ∧ r.blk a + 1 ≤ ns.getD i 0) :
    ∀ (l : List Field) (i off : Nat) (r : Row), (∀ j fl, l[j]? = some fl → fs[i + j]? = some fl) → rowFs P f n off l = some r → ∃ a : r.den, RelCells W ((cs.drop off).take (n - off)) (r.en a) ∧ r.gd a ∧ off ≤ n ∧ r.blk a ≤ (ns.drop i).sum
  | [], i, off, r, _, h => by
    unfold rowFs at h
    obtain ⟨h1, h2⟩ := cond_some h
    cases h2
    have := Nat.eq_of_beq_eq_true h1
    subst this
    exact ⟨(), by rw [Nat.sub_self, List.take_zero]; exact ⟨rfl, fun j y hj => by simp [Row.en] at hj⟩, trivial, Nat.le_refl _, Nat.zero_le _⟩
  | fl :: l, i, off, r, hi, h => by
    unfold rowFs at h
    obtain ⟨h1, h2⟩ := cond_ok h
    have ho := Nat.eq_of_beq_eq_true h1
    split at h2
    · rename_i r1 s1 hr hs
      obtain ⟨h3, h4⟩ := cond_some h2
      cases h4
      have hlen := Nat.eq_of_beq_eq_true h3
      obtain ⟨a, ha, ga, ka⟩ := hf i fl r1 (hi 0 fl rfl) hr
      obtain ⟨b, hb, gb, hle, kb⟩ := rowFs_opens hl hns hf l (i + 1) _ s1 (fun j fl' hj => by have := hi (j + 1) fl' (by simpa using hj); rwa [Nat.add_assoc, Nat.add_comm 1]) hs
      have hi' : i < ns.length := by rw [hns]; exact (Array.getElem?_eq_some_iff.1 (hi 0 fl rfl)).1
      refine ⟨catD r1 s1 a b, ?_, gd_cat _ _ _ _ ga gb, by omega, by rw [blk_cat, sum_drop ns i hi']; omega⟩
      rw [en_cat]
      rw [ho] at ha
      have := RelCells.cat ha hb (by rw [Row.en_len, hlen])
      rwa [show P.cellsOf fl.type + (n - (off + P.cellsOf fl.type)) = n - off by omega] at this
    · cases h2
omit [Mo] in
theorem opens_rowT : ∀ (n : Nat) (t : TypeId) (r : Row), rowT P n t = some r → Opens P W enc base sp held t r.en (fun a m => r.gd a ∧ r.blk a + 1 ≤ m)
  | 0, _, _, h => by cases h
  | n + 1, t, r, h => by
    unfold rowT at h
    split at h
    · rename_i k hu
      cases h
      intro fuel cs x hx
      obtain ⟨m, hc, hw⟩ := opens_int hu fuel cs x hx
      exact ⟨m, hc, ⟨hw, trivial⟩, bulk_pos _⟩
    · rename_i hu
      cases h
      intro fuel cs x hx
      obtain ⟨m, hc, hw⟩ := opens_bool hu fuel cs x hx
      exact ⟨m, hc, trivial, bulk_pos _⟩
    · rename_i hu
      cases h
      intro fuel cs x hx
      obtain ⟨m, hc, hw, hk⟩ := opens_string hu fuel cs x hx
      exact ⟨m, hc, ⟨hw, trivial⟩, hk⟩
    · rename_i e hu
      obtain ⟨h1, h2⟩ := cond_ok h
      split at h2
      · rename_i q hq
        cases h2
        have hp : 0 < P.cellsOf e := by simpa [Nat.blt_eq] using h1
        intro fuel cs x hx
        obtain ⟨m, hc, hw, ns, h1, h2, h3⟩ := opens_slice hu hp (opens_rowT n e q hq) fuel cs x hx
        exact ⟨m, hc, ⟨⟨hw, fun z hz => by obtain ⟨i, hi, rfl⟩ := List.getElem_of_mem hz; exact (h3 i hi).1⟩, trivial⟩, Nat.le_trans (Nat.succ_le_succ (blk_sum q.blk m ns h1 fun i hi => (h3 i hi).2)) h2⟩
      · cases h2
    · rename_i fs hu
      intro fuel cs x hx
      obtain ⟨hl, ns, h1, h2, hf⟩ := opens_field hu hx
      obtain ⟨a, ha, ga, _, ka⟩ := rowFs_opens hl h1 (fun i fl q hi hq => hf i fl hi (opens_rowT n fl.type q hq)) fs.toList 0 0 r (fun j fl hj => by simpa using hj) h
      rw [Nat.sub_zero] at ha
      exact ⟨a, ha.whole hl, ga, by rw [List.drop_zero] at ka; omega⟩
    · cases h

/-! holes, with what is known of them -/
inductive Gd where | int (k : IntKind) | bool | str | sl (r : Row)
def Gd.ty : Gd → HTy | .int _ => .ti | .bool => .tb | .str => .ts | .sl r => .tl r
def Gd.ok : (g : Gd) → g.ty.den → Prop
  | .int k, n => (Lit.int k n).wf = true
  | .bool, _ => True
  | .str, (s : ByteArray) => s.size ≤ maxLen
  | .sl r, (xs : List r.den) => xs.length ≤ maxLen ∧ ∀ z ∈ xs, r.gd z
def Gd.blk : (g : Gd) → g.ty.den → Nat
  | .int _, _ => 0
  | .bool, _ => 0
  | .str, (s : ByteArray) => s.size
  | .sl r, (xs : List r.den) => (xs.map fun z => r.blk z + 1).sum
def blkT : (gs : List Gd) → Tup (gs.map Gd.ty) → Nat
  | [], _ => 0
  | [g], x => g.blk x
  | g :: g' :: gs, x => g.blk x.1 + blkT (g' :: gs) x.2
def gdT : (gs : List Gd) → Tup (gs.map Gd.ty) → Prop
  | [], _ => True
  | [g], x => g.ok x
  | g :: g' :: gs, x => g.ok x.1 ∧ gdT (g' :: gs) x.2
def rowGs : Row → List Gd
  | .nil => []
  | .int k r => .int k :: rowGs r
  | .bool r => .bool :: rowGs r
  | .str r => .str :: rowGs r
  | .sl e r => .sl e :: rowGs r
def rowSh : Row → List Sh
  | .nil => []
  | .int k r => .i k :: rowSh r
  | .bool r => .b :: rowSh r
  | .str r => .s :: rowSh r
  | .sl e r => .fz .u e :: rowSh r
def rowHV : (r : Row) → r.den → List HV
  | .nil, _ => []
  | .int _ r, x => ⟨.ti, prF r x⟩ :: rowHV r (prS r x)
  | .bool r, x => ⟨.tb, prF r x⟩ :: rowHV r (prS r x)
  | .str r, x => ⟨.ts, prF r x⟩ :: rowHV r (prS r x)
  | .sl e r, x => ⟨.tl e, prF r x⟩ :: rowHV r (prS r x)
omit [Mo] in
theorem fill_row : ∀ (r : Row) (x : r.den) (l : List HV), fillL (rowSh r) (rowHV r x ++ l) = (r.cells x, l)
  | .nil, _, _ => rfl
  | .int _ r, x, l => by simp only [rowSh, rowHV, List.cons_append, fillL, fillSh, fill_row r, Row.cells]; rfl
  | .bool r, x, l => by simp only [rowSh, rowHV, List.cons_append, fillL, fillSh, fill_row r, Row.cells]; rfl
  | .str r, x, l => by simp only [rowSh, rowHV, List.cons_append, fillL, fillSh, fill_row r, Row.cells]; rfl
  | .sl _ r, x, l => by simp only [rowSh, rowHV, List.cons_append, fillL, fillSh, fill_row r, Row.cells]; rfl

/-- holes that are as they should be -/
inductive HvOk : List Gd → List HV → Nat → Prop where
  | nil : HvOk [] [] 0
  | cons (g : Gd) (v : g.ty.den) (gs : List Gd) (l : List HV) (m : Nat) (h : g.ok v) (hs : HvOk gs l m) : HvOk (g :: gs) (⟨g.ty, v⟩ :: l) (g.blk v + m)
omit [Mo] in
theorem HvOk.append : ∀ {gs gs' : List Gd} {l l' : List HV} {m m' : Nat}, HvOk gs l m → HvOk gs' l' m' → HvOk (gs ++ gs') (l ++ l') (m + m')
  | _, _, _, _, _, m', .nil, k => by rw [Nat.zero_add]; exact k
  | _, _, _, _, _, m', .cons g v gs l m h hs, k => by rw [Nat.add_assoc]; exact .cons g v _ _ _ h (hs.append k)
omit [Mo] in
theorem hvOk_row : ∀ (r : Row) (x : r.den), r.gd x → HvOk (rowGs r) (rowHV r x) (r.blk x)
  | .nil, _, _ => .nil
  | .int k r, x, h => by have := HvOk.cons (.int k) (prF r x) _ _ _ h.1 (hvOk_row r _ h.2); simp only [Gd.blk, Nat.zero_add] at this; exact this
  | .bool r, x, h => by have := HvOk.cons .bool (prF r x) _ _ _ trivial (hvOk_row r _ h); simp only [Gd.blk, Nat.zero_add] at this; exact this
  | .str r, x, h => .cons .str _ _ _ _ h.1 (hvOk_row r _ h.2)
  | .sl e r, x, h => .cons (.sl e) _ _ _ _ h.1 (hvOk_row r _ h.2)
omit [Mo] in
theorem HvOk.tup : ∀ {gs : List Gd} {l : List HV} {m : Nat}, HvOk gs l m → ∃ y : Tup (gs.map Gd.ty), ofTup (gs.map Gd.ty) y = l ∧ gdT gs y ∧ blkT gs y = m
  | _, _, _, .nil => ⟨(), rfl, trivial, rfl⟩
  | _, _, _, .cons g v _ _ _ h .nil => ⟨v, rfl, h, rfl⟩
  | _, _, _, .cons g v _ _ _ h (.cons g' v' gs l m h' hs) => by
    obtain ⟨y, hy, gy, ky⟩ := (HvOk.cons g' v' gs l m h' hs).tup
    exact ⟨(v, y), by rw [← hy]; rfl, ⟨h, gy⟩, by rw [← ky]; rfl⟩

/-- an argument's shape and holes -/
def argSh (P : Program) (n : Nat) (t : TypeId) : Option (Sh × List Gd) :=
  match P.underlying t with
  | some (.int k) => some (.i k, [.int k])
  | some .bool => some (.b, [.bool])
  | some .string => some (.s, [.str])
  | some (.slice e) => cond (Nat.blt 0 (P.cellsOf e)) (match rowT P n e with | some r => some (.fz .u r, [.sl r]) | none => none) none
  | some (.struct _) => match rowT P n t with | some r => some (.ag (rowSh r), rowGs r) | none => none
  | _ => none
omit [Mo] in
theorem arg_one {v : Value} {y : T} (hv : v.cells = #[v]) (h : RelCells W v.cells.toList [y]) : RelV W (oldF W) noLoc (.t y) v := by
  obtain ⟨u, hu, _, hrel⟩ := h.2 0 _ rfl
  rw [hv] at hu
  cases hu
  exact .t _ _ hrel
def plainD : TypeDesc → Bool
  | .int _ => true
  | .bool => true
  | .string => true
  | .slice _ => true
  | _ => false
omit [Mo] in
theorem cells1 {r : Reach} {b0 : Nat} {t : TypeId} {v : Value} {d : TypeDesc} (hval : Value.okWide P W r b0 t v) (hu : P.underlying t = some d) (hd : plainD d = true) : v.cells = #[v] := by
  unfold Value.okWide at hval
  rw [hu] at hval
  cases d <;> first
    | (cases hd; done)
    | (cases v with
      | agg cs => exfalso; simp [Cell.okWide, Cell.ok, hu] at hval
      | _ => rfl)
omit [Mo] in
theorem argSh_opens {n : Nat} {t : TypeId} {s : Sh} {gs : List Gd} (h : argSh P n t = some (s, gs)) {r : Reach} {b0 : Nat} {v : Value} {d : DataW H} {ps : List MemPlace} (hval : Value.okWide P W r b0 t v) (hd : DataW.Trod enc P W base sp held t v d ps) :
    ∃ l m, HvOk gs l m ∧ m + 1 ≤ bulkD d ∧ ∃ x, (∀ l', fillSh s (l ++ l') = (x, l')) ∧ RelV W (oldF W) noLoc x.enc v := by
  have hd' := hd
  obtain ⟨fuel, hf⟩ := hd
  unfold argSh at h
  split at h
  · rename_i k hu
    cases h
    obtain ⟨m, hc, hw⟩ := opens_int hu fuel _ _ hf
    exact ⟨[⟨.ti, m⟩], _, .cons (.int k) m _ _ _ hw .nil, bulk_pos _, .i k m, fun _ => rfl, arg_one (cells1 hval hu rfl) hc⟩
  · rename_i hu
    cases h
    obtain ⟨m, hc, hw⟩ := opens_bool hu fuel _ _ hf
    exact ⟨[⟨.tb, m⟩], _, .cons .bool m _ _ _ trivial .nil, bulk_pos _, .b m, fun _ => rfl, arg_one (cells1 hval hu rfl) hc⟩
  · rename_i hu
    cases h
    obtain ⟨m, hc, hw, hk⟩ := opens_string hu fuel _ _ hf
    exact ⟨[⟨.ts, m⟩], _, .cons .str m _ _ _ hw .nil, hk, .s m, fun _ => rfl, arg_one (cells1 hval hu rfl) hc⟩
  · rename_i e hu
    obtain ⟨h1, h2⟩ := cond_ok h
    split at h2
    · rename_i q hq
      cases h2
      have hp : 0 < P.cellsOf e := by simpa [Nat.blt_eq] using h1
      obtain ⟨m, hc, hw, ns, k1, k2, k3⟩ := opens_slice hu hp (opens_rowT n e q hq) fuel _ _ hf
      exact ⟨[⟨.tl q, m⟩], _, .cons (.sl q) m _ _ _ ⟨hw, fun z hz => by obtain ⟨i, hi, rfl⟩ := List.getElem_of_mem hz; exact (k3 i hi).1⟩ .nil, Nat.le_trans (Nat.succ_le_succ (blk_sum q.blk m ns k1 fun i hi => (k3 i hi).2)) k2, .fz .u q m, fun _ => rfl, arg_one (cells1 hval hu rfl) hc⟩
    · cases h2
  · rename_i fs hu
    split at h
    · rename_i q hq
      cases h
      obtain ⟨a, ha, ga, ka⟩ := arg_row hu hval (opens_rowT n t q hq) hd'
      refine ⟨rowHV q a, _, hvOk_row q a ga, ka, .ag (q.cells a), fun l' => by simp only [fillSh, fill_row], ?_⟩
      rw [X.enc, encL_map, Row.cells_enc]
      exact ha
    · cases h
  · cases h

/-- all arguments -/
def argsSh (P : Program) (n : Nat) : List TypeId → Option (List Sh × List Gd)
  | [] => some ([], [])
  | t :: ts => match argSh P n t, argsSh P n ts with
    | some (s, g), some (ss, gs) => some (s :: ss, g ++ gs)
    | _, _ => none
omit [Mo] in
theorem args_opens {n : Nat} {r : Reach} {b0 : Nat} : ∀ {ts : List TypeId} {ss : List Sh} {gs : List Gd} {vs : List Value} {ds : List (DataW H)} {ps : List MemPlace}, argsSh P n ts = some (ss, gs) →
    (∀ (j : Nat) t v, ts[j]? = some t → vs[j]? = some v → Value.okWide P W r b0 t v) → DataW.TrodAll enc P W base sp held ts vs ds ps →
    ∃ l m, HvOk gs l m ∧ m ≤ bulkL ds ∧ ∃ xs, (∀ l', fillL ss (l ++ l') = (xs, l')) ∧ RelL W (oldF W) noLoc (xs.map X.enc) vs
  | [], _, _, vs, ds, ps, h, _, hd => by
    cases h
    cases vs <;> cases ds <;> simp [DataW.TrodAll] at hd
    exact ⟨[], 0, .nil, Nat.zero_le _, [], fun _ => rfl, relL_nil⟩
  | t :: ts, ss, gs, vs, ds, ps, h, hval, hd => by
    unfold argsSh at h
    split at h
    · rename_i s g ss' gs' h1 h2
      cases h
      cases vs <;> cases ds <;> simp only [DataW.TrodAll] at hd
      all_goals first | exact hd.elim | skip
      rename_i v vs d ds
      obtain ⟨p, q, hp, hq, e⟩ := hd
      obtain ⟨l, m, hl, k1, x, hx, rx⟩ := argSh_opens h1 (hval 0 t v rfl rfl) hp
      obtain ⟨l2, m2, hl2, k2, xs, hxs, rxs⟩ := args_opens h2 (fun j t' v' a b => hval (j + 1) t' v' (by simpa using a) (by simpa using b)) hq
      refine ⟨l ++ l2, m + m2, hl.append hl2, by simp only [bulkL]; omega, x :: xs, fun l' => ?_, relL_cons rx rxs⟩
      rw [List.append_assoc]
      simp only [fillL, hx, hxs]
    · cases h

/-- a row's call: what the law says of all that may be handed in -/
theorem row_calls_upto (hG : HoldsG W) {n : Nat} {f : FuncId} {ts : List TypeId} {ss : List Sh} {gs : List Gd} (ha : argsSh P n ts = some (ss, gs)) {ds : List (DataW H)} 
    (law : ∀ y : Tup (gs.map Gd.ty), gdT gs y → blkT gs y ≤ bulkL ds → CTx P f (inOf ⟨ss, []⟩ (ofTup (gs.map Gd.ty) y)).1 [] (.b true) [])
    {r : Reach} {b0 : Nat} {args : Array Value} {ps : List MemPlace}
    (hval : ∀ (j : Nat) t v, ts[j]? = some t → args[j]? = some v → Value.okWide P W r b0 t v) (hd : DataW.TrodAll enc P W base sp held ts args.toList ds ps) :
    Calls P f args W fun e w' => e = .returned (.bool true) ∧ Below W.heap.size W w' := by
  obtain ⟨l, m, hl, hm, xs, hxs, rxs⟩ := args_opens ha (fun j t v a b => hval j t v a (by simpa using b)) hd
  obtain ⟨y, hy, gy, ky⟩ := hl.tup
  have h := law y gy (by omega)
  rw [hy] at h
  have e : (inOf ⟨ss, []⟩ l).1 = xs := by
    have := hxs []
    rw [List.append_nil] at this
    simp only [inOf, this]
  rw [e] at h
  exact CTd.calls (f := f) (vs := xs.map X.enc) h hG rxs
theorem row_calls (hG : HoldsG W) {n : Nat} {f : FuncId} {ts : List TypeId} {ss : List Sh} {gs : List Gd} (ha : argsSh P n ts = some (ss, gs))
    (law : ∀ y : Tup (gs.map Gd.ty), gdT gs y → CTx P f (inOf ⟨ss, []⟩ (ofTup (gs.map Gd.ty) y)).1 [] (.b true) [])
    {r : Reach} {b0 : Nat} {args : Array Value} {ds : List (DataW H)} {ps : List MemPlace}
    (hval : ∀ (j : Nat) t v, ts[j]? = some t → args[j]? = some v → Value.okWide P W r b0 t v) (hd : DataW.TrodAll enc P W base sp held ts args.toList ds ps) :
    Calls P f args W fun e w' => e = .returned (.bool true) ∧ Below W.heap.size W w' :=
  row_calls_upto hG ha (fun y g _ => law y g) hval hd
end Go.Proofs.YtnpgfcedmdnemaaDoor.Mc

/- THE MACHINE (61): the library's functions by their proved contracts; package variables that are told. -/
namespace Go.Proofs.YtnpgfcedmdnemaaDoor.Mc
open Go.RowKit
variable [Mo]
variable {P : Program}

/-- what the told package variables hold, where it is plain -/
def HoldsS (w : World) : Prop := ∀ g cells, noG g = some cells → ∀ (j : Nat) v, cells[j]? = some (T.sc v) → w.cell? ⟨g, j, none⟩ = some v
theorem RelS.holdsS {B : Base} {w : World} {F : Nat → Prop} {loc : Nat → Option Loc} {s : Store} (hS : RelS noG B w F loc s) : HoldsS w := by
  intro g cells hg j v hj
  obtain ⟨_, val, hc, hr⟩ := hS.glob g cells hg
  rw [hc j (List.getElem?_eq_some_iff.1 hj).1]
  have := hr j _ hj
  cases this with
  | sc => rfl

theorem RelS.below {G : Glob} {B : Base} {w w' : World} {F : Nat → Prop} {loc : Nat → Option Loc} {s : Store} (hS : RelS G B w F loc s) (hb : Below w.heap.size w w') (hdr : Mo.m = true → w.drawn ≤ w'.drawn) : RelS G B w' F loc s := by
  have hk : Kept w F w' F := fun b hF => ⟨hF, hb.block b (hS.frz b hF).1⟩
  refine ⟨?_, hS.dom, hS.inj, ?_, ?_, hS.fr0, hb.os.trans hS.os, hb.tape.trans hS.tape, hb.output.trans hS.output, Nat.le_trans hS.size hb.size, ?_, hS.anc, ?_, fun h => Nat.le_trans (hS.drw h) (hdr h)⟩
  · intro o obj ho
    obtain ⟨l, hl, hr⟩ := hS.obs o obj ho
    exact ⟨l, hl, hr.mono hk (Same.refl _) fun b hb' => hb.block b (hS.own o l b hl hb').1⟩
  · intro o l b h1 h2
    have := hS.own o l b h1 h2
    exact ⟨Nat.lt_of_lt_of_le this.1 hb.size, this.2⟩
  · intro b hF
    have := hS.frz b hF
    exact ⟨Nat.lt_of_lt_of_le this.1 hb.size, this.2⟩
  · intro b hb1 hx
    rw [hb.block b (Nat.lt_of_lt_of_le hb1 hS.size)]
    exact hS.keep b hb1 hx
  · intro g cells hg
    obtain ⟨hF, val, hc, hr⟩ := hS.glob g cells hg
    exact ⟨hF, val, fun j hj => (cell_of_block (w := w) (hk g hF).2).trans (hc j hj), fun j x hj => (hr j x hj).mono hk⟩

omit [Mo] in
theorem relL_sc {w : World} {F : Nat → Prop} {loc : Nat → Option Loc} : ∀ {vs args : List Value}, RelL w F loc (vs.map fun v => V.t (.sc v)) args → args = vs
  | [], [], _ => rfl
  | [], _ :: _, h => by have := h.1; simp at this
  | _ :: _, [], h => by have := h.1; simp at this
  | v :: vs, a :: bs, h => by
    obtain ⟨u, hu, hr⟩ := h.2 0 _ rfl
    cases hu
    have h1 := relV_sc hr
    have h2 : bs = vs := relL_sc ⟨by have := h.1; simpa using this, fun j y hj => by
      obtain ⟨u, hu, hr⟩ := h.2 (j + 1) y (by simpa using hj)
      exact ⟨u, by simpa using hu, hr⟩⟩
    rw [h1, h2]
/-- a function of the library, by its contract: of plain values -/
theorem CTx.lib {f : FuncId} {xs : List X} {vs : List Value} {r : X} {u : Value} (hx : xs.map X.enc = vs.map fun v => V.t (.sc v)) (hr : ∀ (w : World) (F : Nat → Prop) (loc : Nat → Option Loc), RelV w F loc r.enc u)
    (h : ∀ w, HoldsS w → Calls P f vs.toArray w fun e w' => e = .returned u ∧ Below w.heap.size w w' ∧ (Mo.m = true → w.drawn ≤ w'.drawn)) : CTx P f xs [] r [] := by
  intro F loc w args hn hS hA
  rw [hx] at hA
  obtain rfl := relL_sc hA
  refine (h w hS.holdsS).mono ?_
  rintro e w' ⟨rfl, hb, hd⟩
  exact ⟨u, F, loc, r.enc, encS [], rfl, hS.below hb hd, hr w' F loc, rfl, rfl⟩
omit [Mo] in
theorem relV_two {w : World} {F : Nat → Prop} {loc : Nat → Option Loc} {k k' : IntKind} {a b : Int} : RelV w F loc (X.enc (.tp [.i k a, .i k' b])) (.tuple #[.int k a, .int k' b]) := by
  refine .tp _ [.int k a, .int k' b] (fun j => [Value.int k a, .int k' b].getD j undef) rfl (fun j hj => ?_) (fun j y hj => ?_)
  · match j, hj with
    | 0, _ => rfl
    | 1, _ => rfl
    | j + 2, hj => exact absurd (show j + 2 < 2 from hj) (by omega)
  · match j, hj with
    | 0, hj => cases hj; exact .t _ _ (.sc _ rfl)
    | 1, hj => cases hj; exact .t _ _ (.sc _ rfl)
    | j + 2, hj => simp [encL] at hj

/-! the decoder's two tables -/
def firstT' : List T := (List.range 256).map fun c => T.sc (.int .u8 ((Lib.firstT c : Nat) : Int))
def accT' : List T := (List.range 32).map fun j => T.sc (.int .u8 ((if j % 2 = 0 then Lib.accLo (j / 2) else Lib.accHi (j / 2) : Nat) : Int))
omit [Mo] in
theorem tabs_of {g3 g4 : Nat} (h3 : noG g3 = some firstT') (h4 : noG g4 = some accT') {w : World} (h : HoldsS w) : Lib.Utf8Tabs g3 g4 w := by
  refine ⟨fun c hc => h g3 _ h3 c _ (by simp [firstT', hc]), fun i hi => ⟨h g4 _ h4 (2 * i) _ ?_, h g4 _ h4 (2 * i + 1) _ ?_⟩⟩
  · simp [accT', show 2 * i < 32 by omega]
  · simp [accT', show 2 * i + 1 < 32 by omega, show (2 * i + 1) % 2 ≠ 0 by omega, show (2 * i + 1) / 2 = i by omega]
omit [Mo] in
theorem holds_tab {g : Nat} {w : World} {n : Nat} {v : Nat → Value} {cells : List T} (hc : cells = (List.range n).map fun j => T.sc (v j)) (hn : 0 < n) (hp : ∀ j, j < n → plain (v j) = true) (h : ∀ j, j < n → w.cell? ⟨g, j, none⟩ = some (v j)) :
    g < w.heap.size ∧ ∃ val : Nat → Value, (∀ j, j < cells.length → w.cell? ⟨g, j, none⟩ = some (val j)) ∧ ∀ (j : Nat) (x : T), cells[j]? = some x → RelT w (oldF w) x (val j) := by
  subst hc
  refine ⟨?_, v, fun j hj => h j (by simpa using hj), fun j x hj => ?_⟩
  · have := h 0 hn
    unfold World.cell? at this
    by_cases hb : g < w.heap.size
    · exact hb
    · simp [Array.getElem?_eq_none (Nat.le_of_not_lt hb)] at this
  · have hj' : j < n := by have := (List.getElem?_eq_some_iff.1 hj).1; simpa using this
    simp [hj'] at hj
    subst hj
    exact .sc _ (hp j hj')
omit [Mo] in
theorem holds_first {g3 g4 : Nat} {w : World} (h : Lib.Utf8Tabs g3 g4 w) : g3 < w.heap.size ∧ ∃ val : Nat → Value, (∀ j, j < firstT'.length → w.cell? ⟨g3, j, none⟩ = some (val j)) ∧ ∀ (j : Nat) (x : T), firstT'[j]? = some x → RelT w (oldF w) x (val j) :=
  holds_tab (n := 256) rfl (by omega) (fun _ _ => rfl) fun j hj => h.1 j hj
omit [Mo] in
theorem holds_acc {g3 g4 : Nat} {w : World} (h : Lib.Utf8Tabs g3 g4 w) : g4 < w.heap.size ∧ ∃ val : Nat → Value, (∀ j, j < accT'.length → w.cell? ⟨g4, j, none⟩ = some (val j)) ∧ ∀ (j : Nat) (x : T), accT'[j]? = some x → RelT w (oldF w) x (val j) :=
  holds_tab (n := 32) rfl (by omega) (fun _ _ => rfl) fun j hj => by
    by_cases hm : j % 2 = 0
    · have := (h.2 (j / 2) (by omega)).1
      rw [show 2 * (j / 2) = j by omega] at this
      rw [if_pos hm]; exact this
    · have := (h.2 (j / 2) (by omega)).2
      rw [show 2 * (j / 2) + 1 = j by omega] at this
      rw [if_neg hm]; exact this
omit [Mo] in
theorem holdsG_u8 {g3 g4 : Nat} (h3 : noG g3 = some firstT') (h4 : noG g4 = some accT') (hn : ∀ g, g ≠ g3 → g ≠ g4 → noG g = none) {W : World} (h : Lib.Utf8Tabs g3 g4 W) : HoldsG W := by
  intro g cells hg
  by_cases e3 : g = g3
  · subst e3; rw [h3] at hg; cases hg; exact holds_first h
  · by_cases e4 : g = g4
    · subst e4; rw [h4] at hg; cases hg; exact holds_acc h
    · rw [hn g e3 e4] at hg; cases hg
omit [Mo] in
theorem lkG_none : ∀ (l : List (Nat × (r : Row) × List r.den)) (g : Nat), (∀ p ∈ l, g ≠ p.1) → lkG l g = none
  | [], _, _ => rfl
  | (i, a) :: l, g, h => by
    have h1 : Nat.beq i g = false := by rw [← Bool.not_eq_true, Nat.beq_eq]; exact fun e => h (i, a) (by simp) e.symm
    rw [lkG, h1, cond_false]
    exact lkG_none l g fun p hp => h p (by simp [hp])
omit [Mo] in
theorem noG_none {g : Nat} (h : ∀ p ∈ gTab, g ≠ p.1) : noG g = none := by unfold noG; rw [lkG_none gTab g h]
end Go.Proofs.YtnpgfcedmdnemaaDoor.Mc

/- THE MACHINE (62): slices.SortFunc by its proved contract: of texts, under a function that is known by its own contract. -/
namespace Go.Proofs.YtnpgfcedmdnemaaDoor.Mc
open Go.RowKit Go.Sort
variable {P : Program}
/-- a function's contract as the world that it leaves -/
theorem CTx.grows {g : FuncId} {a b : ByteArray} {n : Int} (h : @CTx ⟨true⟩ P g [.s a, .s b] [] (.i .i64 n) []) {W : World} {F : Nat → Prop} (hfz : ∀ k, F k → k < W.heap.size)
    (hgl : ∀ g cells, noG g = some cells → F g ∧ ∃ val : Nat → Value, (∀ j, j < cells.length → W.cell? ⟨g, j, none⟩ = some (val j)) ∧ ∀ (j : Nat) (x : T), cells[j]? = some x → RelT W F x (val j)) :
    Calls P g #[.string a, .string b] W fun e w' => e = .returned (.int .i64 n) ∧ ∃ q os', w' = grow (W.drewN q) os' := by
  letI : Mo := ⟨true⟩
  have hno : ∀ (o : Nat) (l : Loc), (fun _ => none : Nat → Option Loc) o = some l → 1000000 ≤ o := fun _ _ h => by cases h
  have hS : RelS noG (baseOf (fun _ => none) W F hno) W F (fun _ => none) (encS []) := by
    refine ⟨?_, ?_, ?_, ?_, fun b hb => ⟨hfz b hb, .inl hb⟩, fun b hb => hb, rfl, rfl, rfl, Nat.le_refl _, fun _ _ _ => rfl, ?_, hgl, fun _ => Nat.le_refl _⟩
    · intro o obj ho; exact absurd (show (none : Option (Option O)) = some obj from ho) (by simp)
    · intro o l hl; cases hl
    · intro o o' l l' b h1; cases h1
    · intro o l b h1; cases h1
    · intro o l ho; cases ho
  have hA : RelL W F (fun _ => none) ([X.s a, X.s b].map X.enc) [.string a, .string b] := by
    refine ⟨rfl, fun j x hj => ?_⟩
    match j, hj with
    | 0, hj => cases hj; exact ⟨_, rfl, .t _ _ (.sc _ rfl)⟩
    | 1, hj => cases hj; exact ⟨_, rfl, .t _ _ (.sc _ rfl)⟩
    | j + 2, hj => simp at hj
  refine (h F (fun _ => none) W [.string a, .string b] hno hS hA).mono ?_
  rintro e w' ⟨v, F', loc', r, s', rfl, hS', hr, rfl, rfl⟩
  have hv : v = .int .i64 n := relV_sc hr
  subst hv
  refine ⟨rfl, w'.drawn - W.drawn, w'.heap.extract W.heap.size w'.heap.size, ?_⟩
  have hd : W.drawn ≤ w'.drawn := hS'.drw rfl
  have hsz : W.heap.size ≤ w'.heap.size := hS'.size
  have hk : ∀ k, k < W.heap.size → w'.heap[k]? = W.heap[k]? := fun k hk => hS'.keep k hk fun ⟨o, l, h, _⟩ => by cases h
  have e1 := hS'.os
  have e2 := hS'.tape
  have e3 := hS'.output
  obtain ⟨heap', tape', drawn', os', output'⟩ := w'
  simp only at e1 e2 e3 hd hsz hk
  subst e1 e2 e3
  have eh : heap' = W.heap ++ heap'.extract W.heap.size heap'.size := by
    apply Array.ext_getElem?
    intro k
    by_cases hk' : k < W.heap.size
    · rw [Array.getElem?_append_left hk']; exact hk k hk'
    · rw [Array.getElem?_append_right (by omega), Array.getElem?_extract]
      by_cases hk2 : k < heap'.size
      · rw [if_pos (by omega)]; congr 1; omega
      · rw [if_neg (by omega), Array.getElem?_eq_none (by omega)]
  simp only [grow, World.drewN]
  congr 1
  omega
variable [Mo]
/-- what a text's order says -/
def ltc (cmp : ByteArray → ByteArray → Option Int) (x y : ByteArray) : Bool := match cmp x y with | some n => decide (n < 0) | none => false
structure SortOk (cmp : ByteArray → ByteArray → Option Int) (xs : List ByteArray) : Prop where
  some : ∀ a ∈ xs, ∀ b ∈ xs, ∃ n, cmp a b = some n
  irrefl : ∀ a ∈ xs, ltc cmp a a = false
  trans : ∀ a ∈ xs, ∀ b ∈ xs, ∀ c ∈ xs, ltc cmp a b = true → ltc cmp b c = true → ltc cmp a c = true
  ntrans : ∀ a ∈ xs, ∀ b ∈ xs, ∀ c ∈ xs, ltc cmp a b = false → ltc cmp b c = false → ltc cmp a c = false
  total : ∀ a ∈ xs, ∀ b ∈ xs, ltc cmp a b = false → ltc cmp b a = false → a = b
  size : xs.length < 4611686018427387904
noncomputable def sortF (cmp : ByteArray → ByteArray → Option Int) (xs : List ByteArray) : Option (List ByteArray) :=
  open Classical in if SortOk cmp xs then some (xs.mergeSort fun x y => !(ltc cmp y x)) else none
omit [Mo] in
theorem sortF_out {cmp : ByteArray → ByteArray → Option Int} {xs ys : List ByteArray} (h : sortF cmp xs = some ys) : SortOk cmp xs ∧ ys = xs.mergeSort fun x y => !(ltc cmp y x) := by
  unfold sortF at h
  split at h
  · cases h; exact ⟨by assumption, rfl⟩
  · cases h
omit [Mo] in
theorem sortF_of {cmp : ByteArray → ByteArray → Option Int} {xs : List ByteArray} (h : SortOk cmp xs) : sortF cmp xs = some (xs.mergeSort fun x y => !(ltc cmp y x)) := by
  unfold sortF; rw [if_pos h]
def strRow : Row := .str .nil
/-- a sorted row, in the world that the sort leaves -/
theorem RelS.sorted {B : Base} {w : World} {F : Nat → Prop} {loc : Nat → Option Loc} {s : Store} (hS : RelS noG B w F loc s) {α : Type} [Inhabited α] {en : α → ByteArray} {o e : Nat} {rows : List (List T)} {g cap : Nat} {cells : List Value} {D : Array α} {n : Nat} {os : Array Obj}
    (ho : loc o = some (.arr (some g) rows.length cap 1)) (hown : w.ownsRow 0 e 1 (.slice (some ⟨g, 0, none⟩) rows.length cap) rows.length cells) (hD : D.size = rows.length) :
    RelS noG B (sortWorld (fun x => Value.string (en x)) w g 0 n D os) F loc (upd s o (some (some (.ar e 1 (D.toList.map fun x => [T.sc (.string (en x))]))))) := by
  obtain ⟨cur, hg, hnc, hcm, hcs, htake⟩ : ∃ cur, w.heap[g]? = some (.cells cur e (0, 0)) ∧ rows.length ≤ cap ∧ cap ≤ maxLen ∧ cur.size = cap * 1 ∧ cur.toList.take (rows.length * 1) = cells := by
    rcases hown.2 with ⟨h, _⟩ | ⟨g', cap', cur, hv, _, h2, h3, h4, h5, h6⟩
    · cases h
    · cases hv; exact ⟨cur, h2, h3, h4, h5, h6⟩
  let w1 := putRow (fun x => Value.string (en x)) w g 0 D
  have hg1 : w1.heap[g]? = some (.cells (putCells (fun x => Value.string (en x)) 0 D cur) e (0, 0)) := by
    simp only [w1, putRow, mapBlock, Array.getElem?_modify, hg, if_true, Option.map_some, onCells]
  have hot : ∀ k, k ≠ g → w1.heap[k]? = w.heap[k]? := fun k hk => by
    simp only [w1, putRow, mapBlock, Array.getElem?_modify]
    rw [if_neg (Ne.symm hk)]
  have hcell : ∀ (i : Nat) (x : α), D[i]? = some x → (putCells (fun x => Value.string (en x)) 0 D cur)[i]? = some (.string (en x)) := by
    intro i x hx
    have hi : i < D.size := (Array.getElem?_eq_some_iff.1 hx).1
    have hic : i < cur.size := by omega
    simp only [putCells, Array.getElem?_mapIdx, Array.getElem?_eq_getElem hic, Option.map_some, Nat.zero_add, Nat.zero_le, true_and, if_pos hi, Nat.sub_zero]
    rw [getElem!_pos D i hi]
    congr 3
    exact Option.some.inj ((Array.getElem?_eq_getElem hi).symm.trans hx)
  have hlen : (D.toList.map fun x => [T.sc (.string (en x))]).length = rows.length := by rw [List.length_map, Array.length_toList]; exact hD
  have hx : RelO w1 F loc (some (.ar e 1 (D.toList.map fun x => [T.sc (.string (en x))]))) (.arr (some g) rows.length cap 1) := by
    have := RelO.ar (w := w1) (F := F) (loc := loc) e 1 (D.toList.map fun x => [T.sc (.string (en x))]) (some g) cap ((putCells (fun x => Value.string (en x)) 0 D cur).toList.take rows.length) (by decide) (by
      intro r hr; obtain ⟨x, _, rfl⟩ := List.mem_map.1 hr; rfl) (by
      rw [hlen]
      refine ⟨?_, .inr ⟨g, cap, _, rfl, Nat.zero_le _, hg1, hnc, hcm, ?_, by rw [Nat.mul_one]⟩⟩
      · simp [putCells]; omega
      · simp [putCells]; omega) (by
      intro u hu
      obtain ⟨i, hi⟩ := List.getElem?_of_mem hu
      rw [List.getElem?_take] at hi
      split at hi
      · rename_i hlt
        have hiD : i < D.size := by omega
        rw [Array.getElem?_toList, hcell i _ (Array.getElem?_eq_getElem hiD)] at hi
        cases hi; rfl
      · cases hi) (by
      intro i r hi j x hj
      rw [List.getElem?_map] at hi
      obtain ⟨y, hy, rfl⟩ := Option.map_eq_some_iff.1 hi
      rw [Array.getElem?_toList] at hy
      have hiD : i < D.size := (Array.getElem?_eq_some_iff.1 hy).1
      cases j with
      | zero =>
        cases hj
        refine ⟨.string (en y), ?_, .sc _ rfl⟩
        rw [List.getElem?_take, if_pos (by omega), Nat.mul_one, Nat.add_zero, Array.getElem?_toList]
        exact hcell i y hy
      | succ j => simp at hj)
    rwa [hlen] at this
  obtain ⟨h1, hk⟩ := hS.turn (w' := w1) ho rfl (by simp [w1]) rfl rfl rfl hot hx
  refine h1.below (w' := sortWorld (fun x => Value.string (en x)) w g 0 n D os) ?_ (fun _ => ?_)
  · have e : sortWorld (fun x => Value.string (en x)) w g 0 n D os = grow (Go.Sort.ahead w1 n) os := by unfold sortWorld; rw [putRow_ahead]
    rw [e]
    exact ⟨rfl, rfl, rfl, by simp [grow], fun k hk => by simp only [grow, heap_ahead]; rw [Array.getElem?_append_left hk]⟩
  · show w1.drawn ≤ _
    simp [sortWorld, grow, w1]
/-- slices.SortFunc of texts -/
theorem CTx.sortFunc {ρ : Shelf.Ren} (L : SlLaysF.n6 P ρ) (Lz : SlLaysF0.n6 P ρ) {g : FuncId} (eg : ∀ args w, (callFunc g args).run P w = .ok (.enter g args) w) {cmp : ByteArray → ByteArray → Option Int} (hc : ∀ a b n, cmp a b = some n → @CTx ⟨true⟩ P g [.s a, .s b] [] (.i .i64 n) [])
    (e : TypeId) {xs ys : List ByteArray} (h : sortF cmp xs = some ys) :
    CTx P (ρ.f 6) [.sl .u 1000000, .c (.func (.func g) #[] #[])] [(1000000, some (.ar e strRow xs))] (.tp []) [(1000000, some (.ar e strRow ys))] := by
  obtain ⟨hok, rfl⟩ := sortF_out h
  intro F loc w args hn hS hA
  have ho : encS [(1000000, some (.ar e strRow xs))] 1000000 = some (some (.ar e 1 (xs.map strRow.en))) := rfl
  obtain ⟨b, cap, cells, hl, _, hrl, hown, h1, hr⟩ := hS.row (o := 1000000) (e := e) (sz := 1) (rows := xs.map strRow.en) (by unfold Mc.get; rw [ho])
  have hml : (xs.map strRow.en).length = xs.length := List.length_map _
  rw [hml] at hl hown
  obtain ⟨v0, hv0, r0⟩ := hA.2 0 _ rfl
  obtain ⟨v1, hv1, r1⟩ := hA.2 1 _ rfl
  have hv0' := (relV_sl r0 hl).1
  have hv1' : v1 = .func (.func g) #[] #[] := relV_sc r1
  have hargs : args = [.slice (b.map fun b => ⟨b, 0, none⟩) xs.length cap, .func (.func g) #[] #[]] := by
    have hlen := hA.1
    match args, hlen, hv0, hv1 with
    | [a, c], _, hv0, hv1 => cases hv0; cases hv1; rw [hv0', hv1']
  subst hargs
  cases xs with
  | nil =>
    refine (AnyF.slices_SortFunc_none Lz (b.map fun b => ⟨b, 0, none⟩) cap (.func (.func g) #[] #[]) w).mono ?_
    rintro e' w' ⟨rfl, rfl⟩
    exact ⟨_, F, loc, vU, _, rfl, hS, .tp [] [] (fun _ => .nilIface) rfl (fun j hj => absurd hj (by simp)) (fun j x hj => by simp at hj), rfl, by rw [List.mergeSort_nil]⟩
  | cons x0 xs0 =>
    obtain ⟨g0, rfl⟩ := own_block hown (by simp)
    generalize hxs : x0 :: xs0 = xs at *
    let α := {a : ByteArray // a ∈ xs}
    haveI : Inhabited α := ⟨⟨x0, by rw [← hxs]; simp⟩⟩
    let d : Array α := xs.attach.toArray
    let cf : α → α → Int := fun x y => (cmp x.1 y.1).getD 0
    have hcf : ∀ x y : α, cmp x.1 y.1 = some (cf x y) := fun x y => by
      obtain ⟨n, hn⟩ := hok.some x.1 x.2 y.1 y.2
      simp only [cf, hn, Option.getD_some]
    have hlt : ∀ x y : α, ltOf cf x y = ltc cmp x.1 y.1 := fun x y => by
      unfold ltOf ltc; rw [hcf x y]
    have hO : SWO (ltOf cf) := ⟨fun x => by rw [hlt]; exact hok.irrefl _ x.2, fun x y z => by simp only [hlt]; exact hok.trans _ x.2 _ y.2 _ z.2, fun x y z => by simp only [hlt]; exact hok.ntrans _ x.2 _ y.2 _ z.2⟩
    have hT : ∀ x y : α, ltOf cf x y = false → ltOf cf y x = false → x = y := fun x y => by
      simp only [hlt]; exact fun a b => Subtype.ext (hok.total _ x.2 _ y.2 a b)
    have hds : d.size = xs.length := by show xs.attach.toArray.size = _; rw [List.size_toArray, List.length_attach]
    have hgw := hS.own 1000000 _ g0 hl rfl
    have hfzw : ∀ k, F k → k < w.heap.size := fun k hk => (hS.frz k hk).1
    have hH : Holds (fun x : α => Value.string x.1) w g0 0 d := by
      intro j hj
      have hj' : j < xs.length := by omega
      obtain ⟨cur, hg, hnc, hcm, hcs, htake⟩ : ∃ cur, w.heap[g0]? = some (.cells cur e (0, 0)) ∧ xs.length ≤ cap ∧ cap ≤ maxLen ∧ cur.size = cap * 1 ∧ cur.toList.take (xs.length * 1) = cells := by
        rcases hown.2 with ⟨h, _⟩ | ⟨g', cap', cur, hv, _, h2, h3, h4, h5, h6⟩
        · cases h
        · cases hv; exact ⟨cur, h2, h3, h4, h5, h6⟩
      obtain ⟨u, hu, hrel⟩ := hr j [.sc (.string xs[j])] (by
        have e : (xs.map fun s => [T.sc (.string s)])[j]? = some [T.sc (.string xs[j])] := by rw [List.getElem?_map, List.getElem?_eq_getElem hj']; rfl
        exact e) 0 (.sc (.string xs[j])) rfl
      have hu' : u = .string xs[j] := by cases hrel; rfl
      subst hu'
      refine ⟨?_, ?_⟩
      · have := own_cell hown (g := g0) rfl hu
        rw [Nat.mul_one, Nat.add_zero] at this
        rw [Nat.zero_add, this, getElem!_pos d j hj]
        show some (Value.string xs[j]) = some (Value.string (xs.attach.toArray[j]).1)
        rw [List.getElem_toArray, List.getElem_attach]
      · simp [World.frozen?, hg]
    let W := fun (m : Nat) (dk : Array α) (os : Array Obj) => sortWorld (fun x : α => Value.string x.1) w g0 0 m dk os
    have hW : ∀ m dk os k, k < w.heap.size → k ≠ g0 → (W m dk os).heap[k]? = w.heap[k]? := by
      intro m dk os k hk hne
      simp only [W, sortWorld, grow, putRow, mapBlock, heap_ahead]
      rw [Array.getElem?_append_left (by simpa using hk), Array.getElem?_modify, if_neg (Ne.symm hne)]
    have hWs : ∀ m dk os, w.heap.size ≤ (W m dk os).heap.size := by
      intro m dk os
      simp [W, sortWorld, grow]
    have hcmp : CmpLays1 P g #[] (fun x : α => Value.string x.1) cf g0 0 d.size w := by
      intro m os dk hdk x y
      have hk : Kept w F (W m dk os) F := fun k hk => ⟨hk, hW m dk os k (hfzw k hk) (fun e => hgw.2.1 (e ▸ hk))⟩
      have := CTx.grows (hc x.1 y.1 _ (hcf x y)) (W := W m dk os) (F := F) (fun k hk => Nat.lt_of_lt_of_le (hfzw k hk) (hWs m dk os)) (fun g' cells' hg' => by
        obtain ⟨hF, val, h2, h3⟩ := hS.glob g' cells' hg'
        exact ⟨hF, val, fun j hj => (cell_of_block (w := w) (hk g' hF).2).trans (h2 j hj), fun j z hj => (h3 j z hj).mono hk⟩)
      exact this
    have hsort := Any.slices_SortFunc_total L (fun x : α => Value.string x.1) (fun _ => rfl) cf hO g #[] g0 0 cap d w eg hcmp hH hgw.1 (by rw [hds]; exact hok.size) hT
    rw [hds] at hsort
    refine Calls.mono hsort ?_
    rintro e' w' ⟨rfl, n, os, rfl⟩
    have hsd := hS.sorted (α := α) (en := fun x => x.1) (o := 1000000) (e := e) (rows := xs.map strRow.en) (g := g0) (cap := cap) (cells := cells) (D := (d.toList.mergeSort fun x y => !(ltOf cf) y x).toArray) (n := n) (os := os) (by rw [hml]; exact hl) (by rw [hml]; exact hown) (by rw [hml]; show (List.mergeSort d.toList _).toArray.size = _; rw [List.size_toArray, List.length_mergeSort, Array.length_toList, hds])
    have hm : (d.toList.mergeSort fun x y => !(ltOf cf) y x).map (fun x => x.1) = xs.mergeSort fun x y => !(ltc cmp y x) := by
      rw [List.map_mergeSort (s := fun x y => !(ltc cmp y x)) (fun a _ b _ => by rw [hlt])]
      congr 1
      simp only [d]
      exact List.attach_map_subtype_val xs
    have hst : upd (encS [(1000000, some (.ar e strRow xs))]) 1000000 (some (some (.ar e 1 (((d.toList.mergeSort fun x y => !(ltOf cf) y x).toArray).toList.map fun x => [T.sc (.string x.1)])))) = encS [(1000000, some (.ar e strRow (xs.mergeSort fun x y => !(ltc cmp y x))))] := by
      rw [← hm]
      funext k
      by_cases hk : k = 1000000
      · subst hk
        rw [upd_self]
        show _ = some (some (O.ar e 1 (List.map (fun s : ByteArray => [T.sc (.string s)]) _)))
        rw [List.map_map]
        rfl
      · rw [upd_ne _ _ hk]
        have hb : Nat.beq 1000000 k = false := by rw [← Bool.not_eq_true, Nat.beq_eq]; exact Ne.symm hk
        simp only [encS, lk, hb, cond_false]
    rw [hst] at hsd
    exact ⟨_, F, loc, vU, _, rfl, hsd, .tp [] [] (fun _ => .nilIface) rfl (fun j hj => absurd hj (by simp)) (fun j x hj => by simp at hj), rfl, rfl⟩
end Go.Proofs.YtnpgfcedmdnemaaDoor.Mc

/- THE MACHINE (63): strings.Builder: its check, and its text, by contracts; an object that goes with its block. -/
namespace Go.Proofs.YtnpgfcedmdnemaaDoor.Mc
open Go.RowKit Go.Shelf
variable {P : Program} {ρ : Shelf.Ren}
set_option maxHeartbeats 1000000 in
set_option maxRecDepth 100000 in
/-- String of a builder that holds a byte: what turns is the buffer's block alone -/
theorem builderString (L : Lays.n169 P ρ) (X : Builder.Extra P ρ) (b g cap : Nat) (p : Value) (cur : Array Value) (l : List UInt8) (w : World) (hbk : w.heap[b]? = some (.cells #[p, .slice (some ⟨g, 0, none⟩) l.length cap] (ρ.t 72) (0, 0)))
    (hg : w.heap[g]? = some (.cells cur (ρ.t 5) (0, 0))) (hnc : l.length ≤ cap) (hcm : cap ≤ maxLen) (hcs : cur.size = cap) (htake : cur.toList.take l.length = Lib.byteCells l) (h0 : l ≠ []) :
    Calls P (ρ.f 169) #[.pointer (some ⟨b, 0, none⟩)] w fun e w' => e = .returned (.string ⟨l.toArray⟩) ∧ w' = w.drew.freeze ⟨g, 0, none⟩ l.length := by
  have hl0 : l.length ≠ 0 := by simpa using h0
  have c1 : w.drew.cell? ⟨b, 1, none⟩ = some (.slice (some ⟨g, 0, none⟩) l.length cap) := by
    have : w.drew.heap[b]? = some (.cells #[p, .slice (some ⟨g, 0, none⟩) l.length cap] (ρ.t 72) (0, 0)) := hbk
    rw [Lib.cell_of_heap this]; rfl
  have hSD : (Builtin.unsafeSliceData_ #[(ρ.t 37)] (ρ.t 127) #[.slice (some ⟨g, 0, none⟩) l.length cap]).run P w.drew = .ok (.pointer (some ⟨g, 0, none⟩)) w.drew :=
    Lib.run_unsafeSliceData_row _ _ _ _ _ _ (by omega)
  have hUS : (Builtin.unsafeString_ #[(ρ.t 127), (ρ.t 3)] (ρ.t 9) #[.pointer (some ⟨g, 0, none⟩), .int .i64 l.length]).run P w.drew = .ok (.string ⟨l.toArray⟩) (w.drew.freeze ⟨g, 0, none⟩ l.length) := by
    refine Lib.run_unsafeString_row w.drew (ρ.t 127) (ρ.t 3) (ρ.t 9) (ρ.t 5) L.t127 X.cellsByte g cur.size (by have hg' : w.drew.heap[g]? = some (.cells cur (ρ.t 5) (0, 0)) := hg; simp [World.shape?, hg']) l h0 (by omega) (by unfold maxLen at hcm; omega) ?_
    intro j x hx
    have hadd : (⟨g, 0, none⟩ : Addr).add j = ⟨g, j, none⟩ := by unfold Addr.add; split <;> simp_all
    have hj : (Lib.byteCells l)[j]? = some (.int .u8 x.toNat) := by simp [Lib.byteCells, hx]
    rw [← htake, List.getElem?_take] at hj
    split at hj
    · rw [hadd]
      have hg' : w.drew.heap[g]? = some (.cells cur (ρ.t 5) (0, 0)) := hg
      rw [Lib.cell_of_heap hg', ← Array.getElem?_toList]
      exact hj
    · cases hj
  have mixed := L.mixed
  have t72 := L.t72; have a72 := L.a72; have z72 := L.z72; have v72 := L.v72; have u72 := run_underlying L.t72
  have t70 := L.t70; have a70 := L.a70; have z70 := L.z70; have v70 := L.v70; have u70 := run_underlying L.t70
  have t37 := L.t37; have a37 := L.a37; have z37 := L.z37; have v37 := L.v37; have u37 := run_underlying L.t37
  have t127 := L.t127; have a127 := L.a127; have z127 := L.z127; have v127 := L.v127; have u127 := run_underlying L.t127
  have t3 := L.t3; have a3 := L.a3; have z3 := L.z3; have v3 := L.v3; have u3 := run_underlying L.t3
  have t9 := L.t9; have a9 := L.a9; have z9 := L.z9; have v9 := L.v9; have u9 := run_underlying L.t9
  have t5 := X.t5; have a5 := X.a5; have z5 := X.z5; have v5 := X.v5; have u5 := run_underlying X.t5
  go_enter L.f169, Body.n169_ntmps ρ
  go_wp2
  go_region_o
  all_goals (go_wp2; go_ret; exact ⟨rfl, rfl⟩)
set_option maxHeartbeats 2000000 in
set_option maxRecDepth 100000 in
/-- String of one that holds none -/
theorem builderString0 (L : Lays.n169 P ρ) (X : Builder.Extra P ρ) (b : Nat) (bb : Option Nat) (cap : Nat) (p : Value) (w : World) (hbk : w.heap[b]? = some (.cells #[p, .slice (bb.map fun g => ⟨g, 0, none⟩) 0 cap] (ρ.t 72) (0, 0)))
    (hg : ∀ g, bb = some g → ∃ cur, w.heap[g]? = some (.cells cur (ρ.t 5) (0, 0))) (hn : bb = none → cap = 0) :
    Calls P (ρ.f 169) #[.pointer (some ⟨b, 0, none⟩)] w fun e w' => e = .returned (.string ⟨#[]⟩) ∧ (w' = w.drew ∨ ∃ o, w' = (w.alloc o).drew) := by
  have hUS := Any.unsafeString_none L X
  have mixed := L.mixed
  have t72 := L.t72; have a72 := L.a72; have z72 := L.z72; have v72 := L.v72; have u72 := run_underlying L.t72
  have t70 := L.t70; have a70 := L.a70; have z70 := L.z70; have v70 := L.v70; have u70 := run_underlying L.t70
  have t37 := L.t37; have a37 := L.a37; have z37 := L.z37; have v37 := L.v37; have u37 := run_underlying L.t37
  have t127 := L.t127; have a127 := L.a127; have z127 := L.z127; have v127 := L.v127; have u127 := run_underlying L.t127
  have t3 := L.t3; have a3 := L.a3; have z3 := L.z3; have v3 := L.v3; have u3 := run_underlying L.t3
  have t9 := L.t9; have a9 := L.a9; have z9 := L.z9; have v9 := L.v9; have u9 := run_underlying L.t9
  have t5 := X.t5; have a5 := X.a5; have z5 := X.z5; have v5 := X.v5; have u5 := run_underlying X.t5
  cases bb with
  | none =>
    obtain rfl := hn rfl
    simp only [Option.map_none] at hbk
    have c1 : w.drew.cell? ⟨b, 1, none⟩ = some (.slice none 0 0) := by
      have : w.drew.heap[b]? = some (.cells #[p, .slice none 0 0] (ρ.t 72) (0, 0)) := hbk
      rw [Lib.cell_of_heap this]; rfl
    have hSD : (Builtin.unsafeSliceData_ #[(ρ.t 37)] (ρ.t 127) #[.slice none 0 0]).run P w.drew = .ok (.pointer none) w.drew := rfl
    go_enter L.f169, Body.n169_ntmps ρ
    go_wp2
    go_region_o
    all_goals (go_wp2; go_ret; exact ⟨rfl, .inl rfl⟩)
  | some g =>
    obtain ⟨cur, hg⟩ := hg g rfl
    simp only [Option.map_some] at hbk
    by_cases hc0 : cap = 0
    · subst hc0
      have hlt : b < w.heap.size := by
        rcases Nat.lt_or_ge b w.heap.size with h' | h'
        · exact h'
        · simp [Array.getElem?_eq_none h'] at hbk
      have c1 : w.drew.cell? ⟨b, 1, none⟩ = some (.slice (some ⟨g, 0, none⟩) 0 0) := by
        have : w.drew.heap[b]? = some (.cells #[p, .slice (some ⟨g, 0, none⟩) 0 0] (ρ.t 72) (0, 0)) := hbk
        rw [Lib.cell_of_heap this]; rfl
      have hSD : (Builtin.unsafeSliceData_ #[(ρ.t 37)] (ρ.t 127) #[.slice (some ⟨g, 0, none⟩) 0 0]).run P w.drew = .ok (.pointer (some ⟨w.drew.heap.size, 0, none⟩)) (w.drew.alloc (.view ⟨g, 0, none⟩ (ρ.t 5))) :=
        Lib.run_unsafeSliceData_zero w.drew _ _ (ρ.t 5) L.t127 ⟨g, 0, none⟩ 0 ((ρ.t 5), cur.size) (by have hg' : w.drew.heap[g]? = some (.cells cur (ρ.t 5) (0, 0)) := hg; simp [World.shape?, hg'])
      have c2 : (w.drew.alloc (.view ⟨g, 0, none⟩ (ρ.t 5))).cell? ⟨b, 1, none⟩ = some (.slice (some ⟨g, 0, none⟩) 0 0) := by
        have : (w.drew.alloc (.view ⟨g, 0, none⟩ (ρ.t 5))).heap[b]? = _ := (Lib.alloc_old w.drew _ b hlt).trans hbk
        rw [Lib.cell_of_heap this]; rfl
      have c3 : (w.alloc (.view ⟨g, 0, none⟩ (ρ.t 5))).drew.cell? ⟨b, 1, none⟩ = some (.slice (some ⟨g, 0, none⟩) 0 0) := c2
      have c0 : w.cell? ⟨b, 1, none⟩ = some (.slice (some ⟨g, 0, none⟩) 0 0) := c1
      go_enter L.f169, Body.n169_ntmps ρ
      go_wp2
      go_region_o
      all_goals (go_wp2; go_ret; exact ⟨rfl, .inr ⟨_, rfl⟩⟩)
    · have c1 : w.drew.cell? ⟨b, 1, none⟩ = some (.slice (some ⟨g, 0, none⟩) 0 cap) := by
        have : w.drew.heap[b]? = some (.cells #[p, .slice (some ⟨g, 0, none⟩) 0 cap] (ρ.t 72) (0, 0)) := hbk
        rw [Lib.cell_of_heap this]; rfl
      have hSD : (Builtin.unsafeSliceData_ #[(ρ.t 37)] (ρ.t 127) #[.slice (some ⟨g, 0, none⟩) 0 cap]).run P w.drew = .ok (.pointer (some ⟨g, 0, none⟩)) w.drew :=
        Lib.run_unsafeSliceData_row _ _ _ _ _ _ hc0
      clear hc0
      go_enter L.f169, Body.n169_ntmps ρ
      go_wp2
      go_region_o
      all_goals (go_wp2; go_ret; exact ⟨rfl, .inl rfl⟩)
variable [Mo]
/-- an object that is forgotten, and with it what its block held -/
theorem RelS.kill {G : Glob} {B : Base} {w w' : World} {F : Nat → Prop} {loc : Nat → Option Loc} {s : Store} (hS : RelS G B w F loc s) {o : Nat} {l : Loc} (ho : loc o = some l) (hot : ∀ k, k < w.heap.size → l.block ≠ some k → w'.heap[k]? = w.heap[k]?)
    (hsz : w.heap.size ≤ w'.heap.size) (hos : w'.os = w.os) (htp : w'.tape = w.tape) (hout : w'.output = w.output) (hdr : w.drawn ≤ w'.drawn) :
    RelS G B w' F (upd loc o (some .gone)) (upd s o (some none)) ∧ Kept w F w' F := by
  have hk : Kept w F w' F := fun k hF => ⟨hF, hot k (hS.frz k hF).1 (fun e => (hS.own o l k ho e).2.1 hF)⟩
  have hsm : Same loc (upd loc o (some .gone)) := same_kill (some o)
  refine ⟨⟨?_, ?_, ?_, ?_, ?_, hS.fr0, hos.trans hS.os, htp.trans hS.tape, hout.trans hS.output, Nat.le_trans hS.size hsz, ?_, ?_, ?_, fun h => Nat.le_trans (hS.drw h) hdr⟩, hk⟩
  · intro o' obj h'
    by_cases hod : o' = o
    · subst hod; rw [upd_self] at h'; cases h'; exact ⟨.gone, upd_self _ _ _, .gone⟩
    · rw [upd_ne _ _ hod] at h'
      obtain ⟨l', hl', hr⟩ := hS.obs o' obj h'
      exact ⟨l', by rw [upd_ne _ _ hod]; exact hl', hr.mono hk hsm fun b' hb' => hot b' (hS.own o' l' b' hl' hb').1 (fun e => hod (hS.inj o' o l' l b' hl' ho hb' e))⟩
  · intro o' l' hl'
    by_cases hod : o' = o
    · subst hod; exact ⟨_, upd_self _ _ _⟩
    · rw [upd_ne _ _ hod] at hl' ⊢; exact hS.dom o' l' hl'
  · intro o1 o2 l1 l2 b h1 h2 h3 h4
    by_cases hod : o1 = o
    · subst hod; rw [upd_self] at h1; cases h1; cases h3
    · by_cases hod2 : o2 = o
      · subst hod2; rw [upd_self] at h2; cases h2; cases h4
      · rw [upd_ne _ _ hod] at h1; rw [upd_ne _ _ hod2] at h2; exact hS.inj o1 o2 l1 l2 b h1 h2 h3 h4
  · intro o' l' b' h1 h2
    by_cases hod : o' = o
    · subst hod; rw [upd_self] at h1; cases h1; cases h2
    · rw [upd_ne _ _ hod] at h1
      have := hS.own o' l' b' h1 h2
      exact ⟨Nat.lt_of_lt_of_le this.1 hsz, this.2⟩
  · intro b' hb'
    have := hS.frz b' hb'
    exact ⟨Nat.lt_of_lt_of_le this.1 hsz, this.2⟩
  · intro b' hb' hx'
    rw [hot b' (Nat.lt_of_lt_of_le hb' hS.size) ?_]
    · exact hS.keep b' hb' hx'
    · intro e
      rcases (hS.own o l b' ho e).2.2 with h | h
      · exact hx' h
      · omega
  · intro o' l' h'
    by_cases hod : o' = o
    · subst hod; exact .inr (upd_self _ _ _)
    · rw [upd_ne _ _ hod]; exact hS.anc o' l' h'
  · intro g cells hg
    obtain ⟨hF, val, hc, hr⟩ := hS.glob g cells hg
    exact ⟨hF, val, fun j hj => (cell_of_block (w := w) (hk g hF).2).trans (hc j hj), fun j x hj => (hr j x hj).mono hk⟩
/-- a builder's two objects -/
def bldS (tb e : TypeId) (xs : List Int) : XS := [(1000000, some (.bx tb [.sp 1000000, .sl .u 1000001])), (1000001, some (.ar e byteRow xs))]
theorem bld_at {tb e : TypeId} {xs : List Int} {B : Base} {w : World} {F : Nat → Prop} {loc : Nat → Option Loc} (hS : RelS noG B w F loc (encS (bldS tb e xs))) :
    ∃ b g cap p cells, loc 1000000 = some (.blk b) ∧ loc 1000001 = some (.arr g xs.length cap 1) ∧ w.heap[b]? = some (.cells #[p, .slice (g.map fun g => ⟨g, 0, none⟩) xs.length cap] tb (0, 0)) ∧ (p = .pointer none ∨ p = .pointer (some ⟨b, 0, none⟩)) ∧
      w.ownsRow 0 e 1 (.slice (g.map fun b => ⟨b, 0, none⟩) xs.length cap) xs.length cells ∧ (g = none → xs.length = 0 ∧ cap = 0) ∧ cells = xs.map fun n => Value.int .u8 n := by
  have h0 : encS (bldS tb e xs) 1000000 = some (some (.bx tb [.sp 1000000, .sl .u 1000001])) := rfl
  have h1 : encS (bldS tb e xs) 1000001 = some (some (.ar e 1 (xs.map byteRow.en))) := rfl
  obtain ⟨b, cs, hlb, hb, hl, hr⟩ := hS.var (o := 1000000) (by unfold Mc.get; rw [h0])
  obtain ⟨g, cap, cells, hlg, _, hrl, hown, hone, hrow⟩ := hS.row (o := 1000001) (by unfold Mc.get; rw [h1])
  have hml : (xs.map byteRow.en).length = xs.length := List.length_map _
  rw [hml] at hlg hown
  obtain ⟨p, hp, _, rp⟩ := hr 0 _ rfl
  obtain ⟨v, hv, _, rv⟩ := hr 1 _ rfl
  obtain ⟨hv', _, _, hn0⟩ := relV_sl rv hlg
  refine ⟨b, g, cap, p, cells, hlb, hlg, ?_, ?_, hown, hn0, ?_⟩
  · rw [hb]
    congr 2
    apply Array.ext'
    have hl2 : cs.toList.length = 2 := by rw [Array.length_toList]; exact hl.symm
    rw [← Array.getElem?_toList] at hp hv
    match h : cs.toList, hl2, hp, hv with
    | [a, c], _, hp, hv =>
      cases hp; cases hv
      rw [hv']
  · cases rp with
    | gone _ o' _ hx ho => cases hx; rw [hlb] at ho; cases ho
    | sp _ b' ho => rw [hlb] at ho; cases ho; exact .inr rfl
    | spn _ => exact .inl rfl
  · apply List.ext_getElem?
    intro i
    have hcl : cells.length = xs.length := by have := hown.1; omega
    by_cases hi : i < xs.length
    · obtain ⟨u, hu, hrel⟩ := hrow i [.sc (.int .u8 xs[i])] (by
        have e : (xs.map fun n : Int => [T.sc (.int .u8 n)])[i]? = some [T.sc (.int .u8 xs[i])] := by rw [List.getElem?_map, List.getElem?_eq_getElem hi]; rfl
        exact e) 0 (.sc (.int .u8 xs[i])) rfl
      rw [Nat.mul_one, Nat.add_zero] at hu
      rw [hu, List.getElem?_map, List.getElem?_eq_getElem hi]
      cases hrel; rfl
    · rw [List.getElem?_eq_none (by omega), List.getElem?_eq_none (by rw [List.length_map]; omega)]
/-- copyCheck: nothing that is known turns -/
theorem CTx.copyCheck {f : FuncId} {tb : TypeId}
    (hfresh : ∀ b w, w.cell? ⟨b, 0, none⟩ = some (.pointer none) → w.shape? b = some (tb, 2) → w.frozen? ⟨b, 0, none⟩ = false → Calls P f #[.pointer (some ⟨b, 0, none⟩)] w fun e w' => e = .returned (.tuple #[]) ∧ w' = w.setCell ⟨b, 0, none⟩ (.pointer (some ⟨b, 0, none⟩)))
    (hused : ∀ b w, w.cell? ⟨b, 0, none⟩ = some (.pointer (some ⟨b, 0, none⟩)) → Calls P f #[.pointer (some ⟨b, 0, none⟩)] w fun e w' => e = .returned (.tuple #[]) ∧ w' = w)
    (e : TypeId) (xs : List Int) : CTx P f [.pt 1000000 0] (bldS tb e xs) (.tp []) (bldS tb e xs) := by
  intro F loc w args hn hS hA
  obtain ⟨b, g, cap, p, cells, hlb, hlg, hb, hp, hown, hn0, hcells⟩ := bld_at hS
  obtain ⟨v0, hv0, r0⟩ := hA.2 0 _ rfl
  have hv0' := relV_pt r0 hlb
  have hargs : args = [.pointer (some ⟨b, 0, none⟩)] := by
    have hlen := hA.1
    match args, hlen, hv0 with
    | [a], _, hv0 => cases hv0; rw [hv0']
  subst hargs
  have hu : ∀ w', RelV w' F loc vU (.tuple #[]) := fun w' => .tp [] [] (fun _ => .nilIface) rfl (fun j hj => absurd hj (by simp)) (fun j x hj => by simp at hj)
  rcases hp with rfl | rfl
  · refine (hfresh b w (by rw [Lib.cell_of_heap hb]; rfl) (by simp [World.shape?, hb]) (by simp [World.frozen?, hb])).mono ?_
    rintro e' w' ⟨rfl, rfl⟩
    have h0 : encS (bldS tb e xs) 1000000 = some (some (.bx tb [.sp 1000000, .sl .u 1000001])) := rfl
    obtain ⟨b', cs, hlb', hb', hl, hr⟩ := hS.var (o := 1000000) (by unfold Mc.get; rw [h0])
    rw [hlb] at hlb'; cases hlb'
    have hot : ∀ k, k ≠ b → (w.setCell ⟨b, 0, none⟩ (.pointer (some ⟨b, 0, none⟩))).heap[k]? = w.heap[k]? := fun k hk => by
      simp only [World.setCell, Array.getElem?_modify]
      rw [if_neg (Ne.symm hk)]
    have hnew : (w.setCell ⟨b, 0, none⟩ (.pointer (some ⟨b, 0, none⟩))).heap[b]? = some (.cells #[.pointer (some ⟨b, 0, none⟩), .slice (g.map fun g => ⟨g, 0, none⟩) xs.length cap] tb (0, 0)) := by
      simp only [World.setCell, Array.getElem?_modify, if_true, hb, Option.map_some]
      rfl
    have hbn := hS.own 1000000 _ b hlb rfl
    have hk : Kept w F (w.setCell ⟨b, 0, none⟩ (.pointer (some ⟨b, 0, none⟩))) F := fun k hF => ⟨hF, hot k (fun e => hbn.2.1 (e ▸ hF))⟩
    obtain ⟨h1, _⟩ := hS.turn (w' := w.setCell ⟨b, 0, none⟩ (.pointer (some ⟨b, 0, none⟩))) (x := .bx tb [.sp 1000000, .sl .u 1000001]) hlb rfl (by simp [World.setCell]) rfl rfl rfl hot
      (.bx _ _ _ b hnew rfl fun j x hj => by
        match j, hj with
        | 0, hj => cases hj; exact ⟨_, rfl, rfl, .sp _ b hlb⟩
        | 1, hj =>
          cases hj
          obtain ⟨v, hv, h1c, rv⟩ := hr 1 _ rfl
          rw [hb] at hb'
          cases hb'
          cases hv
          exact ⟨_, rfl, h1c, rv.mono hk (Same.refl _)⟩
        | j + 2, hj => simp at hj)
    have hst : upd (encS (bldS tb e xs)) 1000000 (some (some (.bx tb [.sp 1000000, .sl .u 1000001]))) = encS (bldS tb e xs) := by
      funext k
      by_cases hk : k = 1000000
      · subst hk; rw [upd_self]; rfl
      · rw [upd_ne _ _ hk]
    rw [hst] at h1
    exact ⟨_, F, loc, vU, _, rfl, h1, hu _, rfl, rfl⟩
  · refine (hused b w (by rw [Lib.cell_of_heap hb]; rfl)).mono ?_
    rintro e' w' ⟨rfl, rfl⟩
    exact ⟨_, F, loc, vU, _, rfl, hS, hu _, rfl, rfl⟩
/-- are they bytes? -/
def byteB (xs : List Int) : Bool := xs.all fun n => decide (0 ≤ n) && decide (n < 256)
omit [Mo] in
theorem byteB_cells {xs : List Int} (h : byteB xs = true) : (xs.map fun n => Value.int .u8 n) = Lib.byteCells (xs.map fun n => UInt8.ofNat n.toNat) := by
  unfold Lib.byteCells
  rw [List.map_map]
  refine List.map_congr_left fun n hn => ?_
  have := List.all_eq_true.1 h n hn
  simp only [Bool.and_eq_true, decide_eq_true_eq] at this
  simp only [Function.comp_apply, UInt8.toNat_ofNat']
  congr 1
  omega
/-- String: its bytes; the builder is gone -/
theorem CTx.builderStr (L : Lays.n169 P ρ) (X : Builder.Extra P ρ) {xs : List Int} (hby : byteB xs = true) : CTx P (ρ.f 169) [.pt 1000000 0] (bldS (ρ.t 72) (ρ.t 5) xs) (.s (strOfNums xs)) [(1000000, none), (1000001, none)] := by
  intro F loc w args hn hS hA
  obtain ⟨b, g, cap, p, cells, hlb, hlg, hb, hp, hown, hn0, hcells⟩ := bld_at hS
  obtain ⟨v0, hv0, r0⟩ := hA.2 0 _ rfl
  have hv0' := relV_pt r0 hlb
  have hargs : args = [.pointer (some ⟨b, 0, none⟩)] := by
    have hlen := hA.1
    match args, hlen, hv0 with
    | [a], _, hv0 => cases hv0; rw [hv0']
  subst hargs
  have done : ∀ w', (∀ k, k < w.heap.size → g ≠ some k → w'.heap[k]? = w.heap[k]?) → w.heap.size ≤ w'.heap.size → w'.os = w.os → w'.tape = w.tape → w'.output = w.output → w.drawn ≤ w'.drawn →
      ∃ v F' loc' r s', Ending.returned (.string (strOfNums xs)) = .returned v ∧ RelS noG (baseOf loc w F hn) w' F' loc' s' ∧ RelV w' F' loc' r v ∧ r = (Mc.X.s (strOfNums xs)).enc ∧ s' = encS [(1000000, none), (1000001, none)] := by
    intro w' hot hsz hos htp hout hdr
    obtain ⟨h1, _⟩ := hS.kill (w' := w') hlg (fun k hk hne => hot k hk hne) hsz hos htp hout hdr
    have hlb' : upd loc 1000001 (some .gone) 1000000 = some (.blk b) := (upd_ne _ _ (by decide)).trans hlb
    obtain ⟨h2, _⟩ := h1.kill (w' := w') hlb' (fun _ _ _ => rfl) (Nat.le_refl _) rfl rfl rfl (Nat.le_refl _)
    refine ⟨_, F, _, _, _, rfl, h2, .t _ _ (.sc _ rfl), rfl, ?_⟩
    funext k
    by_cases hk : k = 1000000
    · subst hk; rw [upd_self]; rfl
    · rw [upd_ne _ _ hk]
      by_cases hk2 : k = 1000001
      · subst hk2; rw [upd_self]; rfl
      · rw [upd_ne _ _ hk2]
        have b1 : Nat.beq 1000000 k = false := by rw [← Bool.not_eq_true, Nat.beq_eq]; exact Ne.symm hk
        have b2 : Nat.beq 1000001 k = false := by rw [← Bool.not_eq_true, Nat.beq_eq]; exact Ne.symm hk2
        simp only [bldS, encS, lk, b1, b2, cond_false]
  by_cases h0 : xs = []
  · subst h0
    refine (builderString0 L X b g cap p w hb (fun g' hg' => ?_) (fun h => (hn0 h).2)).mono ?_
    · subst hg'
      rcases hown.2 with ⟨h, _⟩ | ⟨g2, cap', cur, hv, _, h2, _⟩
      · cases h
      · cases hv; exact ⟨cur, h2⟩
    · rintro e' w' ⟨rfl, h | ⟨o, h⟩⟩
      · subst h
        exact done w.drew (fun _ _ _ => rfl) (Nat.le_refl _) rfl rfl rfl (Nat.le_succ _)
      · subst h
        exact done (w.alloc o).drew (fun k hk _ => heap_alloc_old w o hk) (by simp) rfl rfl rfl (Nat.le_succ _)
  · have hlen0 : 0 < xs.length := List.length_pos_iff.2 h0
    obtain ⟨g0, rfl⟩ : ∃ g0, g = some g0 := by
      cases g with
      | none => have := (hn0 rfl).1; omega
      | some g0 => exact ⟨g0, rfl⟩
    obtain ⟨cur, hg, hnc, hcm, hcs, htake⟩ : ∃ cur, w.heap[g0]? = some (.cells cur (ρ.t 5) (0, 0)) ∧ xs.length ≤ cap ∧ cap ≤ maxLen ∧ cur.size = cap * 1 ∧ cur.toList.take (xs.length * 1) = cells := by
      rcases hown.2 with ⟨h, _⟩ | ⟨g', cap', cur, hv, _, h2, h3, h4, h5, h6⟩
      · cases h
      · cases hv; exact ⟨cur, h2, h3, h4, h5, h6⟩
    have hll : (xs.map fun n => UInt8.ofNat n.toNat).length = xs.length := List.length_map _
    refine (builderString L X b g0 cap p cur (xs.map fun n => UInt8.ofNat n.toNat) w (by rw [hll]; exact hb) hg (by rw [hll]; exact hnc) hcm (by omega) (by rw [hll, ← byteB_cells hby, ← hcells, ← htake, Nat.mul_one]) (by simpa using h0)).mono ?_
    rintro e' w' ⟨rfl, rfl⟩
    have hfr : ∀ n, n ≠ 0 → ∀ k, k ≠ g0 → (w.drew.freeze ⟨g0, 0, none⟩ n).heap[k]? = w.heap[k]? := by
      intro n hn k hk
      unfold World.freeze
      rw [if_neg hn]
      simp only [Array.getElem?_modify]
      rw [if_neg (Ne.symm hk)]
      rfl
    have hne : xs.length ≠ 0 := by omega
    rw [hll]
    refine done _ (fun k _ hk => hfr _ hne k (fun e => hk (by rw [e]))) ?_ ?_ ?_ ?_ ?_ <;> (unfold World.freeze; rw [if_neg hne]) <;> first | rfl | exact Nat.le_succ _ | simp
end Go.Proofs.YtnpgfcedmdnemaaDoor.Mc

/- THE MACHINE (64): maps with texts as keys: what the model's runs do to their entries, as a list in order. -/
namespace Go.Proofs.YtnpgfcedmdnemaaDoor.Mc
open Go.RowKit
open Go.MapKept (Stamped IsKey stamped_push stamped_modify stamped_erase)

/-! lists by key -/
def mget {α : Type} : List (ByteArray × α) → ByteArray → Option α
  | [], _ => none
  | x :: l, k => cond (x.1.toList == k.toList) (some x.2) (mget l k)
def mset {α : Type} : List (ByteArray × α) → ByteArray → α → List (ByteArray × α)
  | [], k, a => [(k, a)]
  | x :: l, k, a => cond (x.1.toList == k.toList) ((k, a) :: l) (x :: mset l k a)
def mdel {α : Type} : List (ByteArray × α) → ByteArray → List (ByteArray × α)
  | [], _ => []
  | x :: l, k => cond (x.1.toList == k.toList) l (x :: mdel l k)
theorem baEq {a b : ByteArray} (h : a.toList = b.toList) : a = b := by
  apply ByteArray.ext; apply Array.ext'
  rwa [ByteArray.toList_eq, ByteArray.toList_eq] at h
theorem key_beq (a b : ByteArray) : (a.toList == b.toList) = true ↔ a = b := by
  rw [beq_iff_eq]
  exact ⟨baEq, fun h => by rw [h]⟩
theorem Ents.keys {es : Array MapEntry} {xs : List (ByteArray × Value)} (h : Ents es xs) : ∀ x ∈ es.toList, IsKey .string x.key := by
  intro x hx
  have : (x.key, x.val) ∈ xs.map fun p => (Value.string p.1, p.2) := by rw [← h]; exact List.mem_map.2 ⟨x, hx, rfl⟩
  obtain ⟨p, _, hp⟩ := List.mem_map.1 this
  rw [← (Prod.mk.inj hp).1]
  trivial
theorem Ents.size {es : Array MapEntry} {xs : List (ByteArray × Value)} (h : Ents es xs) : es.size = xs.length := by
  have := congrArg List.length h
  simpa using this
/-- what is found -/
theorem find_at {k : ByteArray} : ∀ (l : List MapEntry) (xs : List (ByteArray × Value)) (i : Nat), l.map (fun e => (e.key, e.val)) = xs.map (fun p => (Value.string p.1, p.2)) →
    (Instr.findNow .string (.string k) l i = some none ∧ mget xs k = none ∧ (∀ x ∈ l, x.key ≠ .string k) ∧ (∀ v, mset xs k v = xs ++ [(k, v)]) ∧ mdel xs k = xs) ∨
    ∃ j e, Instr.findNow .string (.string k) l i = some (some (i + j, e.val)) ∧ l[j]? = some e ∧ e.key = .string k ∧ mget xs k = some e.val ∧ (∀ v, mset xs k v = xs.set j (k, v)) ∧ mdel xs k = xs.eraseIdx j
  | [], xs, i, h => by
    cases xs with
    | cons x xs => cases h
    | nil => exact .inl ⟨rfl, rfl, by simp, fun v => rfl, rfl⟩
  | e :: l, xs, i, h => by
    cases xs with
    | nil => cases h
    | cons x xs =>
      rw [List.map_cons, List.map_cons] at h
      obtain ⟨h1, h2⟩ := List.cons.inj h
      obtain ⟨hk, hv⟩ := Prod.mk.inj h1
      by_cases hx : x.1 = k
      · refine .inr ⟨0, e, ?_, rfl, by rw [hk, hx], ?_, fun v => ?_, ?_⟩
        · have : (k == x.1) = true := (Go.MapKept.bytes_beq k x.1).2 hx.symm
          simp [Instr.findNow, Instr.sameNow, hk, this]
        · unfold mget; rw [(key_beq _ _).2 hx, cond_true, hv]
        · unfold mset; rw [(key_beq _ _).2 hx, cond_true]; rfl
        · unfold mdel; rw [(key_beq _ _).2 hx, cond_true]; rfl
      · have hb : (x.1.toList == k.toList) = false := by rw [← Bool.not_eq_true]; exact fun hh => hx ((key_beq _ _).1 hh)
        have hn : (k == x.1) = false := by rw [← Bool.not_eq_true]; exact fun hh => hx ((Go.MapKept.bytes_beq k x.1).1 hh).symm
        have hf : Instr.findNow .string (.string k) (e :: l) i = Instr.findNow .string (.string k) l (i + 1) := by simp [Instr.findNow, Instr.sameNow, hk, hn]
        rcases find_at l xs (i + 1) h2 with ⟨a1, a2, a3, a4, a5⟩ | ⟨j, f, a1, a2, a3, a4, a5, a6⟩
        · refine .inl ⟨by rw [hf, a1], ?_, ?_, fun v => ?_, ?_⟩
          · unfold mget; rw [hb, cond_false, a2]
          · intro y hy
            rcases List.mem_cons.1 hy with rfl | hy
            · rw [hk]; exact fun hh => hx (Value.string.inj hh)
            · exact a3 y hy
          · unfold mset; rw [hb, cond_false, a4]; rfl
          · unfold mdel; rw [hb, cond_false, a5]
        · refine .inr ⟨j + 1, f, by rw [hf, a1]; congr 3; omega, by simpa using a2, a3, ?_, fun v => ?_, ?_⟩
          · unfold mget; rw [hb, cond_false, a4]
          · unfold mset; rw [hb, cond_false, a5]; rfl
          · unfold mdel; rw [hb, cond_false, a6]; rfl
variable {P : Program} {w : World} {mty kt et : TypeId} {r : Nat} {es : Array MapEntry} {clock : Nat} {xs : List (ByteArray × Value)}
theorem map_update_run (hm : P.underlying mty = some (.map kt et)) (hd : P.underlying kt = some .string) (hb : w.heap[r]? = some (.map es clock)) (hs : Stamped es clock) (he : Ents es xs) (k : ByteArray) (v : Value) :
    ∃ es' clock', (Instr.mapUpdate mty (.map (some r)) (.string k) v).run P w = .ok () { w with heap := w.heap.setIfInBounds r (.map es' clock') } ∧ Stamped es' clock' ∧ Ents es' (mset xs k v) := by
  have hk : IsKey .string (.string k) := trivial
  have hg := Go.MapKept.run_getObj_map (P := P) hb
  have hst := fun o => Go.MapKept.run_setObj_map (P := P) o hb
  have hck := fun e n => Go.MapKept.run_checkKey (w := w) hd hk e n
  rcases find_at (k := k) es.toList xs 0 he with ⟨a1, _, a3, a4, _⟩ | ⟨j, f, a1, a2, a3, _, a5, _⟩
  · have hf := Go.MapKept.run_findKey (w := w) hd a1
    refine ⟨_, _, by simp [Instr.mapUpdate, run_underlying hm, hg, hck, hf, hst, Result.andThen]; rfl, stamped_push hs a3, ?_⟩
    unfold Ents at he ⊢
    rw [a4, Array.toList_push, List.map_append, he, List.map_append]; rfl
  · have hf := Go.MapKept.run_findKey (w := w) hd a1
    have hj : es[j]? = some f := by simpa using a2
    refine ⟨es.modify j (fun e => { e with key := .string k, val := v }), clock, ?_, stamped_modify hs _ _ (fun _ _ => rfl) (fun e' _ he' => by rw [hj] at he'; cases he'; exact a3.symm), ?_⟩
    · simp [Instr.mapUpdate, run_underlying hm, hg, hck, hf, hj, a3, Go.MapKept.run_keyThatStays (P := P) (w := w) hk, hst, Result.andThen]
    · unfold Ents at he ⊢
      rw [a5]
      apply List.ext_getElem?
      intro i
      have hi := congrArg (fun l => l[i]?) he
      simp only [List.getElem?_map, Array.getElem?_toList, Array.getElem?_modify, List.getElem?_set] at hi ⊢
      by_cases hij : j = i
      · subst hij
        rw [if_pos rfl, if_pos rfl]
        have hlt : j < xs.length := by
          have h1 := (Array.getElem?_eq_some_iff.1 hj).1
          have h2 := he
          have := congrArg List.length h2
          simp at this
          omega
        rw [hj, if_pos hlt]; rfl
      · rw [if_neg hij, if_neg hij]; exact hi
theorem map_delete_run (ty : TypeId) (hm : P.underlying mty = some (.map kt et)) (hd : P.underlying kt = some .string) (hb : w.heap[r]? = some (.map es clock)) (hs : Stamped es clock) (he : Ents es xs) (k : ByteArray) :
    ∃ es' clock', (Builtin.delete_ #[mty, kt] ty #[.map (some r), .string k]).run P w = .ok (.tuple #[]) { w with heap := w.heap.setIfInBounds r (.map es' clock') } ∧ Stamped es' clock' ∧ Ents es' (mdel xs k) := by
  have hk : IsKey .string (.string k) := trivial
  have hg := Go.MapKept.run_getObj_map (P := P) hb
  have hst := fun o => Go.MapKept.run_setObj_map (P := P) o hb
  have hck := fun e n => Go.MapKept.run_checkKey (w := w) hd hk e n
  rcases find_at (k := k) es.toList xs 0 he with ⟨a1, _, a3, _, a5⟩ | ⟨j, f, a1, a2, a3, _, _, a6⟩
  · have hf := Go.MapKept.run_findKey (w := w) hd a1
    refine ⟨es, clock, by simp [Builtin.delete_, run_underlying hm, hg, hck, hf, hst, Result.andThen], hs, by rw [a5]; exact he⟩
  · have hf := Go.MapKept.run_findKey (w := w) hd a1
    have hj : es[j]? = some f := by simpa using a2
    have hlt := (Array.getElem?_eq_some_iff.1 hj).1
    refine ⟨es.eraseIdxIfInBounds j, clock, by simp [Builtin.delete_, run_underlying hm, hg, hck, hf, hst, Result.andThen], stamped_erase hs _, ?_⟩
    unfold Ents at he ⊢
    unfold Array.eraseIdxIfInBounds
    rw [dif_pos hlt, a6, Array.toList_eraseIdx]
    have em : ∀ {α β : Type} (g : α → β) (l : List α) (i : Nat), (l.eraseIdx i).map g = (l.map g).eraseIdx i := by
      intro α β g l
      induction l with
      | nil => intro i; rfl
      | cons x l ih => intro i; cases i with
        | zero => rfl
        | succ i => simp only [List.eraseIdx_cons_succ, List.map_cons, ih]
    rw [em, em, he]
theorem map_lookup_run (c : Bool) (hm : P.underlying mty = some (.map kt et)) (hd : P.underlying kt = some .string) {z : Value} (hz : (zeroValue et).run P w = .ok z w) (hb : w.heap[r]? = some (.map es clock)) (he : Ents es xs) (k : ByteArray) :
    (Instr.lookup mty (.map (some r)) (.string k) c).run P w = .ok (if c then .tuple #[(mget xs k).getD z, .bool (mget xs k).isSome] else (mget xs k).getD z) w := by
  have hk : IsKey .string (.string k) := trivial
  have hg := Go.MapKept.run_getObj_map (P := P) hb
  have hst := fun o => Go.MapKept.run_setObj_map (P := P) o hb
  have hck := fun e n => Go.MapKept.run_checkKey (w := w) hd hk e n
  rcases find_at (k := k) es.toList xs 0 he with ⟨a1, a2, _⟩ | ⟨j, f, a1, _, _, a4, _⟩
  · have hf := Go.MapKept.run_findKey (w := w) hd a1
    rw [a2]
    cases c <;> simp [Instr.lookup, run_underlying hm, hg, hck, hf, hz, Result.andThen]
  · have hf := Go.MapKept.run_findKey (w := w) hd a1
    rw [a4]
    cases c <;> simp [Instr.lookup, run_underlying hm, hg, hck, hf, Result.andThen]
/-! rows in place of values -/
def Alike (w : World) (F : Nat → Prop) (ag : Bool) (es : List (ByteArray × List T)) (vs : List (ByteArray × Value)) : Prop :=
  vs.length = es.length ∧ ∀ (i : Nat) (k : ByteArray) (r : List T), es[i]? = some (k, r) → ∃ v, vs[i]? = some (k, v) ∧ MapV w F ag r v
theorem Alike.cons {w : World} {F : Nat → Prop} {ag : Bool} {es : List (ByteArray × List T)} {vs : List (ByteArray × Value)} {k : ByteArray} {r : List T} {v : Value} (h : Alike w F ag es vs) (hv : MapV w F ag r v) : Alike w F ag ((k, r) :: es) ((k, v) :: vs) := by
  refine ⟨by simp [h.1], fun i k' r' hi => ?_⟩
  cases i with
  | zero => cases hi; exact ⟨v, rfl, hv⟩
  | succ i => exact h.2 i k' r' (by simpa using hi)
theorem Alike.split {w : World} {F : Nat → Prop} {ag : Bool} {x : ByteArray × List T} {es : List (ByteArray × List T)} {vs : List (ByteArray × Value)} (h : Alike w F ag (x :: es) vs) : ∃ v vs', vs = (x.1, v) :: vs' ∧ MapV w F ag x.2 v ∧ Alike w F ag es vs' := by
  cases vs with
  | nil => simp [Alike] at h
  | cons y vs' =>
    obtain ⟨v, h1, h2⟩ := h.2 0 x.1 x.2 rfl
    cases h1
    exact ⟨v, vs', rfl, h2, by have := h.1; simpa using this, fun i k r hi => h.2 (i + 1) k r (by simpa using hi)⟩
theorem Alike.nil {w : World} {F : Nat → Prop} {ag : Bool} : Alike w F ag [] [] := ⟨rfl, fun i k r h => by simp at h⟩
theorem Alike.set {w : World} {F : Nat → Prop} {ag : Bool} {k : ByteArray} {r : List T} {v : Value} (hv : MapV w F ag r v) : ∀ {es : List (ByteArray × List T)} {vs : List (ByteArray × Value)}, Alike w F ag es vs → Alike w F ag (mset es k r) (mset vs k v)
  | [], vs, h => by
    have : vs = [] := by have := h.1; simpa using this
    subst this
    exact Alike.nil.cons hv
  | x :: es, vs, h => by
    obtain ⟨u, vs', rfl, h2, h3⟩ := h.split
    unfold mset
    dsimp only
    cases x.1.toList == k.toList with
    | true => exact h3.cons hv
    | false => exact (Alike.set hv h3).cons h2
theorem Alike.del {w : World} {F : Nat → Prop} {ag : Bool} {k : ByteArray} : ∀ {es : List (ByteArray × List T)} {vs : List (ByteArray × Value)}, Alike w F ag es vs → Alike w F ag (mdel es k) (mdel vs k)
  | [], vs, h => by
    have : vs = [] := by have := h.1; simpa using this
    subst this
    exact Alike.nil
  | x :: es, vs, h => by
    obtain ⟨u, vs', rfl, h2, h3⟩ := h.split
    unfold mdel
    dsimp only
    cases x.1.toList == k.toList with
    | true => exact h3
    | false => exact (Alike.del h3).cons h2
theorem Alike.get {w : World} {F : Nat → Prop} {ag : Bool} {k : ByteArray} : ∀ {es : List (ByteArray × List T)} {vs : List (ByteArray × Value)}, Alike w F ag es vs → (mget es k = none ∧ mget vs k = none) ∨ ∃ r v, mget es k = some r ∧ mget vs k = some v ∧ MapV w F ag r v
  | [], vs, h => by
    have : vs = [] := by have := h.1; simpa using this
    subst this
    exact .inl ⟨rfl, rfl⟩
  | x :: es, vs, h => by
    obtain ⟨u, vs', rfl, h2, h3⟩ := h.split
    unfold mget
    dsimp only
    cases x.1.toList == k.toList with
    | true => exact .inr ⟨x.2, u, rfl, rfl, h2⟩
    | false => exact Alike.get h3
end Go.Proofs.YtnpgfcedmdnemaaDoor.Mc

/- THE MACHINE (65): owned maps in a store: set, delete, look up, make. -/
namespace Go.Proofs.YtnpgfcedmdnemaaDoor.Mc
open Go.RowKit
variable [Mo]
variable {P : Program} {G : Glob} {B : Base} {w : World} {F : Nat → Prop} {loc : Nat → Option Loc} {s : Store}
theorem RelS.mapSet {o b : Nat} {ag : Bool} {es : List (ByteArray × List T)} (hS : RelS G B w F loc s) (hl : loc o = some (.blk b)) (ho : s o = some (some (.mp ag es))) {mty kt et : TypeId} (hm : P.underlying mty = some (.map kt et)) (hd : P.underlying kt = some .string) (k : ByteArray) {r : List T} {v : Value} (hv : MapV w F ag r v) :
    ∃ w', (Instr.mapUpdate mty (.map (some b)) (.string k) v).run P w = .ok () w' ∧ RelS G B w' F loc (upd s o (some (some (.mp ag (mset es k r))))) ∧ Kept w F w' F := by
  obtain ⟨l, hl2, hrel⟩ := hS.obs o _ ho
  rw [hl] at hl2
  cases hl2
  cases hrel with
  | mp ag es b en clock vs hb hst he hlen hr =>
    obtain ⟨es', clock', h1, h2, h3⟩ := map_update_run hm hd hb hst he k v
    have ha : Alike w F ag (mset es k r) (mset vs k v) := Alike.set hv ⟨hlen, hr⟩
    have hset := Go.MapKept.heap_set (o' := .map es' clock') hb
    have hk : Kept w F { w with heap := w.heap.setIfInBounds b (.map es' clock') } F := fun q hF => ⟨hF, hset.2 q (fun e => (hS.own o _ b hl rfl).2.1 (e ▸ hF))⟩
    obtain ⟨t1, t2⟩ := hS.turn (w' := { w with heap := w.heap.setIfInBounds b (.map es' clock') }) (x := .mp ag (mset es k r)) hl rfl (by simp) rfl rfl rfl hset.2
      (.mp ag _ b es' clock' (mset vs k v) hset.1 h2 h3 ha.1 fun i k' r' hi => by
        obtain ⟨u, u1, u2⟩ := ha.2 i k' r' hi
        exact ⟨u, u1, u2.mono hk⟩)
    exact ⟨_, h1, t1, t2⟩
theorem RelS.mapDel {o b : Nat} {ag : Bool} {es : List (ByteArray × List T)} (hS : RelS G B w F loc s) (hl : loc o = some (.blk b)) (ho : s o = some (some (.mp ag es))) {mty kt et : TypeId} (ty : TypeId) (hm : P.underlying mty = some (.map kt et)) (hd : P.underlying kt = some .string) (k : ByteArray) :
    ∃ w', (Builtin.delete_ #[mty, kt] ty #[.map (some b), .string k]).run P w = .ok (.tuple #[]) w' ∧ RelS G B w' F loc (upd s o (some (some (.mp ag (mdel es k))))) ∧ Kept w F w' F := by
  obtain ⟨l, hl2, hrel⟩ := hS.obs o _ ho
  rw [hl] at hl2
  cases hl2
  cases hrel with
  | mp ag es b en clock vs hb hst he hlen hr =>
    obtain ⟨es', clock', h1, h2, h3⟩ := map_delete_run ty hm hd hb hst he k
    have ha : Alike w F ag (mdel es k) (mdel vs k) := Alike.del ⟨hlen, hr⟩
    have hset := Go.MapKept.heap_set (o' := .map es' clock') hb
    have hk : Kept w F { w with heap := w.heap.setIfInBounds b (.map es' clock') } F := fun q hF => ⟨hF, hset.2 q (fun e => (hS.own o _ b hl rfl).2.1 (e ▸ hF))⟩
    obtain ⟨t1, t2⟩ := hS.turn (w' := { w with heap := w.heap.setIfInBounds b (.map es' clock') }) (x := .mp ag (mdel es k)) hl rfl (by simp) rfl rfl rfl hset.2
      (.mp ag _ b es' clock' (mdel vs k) hset.1 h2 h3 ha.1 fun i k' r' hi => by
        obtain ⟨u, u1, u2⟩ := ha.2 i k' r' hi
        exact ⟨u, u1, u2.mono hk⟩)
    exact ⟨_, h1, t1, t2⟩
/-- what is looked up -/
theorem RelS.mapGet {o b : Nat} {ag : Bool} {es : List (ByteArray × List T)} (hS : RelS G B w F loc s) (hl : loc o = some (.blk b)) (ho : s o = some (some (.mp ag es))) {mty kt et : TypeId} (c : Bool) (hm : P.underlying mty = some (.map kt et)) (hd : P.underlying kt = some .string) {z : Value} (hz : (zeroValue et).run P w = .ok z w) {zr : List T} (hzr : MapV w F ag zr z) (k : ByteArray) :
    ∃ v, (Instr.lookup mty (.map (some b)) (.string k) c).run P w = .ok (if c then .tuple #[v, .bool (mget es k).isSome] else v) w ∧ MapV w F ag ((mget es k).getD zr) v := by
  obtain ⟨l, hl2, hrel⟩ := hS.obs o _ ho
  rw [hl] at hl2
  cases hl2
  cases hrel with
  | mp ag es b en clock vs hb hst he hlen hr =>
    have hrun := map_lookup_run c hm hd hz hb he k
    rcases Alike.get (k := k) (⟨hlen, hr⟩ : Alike w F ag es vs) with ⟨g1, g2⟩ | ⟨r, v, g1, g2, g3⟩
    · rw [g2] at hrun
      rw [g1]
      exact ⟨z, hrun, hzr⟩
    · rw [g2] at hrun
      rw [g1]
      exact ⟨v, hrun, g3⟩
omit [Mo] in
/-- a new map -/
theorem map_new_run (t : TypeId) : (Instr.makeMap t none).run P w = .ok (.map (some w.heap.size)) (w.alloc (.map #[] 0)) := rfl
omit [Mo] in
theorem relO_newMap (ag : Bool) {loc' : Nat → Option Loc} : RelO (w.alloc (.map #[] 0)) F loc' (some (.mp ag [])) (.blk w.heap.size) :=
  .mp ag [] w.heap.size #[] 0 [] (Go.MapKept.heap_alloc w _).1 (Go.MapKept.stamped_empty 0) rfl rfl fun i k r h => by simp at h
theorem RelS.mapNew {d : Nat} (hS : RelS G B w F loc s) (hd : s d = none) (ag : Bool) :
    RelS G B (w.alloc (.map #[] 0)) F (upd loc d (some (.blk w.heap.size))) (upd s d (some (some (.mp ag [])))) :=
  hS.alloc hd (relO_newMap ag)
end Go.Proofs.YtnpgfcedmdnemaaDoor.Mc
