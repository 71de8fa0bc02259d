/- The machine: abstract values and stores, and the laws by which a walk goes through code. Its parts in order. -/
import Derived.Test.YtobfoiomjfdjjaaDoorMc1
import Derived.Lib.DecodeN
import Derived.Orders
import Derived.ChangeKeysEq
import Derived.ChangeArms
import Derived.ChangeStays
import Derived.ChangeBook
import Derived.ChangeOld
import Derived.Below
set_option linter.unusedVariables false
set_option linter.unusedSimpArgs false
set_option linter.constructorNameAsVariable false
/- THE MACHINE (23): many operations in one step; places in a region. -/
namespace Go.Proofs.YtobfoiomjfdjjaaDoor.Mc
open Go.RowKit
variable [Mo]
variable {P : Program} {G : Glob} {D : Dec}

/-- one operation: what it computes, a new variable, a store -/
def step1 (D : Dec) (G : Glob) (ops : Array Oper) (o : Oper) (st : St) : Option St :=
  match want ops o st, fits st o.dst with
  | some false, true => some (st.put o.dst vU st.s)
  | some true, true =>
    match o.op, o.dst with
    | .store t p x, _ => match storeV D st.s t (ev G st.t p) (ev G st.t x) with
      | some s' => some (st.put o.dst vU s')
      | none => none
    | .box t x, some d => match coreBox (.box t x) (ev G st.t) st.s d D with
      | some (v, s') => some (st.put o.dst v s')
      | none => none
    | .alloc t, some d => match coreBox (.alloc t) (ev G st.t) st.s d D with
      | some (v, s') => some (st.put o.dst v s')
      | none => none
    | op, _ => match coreV D op (ev G st.t) st.s with
      | some v => some (st.put o.dst v st.s)
      | none => none
  | _, _ => none

theorem TrOps.step1 (hg : Good P D) {ops : Array Oper} {o : Oper} {l : List Oper} {st st' : St} {Q : Exit → St → Prop} (h : Mc.step1 D G ops o st = some st') (k : TrOps P G ops l st' Q) : TrOps P G ops (o :: l) st Q := by
  unfold Mc.step1 at h
  split at h
  · rename_i hw hf
    cases h
    exact TrOps.skipped hw hf k
  · rename_i hw hf
    split at h
    · rename_i t p x hop
      split at h
      · rename_i s' hs
        cases h
        exact TrOps.op hw hf (store_ok hg hop hs) k
      · cases h
    · rename_i t x d hop hdst
      split at h
      · rename_i v s' hs
        cases h
        exact TrOps.op hw hf (coreBox_ok (d := d) hg (by rw [hop]; exact hs)) k
      · cases h
    · rename_i t d hop hdst
      split at h
      · rename_i v s' hs
        cases h
        exact TrOps.op hw hf (coreBox_ok (d := d) hg (by rw [hop]; exact hs)) k
      · cases h
    · split at h
      · rename_i v hs
        cases h
        exact TrOps.op hw hf (coreV_ok hg hs) k
      · cases h
  · cases h

def steps (D : Dec) (G : Glob) (ops : Array Oper) : List Oper → St → Option St
  | [], st => some st
  | o :: l, st => match step1 D G ops o st with
    | some st' => steps D G ops l st'
    | none => none

theorem TrOps.steps (hg : Good P D) {ops : Array Oper} : ∀ {l l2 : List Oper} {st st' : St} {Q : Exit → St → Prop}, Mc.steps D G ops l st = some st' → TrOps P G ops l2 st' Q → TrOps P G ops (l ++ l2) st Q
  | [], _, _, _, _, h, k => by cases h; exact k
  | o :: l, l2, st, st', Q, h, k => by
    unfold Mc.steps at h
    split at h
    · rename_i st1 h1
      exact TrOps.step1 hg h1 (TrOps.steps hg h k)
    · cases h

/-- from a place of a region on -/
def TrAt (P : Program) (G : Glob) (ops : Array Oper) (i : Nat) (st : St) (Q : Exit → St → Prop) : Prop := TrOps P G ops (ops.toList.drop i) st Q

theorem Tr.at_ {id : Nat} {ops : Array Oper} {st : St} {Q : Exit → St → Prop} (h : TrAt P G ops 0 st Q) : Tr P G (.region id ops false) st Q := Tr.region h

/-- n operations from place i on -/
theorem TrAt.go (hg : Good P D) {ops : Array Oper} (i n : Nat) {st st' : St} {Q : Exit → St → Prop} (h : Mc.steps D G ops ((ops.toList.drop i).take n) st = some st') (k : TrAt P G ops (i + n) st' Q) : TrAt P G ops i st Q := by
  unfold TrAt at *
  rw [← List.take_append_drop n (ops.toList.drop i), List.drop_drop]
  exact TrOps.steps hg h k

theorem TrAt.end_ {ops : Array Oper} {i : Nat} {st : St} {Q : Exit → St → Prop} (hi : Nat.ble ops.toList.length i = true) (h : Q .normal st) : TrAt P G ops i st Q := by
  unfold TrAt
  rw [List.drop_of_length_le (Nat.le_of_ble_eq_true hi)]
  exact TrOps.nil h

omit [Mo] in
theorem drop_at {ops : Array Oper} {i : Nat} {o : Oper} (ho : ops.toList[i]? = some o) : ops.toList.drop i = o :: ops.toList.drop (i + 1) := by
  obtain ⟨h1, rfl⟩ := List.getElem?_eq_some_iff.1 ho
  exact List.drop_eq_getElem_cons h1

theorem TrAt.conv {ops : Array Oper} {i : Nat} {st st' : St} {Q : Exit → St → Prop} (h : Conv G st st') (k : TrAt P G ops i st' Q) : TrAt P G ops i st Q := TrOps.conv h k

/-- one operation by its law -/
theorem TrAt.law {ops : Array Oper} {i : Nat} {o : Oper} {st : St} {Q : Exit → St → Prop} {v : V} {s' : Store} (ho : ops.toList[i]? = some o) (hw : want ops o st = some true) (hd : fits st o.dst = true) (h : OkV P G o st v s')
    (k : TrAt P G ops (i + 1) (st.put o.dst v s') Q) : TrAt P G ops i st Q := by
  unfold TrAt; rw [drop_at ho]; exact TrOps.op hw hd h k
end Go.Proofs.YtobfoiomjfdjjaaDoor.Mc

/- THE MACHINE (24): native combinators; how a walk goes through code that is named by its path. -/
namespace Go.Proofs.YtobfoiomjfdjjaaDoor.Mc
open Go.RowKit
variable [Mo]
variable {P : Program} {G : Glob} {D : Dec}

def bnd {α β : Type} (a : α) (f : α → β) : β := f a
def grd {β : Type} (c : Bool) (k : Option β) : Option β := cond c k none
def ix {α : Type} (xs : List α) (n : Int) : Option α := cond (decide (0 ≤ n)) (xs[n.toNat]?) none

omit [Mo] in
theorem bind_out {α β : Type} {a : Option α} {f : α → Option β} {r : β} (h : a.bind f = some r) : ∃ x, a = some x ∧ f x = some r := by
  cases a with
  | none => cases h
  | some x => exact ⟨x, rfl, h⟩
omit [Mo] in
theorem grd_out {β : Type} {c : Bool} {k : Option β} {r : β} (h : grd c k = some r) : c = true ∧ k = some r := by
  cases c with
  | false => cases h
  | true => exact ⟨rfl, h⟩
omit [Mo] in
theorem ix_out {α : Type} {xs : List α} {n : Int} {a : α} (h : ix xs n = some a) : 0 ≤ n ∧ xs[n.toNat]? = some a := by
  unfold ix at h
  by_cases h0 : 0 ≤ n
  · simp [h0] at h; exact ⟨h0, h⟩
  · simp [h0] at h
omit [Mo] in
theorem bnd_out {α β : Type} {a : α} {f : α → Option β} {r : β} (h : bnd a f = some r) : ∃ x, x = a ∧ f x = some r := ⟨a, rfl, h⟩

/-! code by its path -/
def sL : Code → Code | .seq x _ => x | c => c
def sR : Code → Code | .seq _ y => y | c => c
def rI : Code → Nat | .region i _ _ => i | _ => 0
def rO : Code → Array Oper | .region _ o _ => o | _ => #[]
def cC : Code → Operand | .cond c _ _ => c | _ => .tmp 0
def cT : Code → Code | .cond _ x _ => x | c => c
def cF : Code → Code | .cond _ _ y => y | c => c
def kI : Code → Nat | .block i _ => i | .exit i => i | _ => 0
def kB : Code → Code | .block _ c => c | .loop c => c | c => c
def oA (ops : Array Oper) (i : Nat) : Oper := (ops.toList[i]?).getD ⟨none, .move (.tmp 0), 0, default, #[], none⟩

theorem Tr.seqN {c : Code} {st : St} {Q : Exit → St → Prop} (h : c = .seq (sL c) (sR c)) (k : Tr P G (sL c) st (thenQ P G (sR c) Q)) : Tr P G c st Q := by
  rw [h]; exact Tr.seq k
theorem Tr.skipN {c : Code} {st : St} {Q : Exit → St → Prop} (h : c = .skip) (k : Q .normal st) : Tr P G c st Q := by subst h; exact Tr.skip k
theorem Tr.retN {c : Code} {st : St} {Q : Exit → St → Prop} (h : c = .ret) (k : Q .ret st) : Tr P G c st Q := by subst h; exact Tr.ret k
theorem Tr.exitN {c : Code} {st : St} {Q : Exit → St → Prop} (h : c = .exit (kI c)) (k : Q (.exit (kI c)) st) : Tr P G c st Q := by rw [h]; exact Tr.exit k
theorem Tr.condT {c : Code} {st : St} {Q : Exit → St → Prop} (h : c = .cond (cC c) (cT c) (cF c)) (hc : ev G st.t (cC c) = vB true) (k : Tr P G (cT c) st Q) : Tr P G c st Q := by
  rw [h]; exact Tr.cond true hc (fun _ => k) (fun h => by cases h)
theorem Tr.condF {c : Code} {st : St} {Q : Exit → St → Prop} (h : c = .cond (cC c) (cT c) (cF c)) (hc : ev G st.t (cC c) = vB false) (k : Tr P G (cF c) st Q) : Tr P G c st Q := by
  rw [h]; exact Tr.cond false hc (fun h => by cases h) (fun _ => k)
theorem Tr.condN {c : Code} {st : St} {Q : Exit → St → Prop} (b : Bool) (h : c = .cond (cC c) (cT c) (cF c)) (hc : ev G st.t (cC c) = vB b) (ht : b = true → Tr P G (cT c) st Q) (hf : b = false → Tr P G (cF c) st Q) : Tr P G c st Q := by
  rw [h]; exact Tr.cond b hc ht hf
theorem Tr.blockN {c : Code} {st : St} {Q : Exit → St → Prop} (h : c = .block (kI c) (kB c)) (k : Tr P G (kB c) st (inBlockQ (kI c) Q)) : Tr P G c st Q := by
  rw [h]; exact Tr.block k
theorem Tr.regionN {c : Code} {st : St} {Q : Exit → St → Prop} (h : c = .region (rI c) (rO c) false) (k : TrAt P G (rO c) 0 st Q) : Tr P G c st Q := by
  rw [h]; exact Tr.region k

/-- a join: both ways come to I -/
def thenI (I : St → Prop) (Q : Exit → St → Prop) : Exit → St → Prop
  | .normal, st => I st
  | e, st => Q e st
theorem Tr.seqI {c : Code} {st : St} {Q : Exit → St → Prop} (I : St → Prop) (h : c = .seq (sL c) (sR c)) (k : Tr P G (sL c) st (thenI I Q)) (hy : ∀ st, I st → Tr P G (sR c) st Q) : Tr P G c st Q := by
  refine Tr.seqN h (Tr.mono k ?_)
  rintro e st hq
  cases e <;> first | exact hy _ hq | exact hq
/-- a block whose ends come to I -/
def blockI (id : Nat) (I : St → Prop) (Q : Exit → St → Prop) : Exit → St → Prop
  | .normal, st => I st
  | .exit id', st => if id' = id then I st else Q (.exit id') st
  | e, st => Q e st
theorem Tr.blockI {c : Code} {st : St} {Q : Exit → St → Prop} (I : St → Prop) (h : c = .block (kI c) (kB c)) (k : Tr P G (kB c) st (Mc.blockI (kI c) I Q)) (hy : ∀ st, I st → Q .normal st) : Tr P G c st Q := by
  refine Tr.blockN h (Tr.mono k ?_)
  rintro e st hq
  cases e with
  | normal => exact hy _ hq
  | exit id' =>
    show if id' = kI c then _ else _
    have hq' : if id' = kI c then I st else Q (.exit id') st := hq
    by_cases hid : id' = kI c
    · rw [if_pos hid]; rw [if_pos hid] at hq'; exact hy _ hq'
    · rw [if_neg hid]; rw [if_neg hid] at hq'; exact hq'
  | _ => exact hq
/-- a loop: I counts down -/
theorem Tr.loopN {c : Code} {st : St} {Q : Exit → St → Prop} (I : Nat → St → Prop) (n : Nat) (h : c = .loop (kB c)) (h0 : I n st) (round : ∀ n st, I n st → Tr P G (kB c) st (loopQ I n Q)) : Tr P G c st Q := by
  rw [h]; exact Tr.loop I n h0 round
/-- ends of one kind gathered -/
def exQ (id : Nat) (E : St → Prop) (Q : Exit → St → Prop) : Exit → St → Prop
  | .exit id', st => if id' = id then E st else Q (.exit id') st
  | e, st => Q e st
theorem Tr.exJoin {c : Code} {st : St} {Q : Exit → St → Prop} (id : Nat) (E : St → Prop) (hE : ∀ st, E st → Q (.exit id) st) (k : Tr P G c st (exQ id E Q)) : Tr P G c st Q := by
  refine Tr.mono k ?_
  rintro e st hq
  cases e with
  | exit id' =>
    have hq' : if id' = id then E st else Q (.exit id') st := hq
    by_cases hid : id' = id
    · rw [if_pos hid] at hq'; subst hid; exact hE _ hq'
    · rw [if_neg hid] at hq'; exact hq'
  | _ => exact hq
def retJ (E : St → Prop) (Q : Exit → St → Prop) : Exit → St → Prop
  | .ret, st => E st
  | e, st => Q e st
theorem Tr.retJoin {c : Code} {st : St} {Q : Exit → St → Prop} (E : St → Prop) (hE : ∀ st, E st → Q .ret st) (k : Tr P G c st (retJ E Q)) : Tr P G c st Q := by
  refine Tr.mono k ?_
  rintro e st hq
  cases e <;> first | exact hE _ hq | exact hq

/-! going out through the frames -/
theorem thenQ_n {c : Code} {Q : Exit → St → Prop} {st : St} (k : Tr P G c st Q) : thenQ P G c Q .normal st := k
theorem thenQ_x {c : Code} {Q : Exit → St → Prop} {st : St} {n : Nat} (k : Q (.exit n) st) : thenQ P G c Q (.exit n) st := k
theorem thenQ_r {c : Code} {Q : Exit → St → Prop} {st : St} (k : Q .ret st) : thenQ P G c Q .ret st := k
omit [Mo] in
theorem thenI_x {I : St → Prop} {Q : Exit → St → Prop} {st : St} {n : Nat} (k : Q (.exit n) st) : thenI I Q (.exit n) st := k
omit [Mo] in
theorem thenI_r {I : St → Prop} {Q : Exit → St → Prop} {st : St} (k : Q .ret st) : thenI I Q .ret st := k
omit [Mo] in
theorem thenI_n {I : St → Prop} {Q : Exit → St → Prop} {st : St} (k : I st) : thenI I Q .normal st := k
omit [Mo] in
theorem inBlockQ_n {id : Nat} {Q : Exit → St → Prop} {st : St} (k : Q .normal st) : inBlockQ id Q .normal st := k
omit [Mo] in
theorem inBlockQ_r {id : Nat} {Q : Exit → St → Prop} {st : St} (k : Q .ret st) : inBlockQ id Q .ret st := k
omit [Mo] in
theorem inBlockQ_hit {id n : Nat} {Q : Exit → St → Prop} {st : St} (h : Nat.beq n id = true) (k : Q .normal st) : inBlockQ id Q (.exit n) st := by
  show if n = id then _ else _
  rw [if_pos (Nat.eq_of_beq_eq_true h)]; exact k
omit [Mo] in
theorem inBlockQ_miss {id n : Nat} {Q : Exit → St → Prop} {st : St} (h : Nat.beq n id = false) (k : Q (.exit n) st) : inBlockQ id Q (.exit n) st := by
  show if n = id then _ else _
  rw [if_neg (fun e => by rw [e, Nat.beq_refl] at h; cases h)]; exact k
omit [Mo] in
theorem blockI_n {id : Nat} {I : St → Prop} {Q : Exit → St → Prop} {st : St} (k : I st) : Mc.blockI id I Q .normal st := k
omit [Mo] in
theorem blockI_r {id : Nat} {I : St → Prop} {Q : Exit → St → Prop} {st : St} (k : Q .ret st) : Mc.blockI id I Q .ret st := k
omit [Mo] in
theorem blockI_hit {id n : Nat} {I : St → Prop} {Q : Exit → St → Prop} {st : St} (h : Nat.beq n id = true) (k : I st) : Mc.blockI id I Q (.exit n) st := by
  show if n = id then _ else _
  rw [if_pos (Nat.eq_of_beq_eq_true h)]; exact k
omit [Mo] in
theorem blockI_miss {id n : Nat} {I : St → Prop} {Q : Exit → St → Prop} {st : St} (h : Nat.beq n id = false) (k : Q (.exit n) st) : Mc.blockI id I Q (.exit n) st := by
  show if n = id then _ else _
  rw [if_neg (fun e => by rw [e, Nat.beq_refl] at h; cases h)]; exact k
omit [Mo] in
theorem loopQ_x {I : Nat → St → Prop} {m : Nat} {Q : Exit → St → Prop} {st : St} {n : Nat} (k : Q (.exit n) st) : loopQ I m Q (.exit n) st := k
omit [Mo] in
theorem loopQ_r {I : Nat → St → Prop} {m : Nat} {Q : Exit → St → Prop} {st : St} (k : Q .ret st) : loopQ I m Q .ret st := k
omit [Mo] in
theorem loopQ_n {I : Nat → St → Prop} {m : Nat} {Q : Exit → St → Prop} {st : St} (k : I m st) : loopQ I (m + 1) Q .normal st := ⟨m, Nat.lt_succ_self m, k⟩
omit [Mo] in
theorem exQ_n {id : Nat} {E : St → Prop} {Q : Exit → St → Prop} {st : St} (k : Q .normal st) : exQ id E Q .normal st := k
omit [Mo] in
theorem exQ_r {id : Nat} {E : St → Prop} {Q : Exit → St → Prop} {st : St} (k : Q .ret st) : exQ id E Q .ret st := k
omit [Mo] in
theorem exQ_hit {id n : Nat} {E : St → Prop} {Q : Exit → St → Prop} {st : St} (h : Nat.beq n id = true) (k : E st) : exQ id E Q (.exit n) st := by
  show if n = id then _ else _
  rw [if_pos (Nat.eq_of_beq_eq_true h)]; exact k
omit [Mo] in
theorem exQ_miss {id n : Nat} {E : St → Prop} {Q : Exit → St → Prop} {st : St} (h : Nat.beq n id = false) (k : Q (.exit n) st) : exQ id E Q (.exit n) st := by
  show if n = id then _ else _
  rw [if_neg (fun e => by rw [e, Nat.beq_refl] at h; cases h)]; exact k
omit [Mo] in
theorem retJ_n {E : St → Prop} {Q : Exit → St → Prop} {st : St} (k : Q .normal st) : retJ E Q .normal st := k
omit [Mo] in
theorem retJ_x {E : St → Prop} {Q : Exit → St → Prop} {st : St} {n : Nat} (k : Q (.exit n) st) : retJ E Q (.exit n) st := k
omit [Mo] in
theorem retJ_r {E : St → Prop} {Q : Exit → St → Prop} {st : St} (k : E st) : retJ E Q .ret st := k

/-! states by what is new in them -/
def upds (t : Nat → V) : List (Nat × V) → Nat → V
  | [] => t
  | (d, v) :: l => upds (upd t d v) l

theorem TrAt.goP (hg : Good P D) {ops : Array Oper} {i : Nat} (n : Nat) {t : Nat → V} {s : Store} {m : Nat} {a : List Nat} {Q : Exit → St → Prop} (dl : List (Nat × V)) (s' : Store)
    (h : Mc.steps D G ops ((ops.toList.drop i).take n) ⟨t, s, m, a⟩ = some ⟨upds t dl, s', m, a⟩) (k : TrAt P G ops (i + n) ⟨upds t dl, s', m, a⟩ Q) : TrAt P G ops i ⟨t, s, m, a⟩ Q :=
  TrAt.go hg i n h k

theorem Conv.normT {keep : List Nat} {ρ : Ren} {st : St} (st' : St) (h : Mc.norm keep ρ st = some st') : Conv G st st' := Conv.norm h

/-- one operation by its law, from a state in its parts -/
theorem TrAt.lawP {ops : Array Oper} {i : Nat} {t : Nat → V} {s : Store} {m : Nat} {a : List Nat} {Q : Exit → St → Prop} (d : Nat) (v : V) (s' : Store) (ho : ops.toList[i]? = some (oA ops i)) (hw : want ops (oA ops i) ⟨t, s, m, a⟩ = some true)
    (hdd : (oA ops i).dst = some d) (hd : Nat.blt d m = true) (h : OkV P G (oA ops i) ⟨t, s, m, a⟩ v s') (k : TrAt P G ops (i + 1) ⟨upd t d v, s', m, a⟩ Q) : TrAt P G ops i ⟨t, s, m, a⟩ Q := by
  refine TrAt.law ho hw (by rw [hdd]; exact hd) h ?_
  rw [hdd]; exact k
theorem TrAt.lawS {ops : Array Oper} {i : Nat} {t : Nat → V} {s : Store} {m : Nat} {a : List Nat} {Q : Exit → St → Prop} (s' : Store) {v : V} (ho : ops.toList[i]? = some (oA ops i)) (hw : want ops (oA ops i) ⟨t, s, m, a⟩ = some true)
    (hdd : (oA ops i).dst = none) (h : OkV P G (oA ops i) ⟨t, s, m, a⟩ v s') (k : TrAt P G ops (i + 1) ⟨t, s', m, a⟩ Q) : TrAt P G ops i ⟨t, s, m, a⟩ Q := by
  refine TrAt.law ho hw (by rw [hdd]; rfl) h ?_
  rw [hdd]; exact k

/-- the frame of a called function: the callee's names of what is handed over, then the caller's -/
theorem TrAt.callP {ops : Array Oper} {i : Nat} {t : Nat → V} {s : Store} {m : Nat} {a : List Nat} {Q : Exit → St → Prop} (f : FuncId) (fn : Func) (ρ σ : Ren) (L : List (Nat × O)) (vs : List V) (r : V) (s1 : Store) (d : Nat) (v : V)
    {fop : Operand} {args : Array Operand} {ts : Array TypeId} {caps : List V}
    (ho : ops.toList[i]? = some (oA ops i)) (hw : want ops (oA ops i) ⟨t, s, m, a⟩ = some true) (hdd : (oA ops i).dst = some d) (hd : Nat.blt d m = true)
    (hop : (oA ops i).op = .call ⟨.value fop, args, ts⟩) (hf : fnOf (ev G t fop) = some (f, caps)) (hfn : P.funcs[f]? = some fn) (hname : (fn.name == "runtime.NumGoroutine") = false) (hb : fn.body.isSome = true)
    (hρ : okRen ρ = true) (hρn : (ρ.all fun p => Nat.ble 1000000 p.1) = true) (hL : handL ρ s ρ = some L) (hvs : renL (inv ρ) (args.toList.map (ev G t) ++ caps) = vs)
    (hct : CT P G f vs (stoL L) (fun r' s' => r' = r ∧ s' = s1)) (hρσ : okRen (ρ ++ σ) = true) (hfr : (σ.all fun p => (s p.2).isNone) = true) (hv : r.ren (ren (ρ ++ σ)) = v)
    (k : TrAt P G ops (i + 1) ⟨upd t d v, backS (ρ ++ σ) s1 s, m, a⟩ Q) : TrAt P G ops i ⟨t, s, m, a⟩ Q := by
  unfold TrAt; rw [drop_at ho]
  refine TrOps.call (st := ⟨t, s, m, a⟩) hw (by rw [hdd]; exact hd) hop hf hfn hname hb hρ hρn hL hvs hct ?_
  rintro r' s2 ⟨rfl, rfl⟩
  refine ⟨σ, hρσ, fun p hp => ?_, ?_⟩
  · have := List.all_eq_true.1 hfr p hp
    simpa using this
  · have e2 : St.put ⟨t, s, m, a⟩ (oA ops i).dst (r'.ren (ren (ρ ++ σ))) (backS (ρ ++ σ) s2 s) = ⟨upd t d v, backS (ρ ++ σ) s2 s, m, a⟩ := by rw [hdd, hv]; rfl
    rw [e2]; exact k
end Go.Proofs.YtobfoiomjfdjjaaDoor.Mc

/- THE MACHINE (25): laws of operations at lists that are not spelled out: rows that are a list's images. -/
namespace Go.Proofs.YtobfoiomjfdjjaaDoor.Mc
open Go.RowKit
variable [Mo]
variable {P : Program} {G : Glob} {D : Dec} {α : Type}

/-- rows of so many cells -/
def Wide (n : Nat) (enc : α → List T) : Prop := ∀ x, Nat.beq (enc x).length n = true

omit [Mo] in
theorem map_ix {enc : α → List T} {xs : List α} {n : Nat} {x : α} (h : xs[n]? = some x) : (xs.map enc)[n]? = some (enc x) := by rw [List.getElem?_map, h]; rfl
omit [Mo] in
theorem lt_of_ix {xs : List α} {n : Int} {x : α} (h0 : 0 ≤ n) (h : xs[n.toNat]? = some x) : n < xs.length := by
  have := (List.getElem?_eq_some_iff.1 h).1; omega

variable {st : St} {o : Oper}

theorem core_ok (hg : Good P D) {op : Op} {v : V} (hop : o.op = op) (h : coreV D op (ev G st.t) st.s = some v) : OkV P G o st v st.s := coreV_ok hg (by rw [hop]; exact h)

/-- &xs[i], xs data -/
theorem ixFz_ok (hg : Good P D) {t e : TypeId} {x i : Operand} {nl : Nl} {enc : α → List T} {xs : List α} {k : IntKind} {n : Int} {a : α} (hop : o.op = .indexAddr t x i) (hu : D.und t = some (.slice e)) (he : D.has e = true)
    (hw : Wide (D.size e) enc) (hx : ev G st.t x = .t (.fz nl (xs.map enc))) (hi : ev G st.t i = vI k n) (h0 : 0 ≤ n) (ha : xs[n.toNat]? = some a) : OkV P G o st (.pf (enc a) 0) st.s := by
  refine core_ok hg hop ?_
  show indexAddrV D st.s t (ev G st.t x) (ev G st.t i) = _
  rw [hx, hi]
  have hlt := lt_of_ix h0 ha
  simp only [indexAddrV, vI, hu, he, Bool.not_true, Bool.false_eq_true, if_false, List.length_map, map_ix ha, hw a]
  rw [if_pos ⟨h0, hlt⟩]; rfl

/-- &xs[i], xs owned -/
theorem ixSl_ok (hg : Good P D) {t e : TypeId} {x i : Operand} {nl : Nl} {enc : α → List T} {xs : List α} {k : IntKind} {n : Int} {a : α} {nm e' sz : Nat} (hop : o.op = .indexAddr t x i) (hu : D.und t = some (.slice e)) (he : D.has e = true)
    (hx : ev G st.t x = .sl nl nm) (hn : st.s nm = some (some (.ar e' sz (xs.map enc)))) (hsz : Nat.beq sz (D.size e) = true) (hi : ev G st.t i = vI k n) (h0 : 0 ≤ n) (ha : xs[n.toNat]? = some a) : OkV P G o st (.pe nm n.toNat 0) st.s := by
  refine core_ok hg hop ?_
  show indexAddrV D st.s t (ev G st.t x) (ev G st.t i) = _
  rw [hx, hi]
  have hlt := lt_of_ix h0 ha
  have hget : Mc.get st.s nm = some (.ar e' sz (xs.map enc)) := by unfold Mc.get; rw [hn]
  simp only [indexAddrV, vI, hu, he, Bool.not_true, Bool.false_eq_true, if_false, hget, hsz, List.length_map]
  rw [if_pos ⟨h0, hlt⟩]

/-- load behind &xs[i] -/
theorem loadPe_ok (hg : Good P D) {t : TypeId} {p : Operand} {nm i off e' sz : Nat} {enc : α → List T} {xs : List α} {a : α} {v : V} (hop : o.op = .load t p) (hp : ev G st.t p = .pe nm i off)
    (hn : st.s nm = some (some (.ar e' sz (xs.map enc)))) (ha : xs[i]? = some a) (hv : readV D t ((enc a).map .t) off = some v) : OkV P G o st v st.s := by
  refine core_ok hg hop ?_
  show loadV D st.s t (ev G st.t p) = _
  rw [hp]
  have hget : Mc.get st.s nm = some (.ar e' sz (xs.map enc)) := by unfold Mc.get; rw [hn]
  simp only [loadV, hget, map_ix ha, hv]

omit [Mo] in
theorem map_set {enc : α → List T} {xs : List α} {i : Nat} {b : α} : (xs.set i b).map enc = (xs.map enc).set i (enc b) := by rw [List.map_set]

/-- a store behind &xs[i] -/
theorem storePe_ok (hg : Good P D) {t : TypeId} {p x : Operand} {nm i off e' sz : Nat} {enc : α → List T} {xs : List α} {a b : α} {ts : List T} (hop : o.op = .store t p x) (hp : ev G st.t p = .pe nm i off)
    (hn : st.s nm = some (some (.ar e' sz (xs.map enc)))) (ha : xs[i]? = some a) (hh : D.has t = true) (hs : solidV st.s (ev G st.t x) = true) (hc : Nat.beq (cellsV (ev G st.t x)).length (D.size t) = true)
    (hts : toTs (cellsV (ev G st.t x)) = some ts) (hle : (Nat.ble (off + D.size t) (enc a).length && Nat.blt e' 2000000) = true) (hb : enc b = (enc a).take off ++ ts ++ (enc a).drop (off + D.size t)) :
    OkV P G o st vU (upd st.s nm (some (some (.ar e' sz ((xs.set i b).map enc))))) := by
  refine store_ok hg hop ?_
  have hget : Mc.get st.s nm = some (.ar e' sz (xs.map enc)) := by unfold Mc.get; rw [hn]
  simp only [storeV, hh, hs, hc, Bool.not_true, Bool.or_self, Bool.false_eq_true, if_false, hp, hget, map_ix ha, hts, hle, if_true, map_set, hb]

/-- len -/
theorem lenFz_ok (hg : Good P D) {t e : TypeId} {x : Operand} {nl : Nl} {enc : α → List T} {xs : List α} (hop : o.op = .call ⟨.builtin .len, #[x], #[t]⟩) (hu : D.und t = some (.slice e)) (hx : ev G st.t x = .t (.fz nl (xs.map enc))) :
    OkV P G o st (vI .i64 xs.length) st.s := by
  refine core_ok hg hop ?_
  show lenV D st.s t (ev G st.t x) = _
  rw [hx]
  simp only [lenV, hu, List.length_map]
theorem lenSl_ok (hg : Good P D) {t e : TypeId} {x : Operand} {nl : Nl} {enc : α → List T} {xs : List α} {nm e' sz : Nat} (hop : o.op = .call ⟨.builtin .len, #[x], #[t]⟩) (hu : D.und t = some (.slice e)) (hx : ev G st.t x = .sl nl nm)
    (hn : st.s nm = some (some (.ar e' sz (xs.map enc)))) : OkV P G o st (vI .i64 xs.length) st.s := by
  refine core_ok hg hop ?_
  show lenV D st.s t (ev G st.t x) = _
  have hget : Mc.get st.s nm = some (.ar e' sz (xs.map enc)) := by unfold Mc.get; rw [hn]
  rw [hx]
  simp only [lenV, hu, hget, List.length_map]

/-- bounds of a slice -/
def bnds (n : Int) (lo hi : Int) : Bool := decide (0 ≤ lo ∧ lo ≤ hi ∧ hi ≤ n)
omit [Mo] in
theorem bnds_spec {n lo hi : Int} (h : bnds n lo hi = true) : 0 ≤ hi ∧ hi ≤ n ∧ 0 ≤ lo ∧ lo ≤ hi := by
  have := of_decide_eq_true h; omega
/-- what a bound is -/
def bdV (t : Nat → V) (G : Glob) (x : Option Operand) (d : Int) : Option Int := bound (x.map (ev G t)) d

def cut (xs : List α) (lo hi : Int) : List α := (xs.take hi.toNat).drop lo.toNat

omit [Mo] in
theorem map_cut (enc : α → List T) (xs : List α) (lo hi : Int) : (cut xs lo hi).map enc = ((xs.map enc).take hi.toNat).drop lo.toNat := by
  unfold cut; rw [List.map_drop, List.map_take]

theorem cutFz_ok (hg : Good P D) {t e : TypeId} {x : Operand} {lo hi : Option Operand} {nl : Nl} {enc : α → List T} {xs : List α} {l h : Int} (hop : o.op = .slice t x lo hi none) (hu : D.und t = some (.slice e)) (he : D.has e = true)
    (hw : Wide (D.size e) enc) (hx : ev G st.t x = .t (.fz nl (xs.map enc))) (hl : bound (lo.map (ev G st.t)) 0 = some l) (hh : bound (hi.map (ev G st.t)) xs.length = some h) (hb : bnds xs.length l h = true) :
    OkV P G o st (.t (.fz (subNl nl) ((cut xs l h).map enc))) st.s := by
  refine core_ok hg hop ?_
  show sliceV D st.s t (ev G st.t x) (lo.map (ev G st.t)) (hi.map (ev G st.t)) = _
  rw [hx]
  have hb' := bnds_spec hb
  simp only [sliceV, hu, he, Bool.not_true, Bool.false_eq_true, if_false, List.length_map, hl, hh]
  rw [if_pos hb', map_cut]
  cases xs with
  | nil => simp
  | cons a az => simp only [List.map_cons, hw a, if_true]

theorem cutSl_ok (hg : Good P D) {t e : TypeId} {x : Operand} {lo hi : Option Operand} {nl : Nl} {enc : α → List T} {xs : List α} {l h : Int} {nm e' sz : Nat} (hop : o.op = .slice t x lo hi none) (hu : D.und t = some (.slice e)) (he : D.has e = true)
    (hx : ev G st.t x = .sl nl nm) (hn : st.s nm = some (some (.ar e' sz (xs.map enc)))) (hsz : Nat.beq sz (D.size e) = true) (hl : bound (lo.map (ev G st.t)) 0 = some l) (hh : bound (hi.map (ev G st.t)) xs.length = some h) (hb : bnds xs.length l h = true) :
    OkV P G o st (.sw nm l.toNat (h.toNat - l.toNat)) st.s := by
  refine core_ok hg hop ?_
  show sliceV D st.s t (ev G st.t x) (lo.map (ev G st.t)) (hi.map (ev G st.t)) = _
  rw [hx]
  have hb' := bnds_spec hb
  have hget : Mc.get st.s nm = some (.ar e' sz (xs.map enc)) := by unfold Mc.get; rw [hn]
  simp only [sliceV, hu, he, Bool.not_true, Bool.false_eq_true, if_false, hget, hsz, List.length_map, hl, hh]
  rw [if_pos hb']

/-! texts -/
theorem ixStr_ok (hg : Good P D) {t : TypeId} {x i : Operand} {k : IntKind} {b : ByteArray} {n : Int} (hop : o.op = .index t x i) (hu : D.und t = some .string) (hx : ev G st.t x = vS b) (hi : ev G st.t i = vI k n) (h : decide (0 ≤ n ∧ n < b.size) = true) :
    OkV P G o st (vI .u8 (bt b n)) st.s := by
  refine core_ok hg hop ?_
  show indexV D t (ev G st.t x) (ev G st.t i) = _
  rw [hx, hi]
  simp only [indexV, vS, vI, hu]
  rw [if_pos (of_decide_eq_true h)]
theorem cutStr_ok (hg : Good P D) {t : TypeId} {x : Operand} {lo hi : Option Operand} {b : ByteArray} {l h : Int} (hop : o.op = .slice t x lo hi none) (hu : D.und t = some .string)
    (hx : ev G st.t x = vS b) (hl : bound (lo.map (ev G st.t)) 0 = some l) (hh : bound (hi.map (ev G st.t)) b.size = some h) (hb : bnds b.size l h = true) :
    OkV P G o st (vS (b.extract l.toNat h.toNat)) st.s := by
  refine core_ok hg hop ?_
  show sliceV D st.s t (ev G st.t x) (lo.map (ev G st.t)) (hi.map (ev G st.t)) = _
  rw [hx]
  simp only [sliceV, vS, hu, hl, hh]
  rw [if_pos (bnds_spec hb)]
theorem catStr_ok (hg : Good P D) {t : TypeId} {x y : Operand} {q : TypeId} {a b : ByteArray} (hop : o.op = .binOp .add t x y q) (hx : ev G st.t x = vS a) (hy : ev G st.t y = vS b) (h : decide (a.size + b.size ≤ 9223372036854775807) = true) :
    OkV P G o st (vS (a ++ b)) st.s := by
  refine core_ok hg hop ?_
  show (if kd (ev G st.t x) == .ifc && !(isConst y) then none else binV D st.s .add t (ev G st.t x) (ev G st.t y)) = _
  rw [hx, hy]
  have : (kd (vS a) == Kd.ifc && !isConst y) = false := rfl
  rw [this]
  simp only [Bool.false_eq_true, if_false, binV, vS, bin, strBin, of_decide_eq_true h, if_true, Option.map_some]

/-! append -/
theorem app_ok (hg : Good P D) {β : Type} {x y : Operand} {t e d : Nat} {de : TypeDesc} {z : Value} {nl : Nl} {enc : β → List T} {xs ys : List β} {oo : Option Nat}
    (hop : o.op = .call ⟨.builtin .append, #[x, y], #[t, t]⟩) (hu : D.und t = some (.slice e)) (he : D.und e = some de) (hz : D.zero e = some z) (hzs : Nat.beq z.cells.size (D.size e) = true) (hp : Nat.blt 0 (D.size e) = true)
    (hd : st.s d = none) (htg : tgtV st.s e (D.size e) (ev G st.t x) = some (nl, xs.map enc, oo)) (hsr : srcV st.s (ev G st.t y) = some (ys.map enc)) (hw : Wide (D.size e) enc) (hb1 : Nat.ble 1 (D.bytes e) = true)
    (hby : decide ((xs.length + ys.length) * D.bytes e ≤ 140737488355328) = true) :
    OkV P G o st (.sl nl d) (upd (killS st.s oo) d (some (some (.ar e (D.size e) ((xs ++ ys).map enc))))) := by
  have h1 := of_decide_eq_true hby
  have h2 : 1 ≤ D.bytes e := Nat.le_of_ble_eq_true hb1
  have := append_ok hg (rows := xs.map enc) (rows2 := ys.map enc) hop hu he hz hzs hp hd htg hsr (fun r hr => by
    obtain ⟨a, _, rfl⟩ := List.mem_map.1 hr
    exact Nat.eq_of_beq_eq_true (hw a)) (by
      simp only [List.length_map]
      have : (xs.length + ys.length) * 1 ≤ (xs.length + ys.length) * D.bytes e := Nat.mul_le_mul_left _ h2
      omega) (by simpa using h1)
  rwa [← List.map_append] at this

/-! sources and targets -/
omit [Mo] in
theorem src_fz {s : Store} {x : V} {nl : Nl} {rows : List (List T)} (h : x = .t (.fz nl rows)) : srcV s x = some rows := by subst h; rfl
omit [Mo] in
theorem src_sl {s : Store} {x : V} {nl : Nl} {nm e sz : Nat} {rows : List (List T)} (h : x = .sl nl nm) (hn : s nm = some (some (.ar e sz rows))) : srcV s x = some rows := by
  subst h; simp only [srcV, Mc.get, hn]
omit [Mo] in
theorem src_sw {s : Store} {x : V} {nm e sz off len : Nat} {enc : α → List T} {xs : List α} (h : x = .sw nm off len) (hn : s nm = some (some (.ar e sz (xs.map enc)))) : srcV s x = some (((xs.drop off).take len).map enc) := by
  subst h; simp only [srcV, Mc.get, hn, List.map_take, List.map_drop]
end Go.Proofs.YtobfoiomjfdjjaaDoor.Mc

/- THE MACHINE (26): the types as the program tells them. -/
namespace Go.Proofs.YtobfoiomjfdjjaaDoor.Mc
open Go.RowKit
variable [Mo]

def decOf (P : Program) : Dec := ⟨fun t => cond (Nat.blt t 1000000) (P.underlying t) none, fun t => match P.info? t with | some i => i.size | none => 0, fun t => match P.info? t with | some i => i.bytes | none => 0, fun t => match P.info? t with | some i => i.zero | none => none, fun t => !P.stoodInHeld t && !P.eqGuardType P.depth t,
  fun t n => match P.info? t with
    | some i => match P.underlying t with
      | some (.struct _) => match i.methods.find? (·.name == n) with
        | some m => cond m.path.isEmpty (match m.func with | some (f, false) => some f | _ => none) none
        | none => none
      | _ => none
    | none => none⟩
omit [Mo] in
theorem good_of (P : Program) : Good P (decOf P) := by
  have hu : ∀ t d, (decOf P).und t = some d → t < 1000000 ∧ P.underlying t = some d := fun t d h => by
    have h1 : (cond (Nat.blt t 1000000) (P.underlying t) none) = some d := h
    cases hb : Nat.blt t 1000000 with
    | true => rw [hb] at h1; exact ⟨by simpa using hb, h1⟩
    | false => rw [hb] at h1; cases h1
  refine ⟨fun t d h => ⟨(hu t d h).2, ?_⟩, fun t d h => (hu t d h).1, fun t h => by simpa [decOf] using h, fun t n f h => ?_⟩
  rotate_left
  · simp only [decOf] at h
    split at h
    · rename_i i hi
      split at h
      · rename_i fs hs
        split at h
        · rename_i m hm
          cases hp : m.path.isEmpty with
          | false => rw [hp] at h; cases h
          | true =>
            rw [hp, cond_true] at h
            split at h
            · rename_i f' hf
              cases h
              exact ⟨i, m, fs, hi, hm, by simpa using hp, hf, hs⟩
            · cases h
        · cases h
      · cases h
    · cases h
  have h' : P.underlying t = some d := (hu t d h).2
  unfold Program.underlying at h'
  cases hi : P.info? t with
  | none => simp [hi] at h'
  | some i => exact ⟨i, rfl, by simp [decOf, hi], by simp [decOf, hi], by simp [decOf, hi]⟩
end Go.Proofs.YtobfoiomjfdjjaaDoor.Mc

/- THE MACHINE (27): a function's walk begins and ends; stores by what is new in them; cells that hold nil. -/
namespace Go.Proofs.YtobfoiomjfdjjaaDoor.Mc
open Go.RowKit
variable [Mo]
variable {P : Program} {G : Glob} {D : Dec}

def bodyOf (f : Func) : Code := match f.body with | some c => c | none => .skip
/-- the cells of an element: whole numbers, bools, texts, slices of rows -/
inductive Row where
  | nil
  | int (k : IntKind) (r : Row)
  | bool (r : Row)
  | str (r : Row)
  | sl (e : Row) (r : Row)

def prT (A : Type) : Row → Type → Type
  | .nil, _ => A
  | .int _ _, B => A × B
  | .bool _, B => A × B
  | .str _, B => A × B
  | .sl _ _, B => A × B

def Row.den : Row → Type
  | .nil => Unit
  | .int _ r => prT Int r r.den
  | .bool r => prT Bool r r.den
  | .str r => prT ByteArray r r.den
  | .sl e r => prT (List e.den) r r.den

def prM {A : Type} : (r : Row) → A → r.den → prT A r r.den
  | .nil, a, _ => a
  | .int _ _, a, b => (a, b)
  | .bool _, a, b => (a, b)
  | .str _, a, b => (a, b)
  | .sl _ _, a, b => (a, b)
def prF {A : Type} : (r : Row) → prT A r r.den → A
  | .nil, a => a
  | .int _ _, x => x.1
  | .bool _, x => x.1
  | .str _, x => x.1
  | .sl _ _, x => x.1
def prS {A : Type} : (r : Row) → prT A r r.den → r.den
  | .nil, _ => ()
  | .int _ _, x => x.2
  | .bool _, x => x.2
  | .str _, x => x.2
  | .sl _ _, x => x.2
omit [Mo] in
theorem prF_mk {A : Type} (r : Row) (a : A) (b : r.den) : prF r (prM r a b) = a := by cases r <;> rfl
omit [Mo] in
theorem prS_mk {A : Type} (r : Row) (a : A) (b : r.den) : prS r (prM r a b) = b := by cases r <;> rfl

def Row.len : Row → Nat
  | .nil => 0
  | .int _ r => r.len + 1
  | .bool r => r.len + 1
  | .str r => r.len + 1
  | .sl _ r => r.len + 1

def Row.en : (r : Row) → r.den → List T
  | .nil, _ => []
  | .int k r, x => .sc (.int k (prF r x)) :: r.en (prS r x)
  | .bool r, x => .sc (.bool (prF r x)) :: r.en (prS r x)
  | .str r, x => .sc (.string (prF r x)) :: r.en (prS r x)
  | .sl e r, x => .fz .u ((prF r x).map e.en) :: r.en (prS r x)

def Row.zero : (r : Row) → r.den
  | .nil => ()
  | .int _ r => prM r (0 : Int) r.zero
  | .bool r => prM r false r.zero
  | .str r => prM r ByteArray.empty r.zero
  | .sl e r => prM r ([] : List e.den) r.zero

omit [Mo] in
theorem Row.en_len : ∀ (r : Row) (x : r.den), (r.en x).length = r.len
  | .nil, _ => rfl
  | .int _ r, x => by simp [Row.en, Row.len, Row.en_len r]
  | .bool r, x => by simp [Row.en, Row.len, Row.en_len r]
  | .str r, x => by simp [Row.en, Row.len, Row.en_len r]
  | .sl _ r, x => by simp [Row.en, Row.len, Row.en_len r]
omit [Mo] in
theorem Row.wide (r : Row) {n : Nat} (h : Nat.beq r.len n = true) : Wide n r.en := fun x => by rw [Row.en_len]; exact h


/-- the package variables that are told: of each its rows -/
def gTab : List (Nat × (r : Row) × List r.den) := [(2, ⟨.int .u8 .nil, (List.range 256).map fun c => ((Go.Lib.firstT c : Nat) : Int)⟩), (3, ⟨.int .u8 (.int .u8 .nil), (List.range 16).map fun i => (((Go.Lib.accLo i : Nat) : Int), ((Go.Lib.accHi i : Nat) : Int))⟩)]
def lkG : List (Nat × (r : Row) × List r.den) → Nat → Option ((r : Row) × List r.den)
  | [], _ => none
  | (i, a) :: l, g => cond (Nat.beq i g) (some a) (lkG l g)
def noG : Glob := fun g => match lkG gTab g with | some ⟨r, xs⟩ => some (xs.map r.en).flatten | none => none

omit [Mo] in
theorem cond_t {β : Type} {c : Bool} {a b : Option β} {r : β} (h : c = true) (k : cond c a b = some r) : a = some r := by subst h; exact k
omit [Mo] in
theorem cond_f {β : Type} {c : Bool} {a b : Option β} {r : β} (h : c = false) (k : cond c a b = some r) : b = some r := by subst h; exact k

def updS (s : Store) : List (Nat × O) → Store
  | [] => s
  | (d, x) :: l => updS (upd s d (some (some x))) l

/-- so many operations, and what is new behind them -/
theorem TrAt.goS (hg : Good P D) {ops : Array Oper} {i : Nat} (n : Nat) {t : Nat → V} {s : Store} {m : Nat} {a : List Nat} {Q : Exit → St → Prop} (dl : List (Nat × V)) (sl : List (Nat × O))
    (h : Mc.steps D G ops ((ops.toList.drop i).take n) ⟨t, s, m, a⟩ = some ⟨upds t dl, updS s sl, m, a⟩) (k : TrAt P G ops (i + n) ⟨upds t dl, updS s sl, m, a⟩ Q) : TrAt P G ops i ⟨t, s, m, a⟩ Q :=
  TrAt.go hg i n h k

/-- the end of a function -/
def finQ (D : Dec) (rs : List ResultVar) (r : V) (s : Store) : Exit → St → Prop
  | .normal, st => resV D st rs = some r ∧ st.s = s
  | .ret, st => resV D st rs = some r ∧ st.s = s
  | _, _ => False
omit [Mo] in
theorem finQ_n {rs : List ResultVar} {r : V} {s : Store} {st : St} (h : resV D st rs = some r) (hs : st.s = s) : finQ D rs r s .normal st := ⟨h, hs⟩
omit [Mo] in
theorem finQ_r {rs : List ResultVar} {r : V} {s : Store} {st : St} (h : resV D st rs = some r) (hs : st.s = s) : finQ D rs r s .ret st := ⟨h, hs⟩

/-- what a function computes: the result and the objects -/
def CTd (P : Program) (f : FuncId) (vs : List V) (L : List (Nat × O)) (r : V) (s1 : Store) : Prop := CT P noG f vs (stoL L) fun r' s' => r' = r ∧ s' = s1

omit [Mo] in
theorem stoL_mem {L : List (Nat × O)} {n : Nat} {x : Option O} (h : stoL L n = some x) : n ∈ L.map (·.1) := by
  unfold stoL at h
  obtain ⟨p, hp, _⟩ := Option.map_eq_some_iff.1 h
  obtain ⟨h1, rfl⟩ := find_mem (ρ := L.map fun p => (p.1, 0)) (n := n) (p := (p.1, 0)) (by
    rw [List.find?_map, show (fun p : Nat × Nat => Nat.beq p.1 n) ∘ (fun p : Nat × O => (p.1, 0)) = fun p : Nat × O => Nat.beq p.1 n from rfl, hp]; rfl)
  obtain ⟨q, hq, he⟩ := List.mem_map.1 h1
  exact List.mem_map.2 ⟨q, hq, (Prod.mk.inj he).1⟩

theorem CTd.of_tr {f : FuncId} (fn : Func) {vs : List V} {L : List (Nat × O)} {r : V} {s1 : Store} (hf : P.funcs[f]? = some fn) (hb : fn.body = some (bodyOf fn))
    (h : Tr P noG (bodyOf fn) (st0 vs (stoL L) fn.ntmps (L.map (·.1))) (finQ (decOf P) fn.results.toList r s1)) : CTd P f vs L r s1 := by
  refine CT.of_tr (good_of P) hf hb (fun n x hn => stoL_mem hn) (Tr.mono h ?_)
  rintro e st hq
  cases e <;> first | exact ⟨_, hq.1, rfl, hq.2⟩ | exact hq.elim

/-- a call -/
theorem TrAt.callD {ops : Array Oper} {i : Nat} {t : Nat → V} {s : Store} {m : Nat} {a : List Nat} {Q : Exit → St → Prop} {f : FuncId} {fn : Func} {L : List (Nat × O)} {vs : List V} {r : V} {s1 : Store} {caps : List V} (d : Nat) (v : V) (ρ σ : Ren) (fop : Operand) (args : Array Operand) (ts : Array TypeId)
    (hct : CTd P f vs L r s1) (hfn : P.funcs[f]? = some fn) (ho : ops.toList[i]? = some (oA ops i)) (hw : want ops (oA ops i) ⟨t, s, m, a⟩ = some true) (hdd : (oA ops i).dst = some d) (hd : Nat.blt d m = true)
    (hop : (oA ops i).op = .call ⟨.value fop, args, ts⟩) (hf : fnOf (ev noG t fop) = some (f, caps)) (hname : (fn.name == "runtime.NumGoroutine") = false) (hb : fn.body.isSome = true)
    (hρ : okRen ρ = true) (hρn : (ρ.all fun p => Nat.ble 1000000 p.1) = true) (hL : handL ρ s ρ = some L) (hvs : renL (inv ρ) (args.toList.map (ev noG t) ++ caps) = vs)
    (hρσ : okRen (ρ ++ σ) = true) (hfr : (σ.all fun p => (s p.2).isNone) = true) (hv : r.ren (ren (ρ ++ σ)) = v)
    (k : TrAt P noG ops (i + 1) ⟨upd t d v, backS (ρ ++ σ) s1 s, m, a⟩ Q) : TrAt P noG ops i ⟨t, s, m, a⟩ Q :=
  TrAt.callP f fn ρ σ L vs r s1 d v ho hw hdd hd hop hf hfn hname hb hρ hρn hL hvs hct hρσ hfr hv k

/-- a nil slice in a slot, as data -/
theorem Conv.nilFz {t : Nat → V} {s : Store} {m : Nat} {a : List Nat} (i : Nat) (nl : Nl) (hi : t i = .t (.sc (.slice none 0 0))) (hn : (match nl with | .e => false | _ => true) = true) : Conv G ⟨t, s, m, a⟩ ⟨upd t i (.t (.fz nl [])), s, m, a⟩ :=
  Conv.slot (st := ⟨t, s, m, a⟩) fun w F loc v h => by
    have h' : RelV w F loc (t i) v := h
    rw [hi] at h'
    rw [relV_sc h']
    exact .t _ _ (.nil nl (by cases nl <;> first | (cases hn; done) | simp))

theorem Conv.nilSl {t : Nat → V} {s : Store} {m : Nat} {a : List Nat} (i d e sz : Nat) (hi : t i = .t (.sc (.slice none 0 0))) (hd : s d = none) (hz : Nat.blt 0 sz = true) : Conv G ⟨t, s, m, a⟩ ⟨upd t i (.sl .n d), upd s d (some (some (.ar e sz []))), m, a⟩ :=
  Conv.nilSlot (st := ⟨t, s, m, a⟩) hi hd hz

omit [Mo] in
/-- weaker knowledge of nil -/
theorem relT_u {w : World} {F : Nat → Prop} {nl : Nl} {rows : List (List T)} {v : Value} (h : RelT w F (.fz nl rows) v) : RelT w F (.fz .u rows) v := by
  cases h with
  | nil _ h => exact .nil _ (by simp)
  | mt _ a cap h => exact .mt _ a cap (by simp)
  | fz _ _ sz b off cap val hF hn hz hsz hcap hc h1 hr => exact .fz _ rows sz b off cap val hF hn hz hsz hcap hc h1 hr
theorem Conv.fzU {t : Nat → V} {s : Store} {m : Nat} {a : List Nat} (i : Nat) (nl : Nl) (rows : List (List T)) (hi : t i = .t (.fz nl rows)) : Conv G ⟨t, s, m, a⟩ ⟨upd t i (.t (.fz .u rows)), s, m, a⟩ :=
  Conv.slot (st := ⟨t, s, m, a⟩) fun w F loc v h => by
    have h' : RelV w F loc (t i) v := h
    rw [hi] at h'
    cases h' with
    | gone _ o _ hx _ => cases hx
    | t _ _ h => exact .t _ _ (relT_u h)
theorem Conv.slU {t : Nat → V} {s : Store} {m : Nat} {a : List Nat} (i : Nat) (nl : Nl) (o : Nat) (hi : t i = .sl nl o) : Conv G ⟨t, s, m, a⟩ ⟨upd t i (.sl .u o), s, m, a⟩ :=
  Conv.slot (st := ⟨t, s, m, a⟩) fun w F loc v h => by
    have h' : RelV w F loc (t i) v := h
    rw [hi] at h'
    cases h' with
    | gone _ o _ hx ho => cases hx; exact .gone _ _ _ rfl ho
    | sl _ _ b n cap sz ho he hn h0 => exact .sl _ _ b n cap sz ho (by simp) (by simp) h0
theorem Conv.freezeP {t : Nat → V} {s : Store} {m : Nat} {a : List Nat} (o : Nat) (e sz : Nat) (rows : List (List T)) (ho : s o = some (some (.ar e sz rows))) :
    Conv G ⟨t, s, m, a⟩ ⟨fun i => (t i).frz o rows, fun n => cond (Nat.beq n o) (some none) ((s n).map (·.map (O.frz o rows))), m, a⟩ :=
  Conv.freeze (st := ⟨t, s, m, a⟩) (by show Mc.get s o = _; unfold Mc.get; rw [ho])
end Go.Proofs.YtobfoiomjfdjjaaDoor.Mc

/- THE MACHINE (28): values that tell less. -/
namespace Go.Proofs.YtobfoiomjfdjjaaDoor.Mc
open Go.RowKit
variable [Mo]
variable {P : Program} {G : Glob} {D : Dec}

mutual
inductive Weak : V → V → Prop where
  | refl (x : V) : Weak x x
  | nil (nl : Nl) (h : nl ≠ .e) : Weak (.t (.sc (.slice none 0 0))) (.t (.fz nl []))
  | fz (nl : Nl) (rows : List (List T)) : Weak (.t (.fz nl rows)) (.t (.fz .u rows))
  | sl (nl : Nl) (o : Nat) : Weak (.sl nl o) (.sl .u o)
  | dead (x : V) : Weak x .dead
  | ag (xs ys : List V) (h : WeakL xs ys) : Weak (.ag xs) (.ag ys)
  | tp (xs ys : List V) (h : WeakL xs ys) : Weak (.tp xs) (.tp ys)
  | ifc (t : TypeId) (x y : V) (h : Weak x y) : Weak (.ifc t x) (.ifc t y)
inductive WeakL : List V → List V → Prop where
  | nil : WeakL [] []
  | cons (x y : V) (xs ys : List V) (h : Weak x y) (hs : WeakL xs ys) : WeakL (x :: xs) (y :: ys)
end

omit [Mo] in
theorem WeakL.get : ∀ {xs ys : List V}, WeakL xs ys → xs.length = ys.length ∧ ∀ (j : Nat) (y : V), ys[j]? = some y → ∃ x, xs[j]? = some x ∧ Weak x y
  | _, _, .nil => ⟨rfl, fun j y h => by simp at h⟩
  | _, _, .cons x y xs ys h hs => by
    obtain ⟨h1, h2⟩ := WeakL.get hs
    refine ⟨by simp [h1], fun j z hj => ?_⟩
    cases j with
    | zero => cases hj; exact ⟨x, rfl, h⟩
    | succ j => simpa using h2 j z (by simpa using hj)

omit [Mo] in
theorem Weak.rel {w : World} {F : Nat → Prop} {loc : Nat → Option Loc} {x : V} {v : Value} (h : RelV w F loc x v) : ∀ {y : V}, Weak x y → RelV w F loc y v := by
  have lists : ∀ {xs ys : List V} {vs : List Value} {val : Nat → Value}, xs.length = vs.length → (∀ j, j < xs.length → vs[j]? = some (val j)) → (∀ (j : Nat) (x : V), xs[j]? = some x → ∀ {y : V}, Weak x y → RelV w F loc y (val j)) → WeakL xs ys →
      ys.length = vs.length ∧ (∀ j, j < ys.length → vs[j]? = some (val j)) ∧ ∀ (j : Nat) (y : V), ys[j]? = some y → RelV w F loc y (val j) := by
    intro xs ys vs val hl hv ih hW
    obtain ⟨h1, h2⟩ := hW.get
    refine ⟨by omega, fun j hj => hv j (by omega), fun j y hj => ?_⟩
    obtain ⟨x, hx, hw⟩ := h2 j y hj
    exact ih j x hx hw
  induction h with
  | t x v h =>
    intro y hW
    cases hW with
    | refl => exact .t x v h
    | nil nl hn => cases h; exact .t _ _ (.nil nl hn)
    | fz nl rows => exact .t _ _ (relT_u h)
    | dead => exact .dead _
  | gone x o v hx ho =>
    intro y hW
    cases hW with
    | refl => exact .gone x o v hx ho
    | nil nl hn => cases hx
    | fz nl rows => cases hx
    | sl nl o' => cases hx; exact .gone _ _ _ rfl ho
    | dead => exact .dead _
    | ag => cases hx
    | tp => cases hx
    | ifc => cases hx
  | dead v =>
    intro y hW
    cases hW <;> exact .dead _
  | sl nl o b n cap sz ho he hn h0 =>
    intro y hW
    cases hW with
    | refl => exact .sl nl o b n cap sz ho he hn h0
    | sl => exact .sl _ _ b n cap sz ho (by simp) (by simp) h0
    | dead => exact .dead _
  | sw o off len b n cap sz a ho hl ha h0 hn =>
    intro y hW
    cases hW with
    | refl => exact .sw o off len b n cap sz a ho hl ha h0 hn
    | dead => exact .dead _
  | pt o off b ho => intro y hW; cases hW with
    | refl => exact .pt o off b ho
    | dead => exact .dead _
  | pe o i off b n cap sz ho hi => intro y hW; cases hW with
    | refl => exact .pe o i off b n cap sz ho hi
    | dead => exact .dead _
  | pf cells off b o0 val hF hc hr => intro y hW; cases hW with
    | refl => exact .pf cells off b o0 val hF hc hr
    | dead => exact .dead _
  | mp o b ho => intro y hW; cases hW with
    | refl => exact .mp o b ho
    | dead => exact .dead _
  | it o b ho => intro y hW; cases hW with
    | refl => exact .it o b ho
    | dead => exact .dead _
  | sp o b ho => intro y hW; cases hW with
    | refl => exact .sp o b ho
    | dead => exact .dead _
  | spn o => intro y hW; cases hW with
    | refl => exact .spn o
    | dead => exact .dead _
  | fn f xs vs val hl hv h ih => intro y hW; cases hW with
    | refl => exact .fn f xs vs val hl hv h
    | dead => exact .dead _
  | ag xs vs val hl hv h ih => intro y hW; cases hW with
    | refl => exact .ag xs vs val hl hv h
    | dead => exact .dead _
    | ag _ ys hs =>
      obtain ⟨h1, h2, h3⟩ := lists hl hv ih hs
      exact .ag ys vs val h1 h2 h3
  | tp xs vs val hl hv h ih => intro y hW; cases hW with
    | refl => exact .tp xs vs val hl hv h
    | dead => exact .dead _
    | tp _ ys hs =>
      obtain ⟨h1, h2, h3⟩ := lists hl hv ih hs
      exact .tp ys vs val h1 h2 h3
  | ifc t x v h ih => intro y hW; cases hW with
    | refl => exact .ifc t x v h
    | dead => exact .dead _
    | ifc _ _ z hz => exact .ifc t z v (ih hz)

theorem Conv.weak {t : Nat → V} {s : Store} {m : Nat} {a : List Nat} (i : Nat) (x y : V) (hi : t i = x) (h : Weak x y) : Conv G ⟨t, s, m, a⟩ ⟨upd t i y, s, m, a⟩ :=
  Conv.slot (st := ⟨t, s, m, a⟩) fun w F loc v hv => by
    have hv' : RelV w F loc (t i) v := hv
    rw [hi] at hv'
    exact Weak.rel hv' h

/-- an object that tells less -/
theorem RelS.weakBox {B : Base} {w : World} {F : Nat → Prop} {loc : Nat → Option Loc} {s : Store} (hS : RelS G B w F loc s) {o e : Nat} {xs ys : List V} (ho : s o = some (some (.bx e xs))) (h : WeakL xs ys) :
    RelS G B w F loc (upd s o (some (some (.bx e ys)))) := by
  refine { hS with obs := ?_, dom := ?_ }
  · intro n obj hn
    by_cases hne : n = o
    · subst hne
      rw [upd_self] at hn
      cases hn
      obtain ⟨l, hl, hr⟩ := hS.obs n _ ho
      refine ⟨l, hl, ?_⟩
      cases hr with
      | ms _ _ b en clock vs he hb hs hen hks hr =>
        obtain ⟨h1, h2⟩ := h.get
        refine .ms e ys b en clock vs he hb hs hen hks ⟨by have := hr.1; omega, fun j y hj => ?_⟩
        obtain ⟨x, hx, hw⟩ := h2 j y hj
        obtain ⟨v, hv, h3, h4⟩ := hr.2 j x hx
        exact ⟨v, hv, h3, Weak.rel h4 hw⟩
      | bx _ _ cs b he hb hlen hr =>
        obtain ⟨h1, h2⟩ := h.get
        refine .bx e ys cs b he hb (by omega) fun j y hj => ?_
        obtain ⟨x, hx, hw⟩ := h2 j y hj
        obtain ⟨v, hv, h3, h4⟩ := hr j x hx
        exact ⟨v, hv, h3, Weak.rel h4 hw⟩
    · rw [upd_ne _ _ hne] at hn; exact hS.obs n obj hn
  · intro n l hl
    by_cases hne : n = o
    · subst hne; exact ⟨_, upd_self _ _ _⟩
    · obtain ⟨ob, h'⟩ := hS.dom n l hl
      exact ⟨ob, by rw [upd_ne _ _ hne]; exact h'⟩

theorem Conv.weakBox {t : Nat → V} {s : Store} {m : Nat} {a : List Nat} (o e : Nat) (xs ys : List V) (ho : s o = some (some (.bx e xs))) (h : WeakL xs ys) : Conv G ⟨t, s, m, a⟩ ⟨t, upd s o (some (some (.bx e ys))), m, a⟩ :=
  fun _ F loc _ _ hR => ⟨F, loc, hR.s.weakBox ho h, hR.t, hR.n, hR.a⟩

/-- a nil slice in a variable's cell: then an owned empty slice -/
theorem Conv.nilBox {t : Nat → V} {s : Store} {m : Nat} {a : List Nat} (o e0 : Nat) (xs : List V) (j d e sz : Nat) (ho : s o = some (some (.bx e0 xs))) (hj : xs[j]? = some (.t (.sc (.slice none 0 0)))) (hd : s d = none) (hz : Nat.blt 0 sz = true) :
    Conv G ⟨t, s, m, a⟩ ⟨t, upd (upd s d (some (some (.ar e sz [])))) o (some (some (.bx e0 (xs.set j (.sl .n d))))), m, a⟩ := by
  intro B F loc tmps w hR
  have hod : o ≠ d := by rintro rfl; rw [hd] at ho; cases ho
  obtain ⟨h1, h2⟩ := hR.s.nilRow (e := e) (s := s) hd (by simpa using hz)
  refine ⟨F, _, ?_, fun i => (hR.t i).mono (Kept.refl _ _) h2, hR.n, hR.a⟩
  refine { h1 with obs := ?_, dom := ?_ }
  · intro n obj hn
    by_cases hne : n = o
    · subst hne
      have hn' : upd (upd s d (some (some (.ar e sz [])))) n (some (some (.bx e0 (xs.set j (.sl .n d))))) n = some obj := hn
      rw [upd_self] at hn'
      cases hn'
      obtain ⟨l, hl, hr⟩ := h1.obs n _ (by rw [upd_ne _ _ hod]; exact ho)
      refine ⟨l, hl, ?_⟩
      cases hr with
      | ms _ _ b en clock vs he hb hs hen hks hr =>
        refine .ms e0 _ b en clock vs he hb hs hen hks ⟨by rw [List.length_set]; exact hr.1, fun k y hk => ?_⟩
        rw [List.getElem?_set] at hk
        split at hk
        · rename_i hjk
          subst hjk
          split at hk
          · cases hk
            obtain ⟨v, hv, h3, h4⟩ := hr.2 j _ hj
            have := relV_sc h4
            subst this
            exact ⟨_, hv, h3, relV_nil (upd_self _ _ _) rfl⟩
          · cases hk
        · exact hr.2 k y hk
      | bx _ _ cs b he hb hlen hr =>
        refine .bx e0 _ cs b he hb (by simpa using hlen) fun k y hk => ?_
        rw [List.getElem?_set] at hk
        split at hk
        · rename_i hjk
          subst hjk
          split at hk
          · cases hk
            obtain ⟨v, hv, h3, h4⟩ := hr j _ hj
            have := relV_sc h4
            subst this
            exact ⟨_, hv, h3, relV_nil (upd_self _ _ _) rfl⟩
          · cases hk
        · exact hr k y hk
    · have hn' : upd (upd s d (some (some (.ar e sz [])))) o (some (some (.bx e0 (xs.set j (.sl .n d))))) n = some obj := hn
      rw [upd_ne _ _ hne] at hn'; exact h1.obs n obj hn'
  · intro n l hl
    by_cases hne : n = o
    · subst hne; exact ⟨_, upd_self _ _ _⟩
    · obtain ⟨ob, h'⟩ := h1.dom n l hl
      refine ⟨ob, ?_⟩
      show upd (upd s d (some (some (.ar e sz [])))) o (some (some (.bx e0 (xs.set j (.sl .n d))))) n = _
      rw [upd_ne _ _ hne]; exact h'
end Go.Proofs.YtobfoiomjfdjjaaDoor.Mc

/- THE MACHINE (29): laws with what is asked of an element in one test. -/
namespace Go.Proofs.YtobfoiomjfdjjaaDoor.Mc
open Go.RowKit
variable [Mo]
variable {P : Program} {G : Glob} {D : Dec} {st : St} {o : Oper}

def okElem (D : Dec) (e : Nat) : Bool := D.has e && (match D.zero e with | some z => Nat.beq z.cells.size (D.size e) | none => false) && Nat.blt 0 (D.size e) && Nat.ble 1 (D.bytes e)

omit [Mo] in
theorem okElem_spec {e : Nat} (h : okElem D e = true) : ∃ de z, D.und e = some de ∧ D.zero e = some z ∧ Nat.beq z.cells.size (D.size e) = true ∧ Nat.blt 0 (D.size e) = true ∧ Nat.ble 1 (D.bytes e) = true := by
  simp only [okElem, Bool.and_eq_true] at h
  obtain ⟨⟨⟨h1, h2⟩, h3⟩, h4⟩ := h
  obtain ⟨de, hde⟩ := has_some h1
  split at h2
  · rename_i z hz; exact ⟨de, z, hde, hz, h2, h3, h4⟩
  · cases h2

theorem apP_ok (hg : Good P D) {β : Type} {x y : Operand} {t e d : Nat} {nl : Nl} {enc : β → List T} {xs ys : List β} {oo : Option Nat}
    (hop : o.op = .call ⟨.builtin .append, #[x, y], #[t, t]⟩) (hu : D.und t = some (.slice e)) (he : okElem D e = true)
    (hd : st.s d = none) (htg : tgtV st.s e (D.size e) (ev G st.t x) = some (nl, xs.map enc, oo)) (hsr : srcV st.s (ev G st.t y) = some (ys.map enc)) (hw : Wide (D.size e) enc)
    {bz : Nat} (hbz : D.bytes e = bz) (hby : decide ((xs.length + ys.length) * bz ≤ 140737488355328) = true) :
    OkV P G o st (.sl nl d) (upd (killS st.s oo) d (some (some (.ar e (D.size e) ((xs ++ ys).map enc))))) := by
  obtain ⟨de, z, h1, h2, h3, h4, h5⟩ := okElem_spec he
  subst hbz
  exact app_ok hg hop hu h1 h2 h3 h4 hd htg hsr hw h5 hby

theorem bsP_ok (hg : Good P D) {parts : Array (Nat × Operand)} {t e d len : Nat} {rows : List (List T)}
    (ho : o.op = .buildSlice t len parts) (hu : D.und t = some (.slice e)) (he : D.has e = true) (hd : st.s d = none) (hl : litRows D st.s e len (parts.toList.map fun p => (p.1, ev G st.t p.2)) = some rows)
    (hsm : Nat.ble (len * D.size e) 16777216 = true) : OkV P G o st (.sl .e d) (upd st.s d (some (some (.ar e (D.size e) rows)))) := by
  obtain ⟨de, hde⟩ := has_some he
  exact buildSlice_ok hg ho hu hde hd hl hsm
end Go.Proofs.YtobfoiomjfdjjaaDoor.Mc

/- THE MACHINE (30): shifts and divisions by what is not spelled out. -/
namespace Go.Proofs.YtobfoiomjfdjjaaDoor.Mc
open Go.RowKit
variable [Mo]
variable {P : Program} {G : Glob} {D : Dec} {st : St} {o : Oper}

theorem shl_ok (hg : Good P D) {t q : TypeId} {x y : Operand} {k k' : IntKind} {a b : Int} (hop : o.op = .binOp .shl t x y q) (hx : ev G st.t x = vI k a) (hy : ev G st.t y = vI k' b) (h : decide (0 ≤ b) = true) :
    OkV P G o st (vI k (k.wrap (a * 2 ^ min b.toNat k.bits))) st.s := by
  refine core_ok hg hop ?_
  show (if kd (ev G st.t x) == .ifc && !(isConst y) then none else binV D st.s .shl t (ev G st.t x) (ev G st.t y)) = _
  rw [hx, hy]
  have h' := of_decide_eq_true h
  have hn : ¬ b < 0 := by omega
  show (if (Kd.no == Kd.ifc && !isConst y) = true then none else binV D st.s .shl t (vI k a) (vI k' b)) = _
  rw [if_neg (by simp)]
  simp only [binV, vI, bin, if_neg hn, Option.map_some]
theorem shr_ok (hg : Good P D) {t q : TypeId} {x y : Operand} {k k' : IntKind} {a b : Int} (hop : o.op = .binOp .shr t x y q) (hx : ev G st.t x = vI k a) (hy : ev G st.t y = vI k' b) (h : decide (0 ≤ b) = true) :
    OkV P G o st (vI k (a.fdiv (2 ^ min b.toNat k.bits))) st.s := by
  refine core_ok hg hop ?_
  show (if kd (ev G st.t x) == .ifc && !(isConst y) then none else binV D st.s .shr t (ev G st.t x) (ev G st.t y)) = _
  rw [hx, hy]
  have h' := of_decide_eq_true h
  have hn : ¬ b < 0 := by omega
  show (if (Kd.no == Kd.ifc && !isConst y) = true then none else binV D st.s .shr t (vI k a) (vI k' b)) = _
  rw [if_neg (by simp)]
  simp only [binV, vI, bin, if_neg hn, Option.map_some]
theorem quo_ok (hg : Good P D) {t q : TypeId} {x y : Operand} {k : IntKind} {a b : Int} (hop : o.op = .binOp .quo t x y q) (hx : ev G st.t x = vI k a) (hy : ev G st.t y = vI k b) (h : (b != 0) = true) :
    OkV P G o st (vI k (k.wrap (a.tdiv b))) st.s := by
  refine core_ok hg hop ?_
  show (if kd (ev G st.t x) == .ifc && !(isConst y) then none else binV D st.s .quo t (ev G st.t x) (ev G st.t y)) = _
  rw [hx, hy]
  have hn : b ≠ 0 := by simpa using h
  show (if (Kd.no == Kd.ifc && !isConst y) = true then none else binV D st.s .quo t (vI k a) (vI k b)) = _
  rw [if_neg (by simp)]
  simp only [binV, vI, bin, intBin, if_true, if_neg hn, Option.map_some]
theorem rem_ok (hg : Good P D) {t q : TypeId} {x y : Operand} {k : IntKind} {a b : Int} (hop : o.op = .binOp .rem t x y q) (hx : ev G st.t x = vI k a) (hy : ev G st.t y = vI k b) (h : (b != 0) = true) :
    OkV P G o st (vI k (a.tmod b)) st.s := by
  refine core_ok hg hop ?_
  show (if kd (ev G st.t x) == .ifc && !(isConst y) then none else binV D st.s .rem t (ev G st.t x) (ev G st.t y)) = _
  rw [hx, hy]
  have hn : b ≠ 0 := by simpa using h
  show (if (Kd.no == Kd.ifc && !isConst y) = true then none else binV D st.s .rem t (vI k a) (vI k b)) = _
  rw [if_neg (by simp)]
  simp only [binV, vI, bin, intBin, if_true, if_neg hn, Option.map_some]
end Go.Proofs.YtobfoiomjfdjjaaDoor.Mc

/- THE MACHINE (31): from what a function computes to what a call of it does. -/
namespace Go.Proofs.YtobfoiomjfdjjaaDoor.Mc
open Go.RowKit
variable [Mo]
variable {P : Program}

def oldF (W : World) : Nat → Prop := fun b => b < W.heap.size
def noLoc : Nat → Option Loc := fun _ => none

/-- the package variables hold what is told -/
def HoldsG (W : World) : Prop := ∀ g cells, noG g = some cells → g < W.heap.size ∧ ∃ val : Nat → Value, (∀ j, j < cells.length → W.cell? ⟨g, j, none⟩ = some (val j)) ∧ ∀ (j : Nat) (x : T), cells[j]? = some x → RelT W (oldF W) x (val j)
omit [Mo] in
theorem holdsG_nil (h : gTab = []) (W : World) : HoldsG W := fun g cells hg => by unfold noG at hg; rw [h] at hg; cases hg

theorem relS_start (W : World) (hG : HoldsG W) (hn : ∀ o l, noLoc o = some l → 1000000 ≤ o) : RelS noG (baseOf noLoc W (oldF W) hn) W (oldF W) noLoc (stoL []) := by
  refine ⟨?_, ?_, ?_, ?_, ?_, fun _ h => h, rfl, rfl, rfl, Nat.le_refl _, fun _ _ _ => rfl, fun _ _ h => .inl h, ?_, fun _ => Nat.le_refl _⟩
  · intro o obj h; cases h
  · intro o l h; cases h
  · intro o o' l l' b h; cases h
  · intro o l b h; cases h
  · intro b hb; exact ⟨hb, .inl hb⟩
  · intro g cells h; exact hG g cells h

theorem CTd.calls {f : FuncId} {vs : List V} (h : CTd P f vs [] (vB true) emptyS) {W : World} (hG : HoldsG W) {args : Array Value} (hA : RelL W (oldF W) noLoc vs args.toList) :
    Calls P f args W fun e w' => e = .returned (.bool true) ∧ Below W.heap.size W w' := by
  have := h (oldF W) noLoc W args.toList (fun o l h => by cases h) (relS_start W hG _) hA
  refine this.mono ?_
  rintro e w' ⟨v, F', loc', r, s', rfl, hS, hr, rfl, rfl⟩
  refine ⟨by rw [relV_bool hr], ⟨hS.os, hS.tape, hS.output, hS.size, fun k hk => hS.keep k hk fun ⟨o, l, h, _⟩ => by cases h⟩⟩

variable {W : World} {F : Nat → Prop} {loc : Nat → Option Loc}
omit [Mo] in
theorem relL_nil : RelL W F loc [] [] := ⟨rfl, by simp⟩
omit [Mo] in
theorem relL_cons {x : V} {v : Value} {xs : List V} {vs : List Value} (h : RelV W F loc x v) (k : RelL W F loc xs vs) : RelL W F loc (x :: xs) (v :: vs) := by
  refine ⟨by simp [k.1], fun j y hj => ?_⟩
  cases j with
  | zero => cases hj; exact ⟨v, rfl, h⟩
  | succ j => simpa using k.2 j y (by simpa using hj)
omit [Mo] in
theorem relV_int (k : IntKind) (n : Int) : RelV W F loc (vI k n) (.int k n) := .t _ _ (.sc _ rfl)
omit [Mo] in
theorem relV_str (s : ByteArray) : RelV W F loc (vS s) (.string s) := .t _ _ (.sc _ rfl)
omit [Mo] in
theorem relV_bl (b : Bool) : RelV W F loc (vB b) (.bool b) := .t _ _ (.sc _ rfl)
end Go.Proofs.YtobfoiomjfdjjaaDoor.Mc

/- THE MACHINE (32): regions that draw their order: each operation's law at the few stores at which it may come; one end for all orders. -/
namespace Go.Proofs.YtobfoiomjfdjjaaDoor.Mc
open Go.RowKit
variable [Mo]
variable {P : Program} {G : Glob} {D : Dec}

/-- what an operation does, at a state: through its weakest precondition (so calls are let in) -/
def OkW (P : Program) (G : Glob) (o : Oper) (st : St) (v : V) (s' : Store) : Prop :=
  ∀ (B : Base) (F : Nat → Prop) (loc : Nat → Option Loc) (a : Act) (w : World), Rel G B F loc st a.tmps w → ∀ (K : Act → World → Prop) (Q' : Exit → Act → World → Prop),
    (∀ (x : Value) (F' : Nat → Prop) (loc' : Nat → Option Loc) (w' : World), RelS G B w' F' loc' s' → Kept w F w' F' → Same loc loc' → RelV w' F' loc' v x → K (a.put o.dst x) w') → o.wp P a w K Q'

theorem OkV.w {o : Oper} {st : St} {v : V} {s' : Store} (h : OkV P G o st v s') : OkW P G o st v s' := by
  intro B F loc a w hR K Q' hK
  obtain ⟨F', loc', w', x, r, hrun, hr, hS, hk, hs, hv⟩ := h B F loc a w hR
  unfold Oper.wp
  rw [hrun]
  rcases hr with rfl | ⟨rfl, rfl⟩
  · exact hK x F' loc' w' hS hk hs hv
  · exact hK undef F' loc' w' hS hk hs hv

/-- an operation at a state: carried out, or skipped -/
def OpLaw (P : Program) (G : Glob) (ops : Array Oper) (o : Oper) (st : St) (v : V) (s' : Store) : Prop :=
  (want ops o st = some true ∧ OkW P G o st v s') ∨ (want ops o st = some false ∧ v = vU ∧ s' = st.s)

def step1V (D : Dec) (G : Glob) (ops : Array Oper) (o : Oper) (st : St) : Option (V × Store) :=
  match want ops o st with
  | some false => some (vU, st.s)
  | some true =>
    match o.op, o.dst with
    | .store t p x, _ => match storeV D st.s t (ev G st.t p) (ev G st.t x) with
      | some s' => some (vU, s')
      | none => none
    | .box t x, some d => coreBox (.box t x) (ev G st.t) st.s d D
    | .alloc t, some d => coreBox (.alloc t) (ev G st.t) st.s d D
    | op, _ => match coreV D op (ev G st.t) st.s with
      | some v => some (v, st.s)
      | none => none
  | none => none

theorem OpLaw.step (hg : Good P D) {ops : Array Oper} {o : Oper} {st : St} {v : V} {s' : Store} (h : step1V D G ops o st = some (v, s')) : OpLaw P G ops o st v s' := by
  unfold step1V at h
  split at h
  · rename_i hw; cases h; exact .inr ⟨hw, rfl, rfl⟩
  · rename_i hw
    refine .inl ⟨hw, ?_⟩
    split at h
    · rename_i t p x hop
      split at h
      · rename_i s1 hs; cases h; exact (store_ok hg hop hs).w
      · cases h
    · rename_i t x d hop hdst
      exact (coreBox_ok (d := d) hg (by rw [hop]; exact h)).w
    · rename_i t d hop hdst
      exact (coreBox_ok (d := d) hg (by rw [hop]; exact h)).w
    · split at h
      · rename_i v hs; cases h; exact (coreV_ok hg hs).w
      · cases h
  · cases h

theorem OpLaw.ok {ops : Array Oper} {o : Oper} {st : St} {v v' : V} {s' s'' : Store} (hw : want ops o st = some true) (hv : v' = v) (hs : s'' = s') (h : OkV P G o st v' s'') : OpLaw P G ops o st v s' := by
  subst hv; subst hs; exact .inl ⟨hw, h.w⟩

def depOn (ops : Array Oper) (i j : Nat) : Bool := match ops[i]? with | some o => o.after.any fun e => Region.binds .any e && Nat.beq e.on j | none => false
def sto (s : Store) (fs : List (Store → Store)) (k : Nat) : Store := (fs.take k).foldl (fun s f => f s) s
def vOf (vals : List V) (i : Nat) : V := (vals[i]?).getD .dead
def dAt (ops : Array Oper) (d : Nat) : Option Nat := (List.range ops.size).find? fun i => match ops[i]? with | some o => (match o.dst with | some d' => Nat.beq d' d | none => false) | none => false
def tL (ops : Array Oper) (t : Nat → V) (vals : List V) (listed : Nat → Bool) : Nat → V := fun d => match dAt ops d with | some j => cond (listed j) (vOf vals j) (t d) | none => t d
def rdOf (ops : Array Oper) (i : Nat) : List Nat := match ops[i]? with | some o => o.looksAt ops | none => []
def stI (ops : Array Oper) (t : Nat → V) (s : Store) (n : Nat) (a : List Nat) (vals : List V) (fs : List (Store → Store)) (i k : Nat) : St := ⟨keepT (fun x => x) (tL ops t vals (depOn ops i)) (rdOf ops i), sto s fs k, n, a⟩
def effAt (effs : List Nat) (i : Nat) : Bool := effs.any (Nat.beq i)
/-- may operation i come when k of the effects are done? -/
def okk (ops : Array Oper) (effs : List Nat) (i k : Nat) : Bool := (List.range effs.length).all fun r => match effs[r]? with
  | some e => (!(depOn ops i e) || Nat.blt r k) && (!(Nat.beq i e || depOn ops e i) || Nat.ble k r)
  | none => true
def LawAt (P : Program) (G : Glob) (ops : Array Oper) (t : Nat → V) (s : Store) (n : Nat) (a : List Nat) (vals : List V) (fs : List (Store → Store)) (effs : List Nat) (p : Nat × Nat) : Prop :=
  OpLaw P G ops (oA ops p.1) (stI ops t s n a vals fs p.1 p.2) (vOf vals p.1) (sto s fs (cond (effAt effs p.1) (p.2 + 1) p.2))
def Laws (P : Program) (G : Glob) (ops : Array Oper) (t : Nat → V) (s : Store) (n : Nat) (a : List Nat) (vals : List V) (fs : List (Store → Store)) (effs : List Nat) : List (Nat × Nat) → Prop
  | [] => True
  | p :: ps => LawAt P G ops t s n a vals fs effs p ∧ Laws P G ops t s n a vals fs effs ps
theorem Laws.get {ops : Array Oper} {t : Nat → V} {s : Store} {n : Nat} {a : List Nat} {vals : List V} {fs : List (Store → Store)} {effs : List Nat} : ∀ {l : List (Nat × Nat)}, Laws P G ops t s n a vals fs effs l → ∀ p ∈ l, LawAt P G ops t s n a vals fs effs p
  | _ :: _, h, p, hp => by
    rcases List.mem_cons.1 hp with rfl | hp
    · exact h.1
    · exact Laws.get h.2 p hp

def dsts (ops : Array Oper) : List Nat := ops.toList.filterMap (·.dst)
/-- a way from an operation back to another along the orders that bind -/
def wayB (ops : Array Oper) (i j : Nat) : List Nat → Bool
  | [] => depOn ops i j
  | k :: ks => depOn ops i k && wayB ops k j ks
def checkAll (ops : Array Oper) (n : Nat) (effs : List Nat) (pairs : List (Nat × Nat)) (ways : List (List Nat)) : Bool :=
  (dsts ops).all (fun d => Nat.blt d n) && (List.range ops.size).all (fun j => match ops[j]? with | some o => (match o.dst with | some d => (match dAt ops d with | some i => Nat.beq i j | none => false) | none => true) | none => true) && nodupB effs && effs.all (fun e => Nat.blt e ops.size)
  && (List.range ops.size).all (fun i => (rdOf ops i).all fun d => match dAt ops d with | some j => depOn ops i j || depOn ops j i || Nat.beq i j | none => true)
  && (List.range ops.size).all (fun i => (List.range ops.size).all fun j => !(depOn ops i j) || Nat.blt j i)
  && (List.range ops.size).all (fun i => match ops[i]? with | some o => o.after.all fun e => !(Region.binds .any e) || Nat.blt e.on ops.size | none => true)
  && (List.range (effs.length - 1)).all (fun r => match effs[r]?, effs[r + 1]? with | some e, some e' => wayB ops e' e ((ways[r]?).getD []) | _, _ => true)
  && (List.range ops.size).all (fun i => (List.range (effs.length + 1)).all fun k => !(okk ops effs i k) || pairs.any fun p => Nat.beq p.1 i && Nat.beq p.2 k)
end Go.Proofs.YtobfoiomjfdjjaaDoor.Mc

/- THE MACHINE (33): regions that draw their order: the theorem. -/
namespace Go.Proofs.YtobfoiomjfdjjaaDoor.Mc
open Go.RowKit
variable [Mo]
variable {P : Program} {G : Glob} {D : Dec}

omit [Mo] in
theorem keepT_spec2 (f : V → V) (t : Nat → V) : ∀ (is : List Nat) (i : Nat), (keepT f t is i = f (t i) ∧ i ∈ is) ∨ keepT f t is i = .dead
  | [], i => .inr rfl
  | j :: is, i => by
    by_cases h : i = j
    · subst h; left; exact ⟨upd_self _ _ _, by simp⟩
    · rw [keepT, upd_ne _ _ h]
      rcases keepT_spec2 f t is i with h' | h'
      · exact .inl ⟨h'.1, List.mem_cons_of_mem _ h'.2⟩
      · exact .inr h'

structure Chk (ops : Array Oper) (n : Nat) (effs : List Nat) (pairs : List (Nat × Nat)) : Prop where
  fit : ∀ (i : Nat) (o : Oper) (d : Nat), ops[i]? = some o → o.dst = some d → d < n
  uniq : ∀ (i : Nat) (o : Oper) (d : Nat), ops[i]? = some o → o.dst = some d → dAt ops d = some i
  reads : ∀ i, i < ops.size → ∀ d ∈ rdOf ops i, ∀ j, dAt ops d = some j → depOn ops i j = true ∨ depOn ops j i = true ∨ i = j
  low : ∀ i j, depOn ops i j = true → j < i
  chain : ∀ (r e e' : Nat), effs[r]? = some e → effs[r + 1]? = some e' → ∃ l, wayB ops e' e l = true
  nodup : nodupB effs = true
  pairs : ∀ i, i < ops.size → ∀ k, k ≤ effs.length → okk ops effs i k = true → (i, k) ∈ pairs

omit [Mo] in
theorem dep_size {ops : Array Oper} {i j : Nat} (h : depOn ops i j = true) : i < ops.size := by
  unfold depOn at h
  cases ho : ops[i]? with
  | none => rw [ho] at h; cases h
  | some o => exact (Array.getElem?_eq_some_iff.1 ho).1

omit [Mo] in
theorem dAt_some {ops : Array Oper} {d j : Nat} (h : dAt ops d = some j) : ∃ o, ops[j]? = some o ∧ o.dst = some d := by
  unfold dAt at h
  have := List.find?_some h
  split at this
  · rename_i o ho
    split at this
    · rename_i d' hd'
      exact ⟨o, ho, by rw [hd', Nat.eq_of_beq_eq_true this]⟩
    · cases this
  · cases this

omit [Mo] in
theorem chk_of {ops : Array Oper} {n : Nat} {effs : List Nat} {pairs : List (Nat × Nat)} {ways : List (List Nat)} (h : checkAll ops n effs pairs ways = true) : Chk ops n effs pairs := by
  simp only [checkAll, Bool.and_eq_true] at h
  obtain ⟨⟨⟨⟨⟨⟨⟨⟨h1, h2⟩, h3⟩, h4⟩, h5⟩, h6⟩, h7⟩, h8⟩, h9⟩ := h
  refine ⟨?_, ?_, ?_, ?_, ?_, h3, ?_⟩
  · intro i o d ho hd
    have := List.all_eq_true.1 h1 d (List.mem_filterMap.2 ⟨o, by rw [← Array.getElem?_toList] at ho; exact List.mem_of_getElem? ho, hd⟩)
    simpa using this
  · intro i o d ho hd
    have hi := (Array.getElem?_eq_some_iff.1 ho).1
    have := List.all_eq_true.1 h2 i (List.mem_range.2 hi)
    simp only [ho, hd] at this
    split at this
    · rename_i j hj; rw [hj, Nat.eq_of_beq_eq_true this]
    · cases this
  · intro i hi d hd j hj
    have := List.all_eq_true.1 (List.all_eq_true.1 h5 i (List.mem_range.2 hi)) d hd
    simp only [hj, Bool.or_eq_true] at this
    rcases this with (h | h) | h
    · exact .inl h
    · exact .inr (.inl h)
    · exact .inr (.inr (Nat.eq_of_beq_eq_true h))
  · intro i j hd
    have hi := dep_size hd
    by_cases hj : j < ops.size
    · have := List.all_eq_true.1 (List.all_eq_true.1 h6 i (List.mem_range.2 hi)) j (List.mem_range.2 hj)
      simpa [hd] using this
    · exfalso
      have := List.all_eq_true.1 h7 i (List.mem_range.2 hi)
      unfold depOn at hd
      cases ho : ops[i]? with
      | none => rw [ho] at hd; cases hd
      | some o =>
        rw [ho] at hd
        simp only [ho] at this
        obtain ⟨e, he, hb⟩ := Array.any_eq_true'.1 hd
        simp only [Bool.and_eq_true] at hb
        have h2 := Array.all_eq_true'.1 this e he
        rw [hb.1] at h2
        have h3 : e.on = j := Nat.eq_of_beq_eq_true hb.2
        simp at h2
        omega
  · intro r e e' he he'
    have hr : r < effs.length - 1 := by have := (List.getElem?_eq_some_iff.1 he').1; omega
    have := List.all_eq_true.1 h8 r (List.mem_range.2 hr)
    exact ⟨_, by simpa [he, he'] using this⟩
  · intro i hi k hk ho
    have := List.all_eq_true.1 (List.all_eq_true.1 h9 i (List.mem_range.2 hi)) k (List.mem_range.2 (by omega))
    rw [ho] at this
    simp only [Bool.not_true, Bool.false_or] at this
    obtain ⟨p, hp, hb⟩ := List.any_eq_true.1 this
    simp only [Bool.and_eq_true] at hb
    have e1 := Nat.eq_of_beq_eq_true hb.1
    have e2 := Nat.eq_of_beq_eq_true hb.2
    subst e1; subst e2
    exact hp

omit [Mo] in
theorem nodup_idx : ∀ {l : List Nat}, nodupB l = true → ∀ {r r' e : Nat}, l[r]? = some e → l[r']? = some e → r = r'
  | [], _, r, r', e, h, _ => by simp at h
  | x :: xs, hd, r, r', e, h, h' => by
    simp only [nodupB, Bool.and_eq_true, Bool.not_eq_true'] at hd
    cases r with
    | zero =>
      cases r' with
      | zero => rfl
      | succ r' =>
        cases h
        exact absurd rfl (nodup_mem hd.1 x (List.mem_of_getElem? (by simpa using h')))
    | succ r =>
      cases r' with
      | zero =>
        cases h'
        exact absurd rfl (nodup_mem hd.1 x (List.mem_of_getElem? (by simpa using h)))
      | succ r' =>
        have := nodup_idx (r := r) (r' := r') (e := e) hd.2 (by simpa using h) (by simpa using h')
        omega

omit [Mo] in
theorem effAt_iff {effs : List Nat} {i : Nat} : effAt effs i = true ↔ ∃ r : Nat, effs[r]? = some i := by
  unfold effAt
  rw [List.any_eq_true]
  constructor
  · rintro ⟨e, he, hb⟩
    have he' : i = e := Nat.eq_of_beq_eq_true hb
    subst he'
    exact List.getElem?_of_mem he
  · rintro ⟨r, hr⟩
    exact ⟨i, List.mem_of_getElem? hr, Nat.beq_refl i⟩

section
variable {ops : Array Oper} {t : Nat → V} {s : Store} {n : Nat} {an : List Nat} {vals : List V} {fs : List (Store → Store)} {effs : List Nat} {pairs : List (Nat × Nat)} {B : Base}

def Lf (listed : Array Bool) (i : Nat) : Bool := listed.getD i false

structure Inv (G : Glob) (B : Base) (ops : Array Oper) (t : Nat → V) (s : Store) (n : Nat) (an : List Nat) (vals : List V) (fs : List (Store → Store)) (effs : List Nat) (listed : Array Bool) (a : Act) (w : World) : Prop where
  size : listed.size = ops.size
  down : ∀ i j, Lf listed i = true → depOn ops i j = true → Lf listed j = true
  defers : a.defers = []
  rel : ∃ k, k ≤ effs.length ∧ (∀ (r e : Nat), effs[r]? = some e → (Lf listed e = true ↔ r < k)) ∧ ∃ F loc, Rel G B F loc ⟨tL ops t vals (Lf listed), sto s fs k, n, an⟩ a.tmps w

omit [Mo] in
theorem way_down {P' : Nat → Prop} (hd : ∀ p q, P' p → depOn ops p q = true → P' q) : ∀ (l : List Nat) (i j : Nat), wayB ops i j l = true → (∀ q, depOn ops i q = true → P' q) → P' j
  | [], i, j, h, hi => hi j h
  | k :: ks, i, j, h, hi => by
    simp only [wayB, Bool.and_eq_true] at h
    exact way_down hd ks k j h.2 fun q hq => hd k q (hi k h.1) hq
omit [Mo] in
theorem Lf_set {listed : Array Bool} {i j : Nat} (hi : i < listed.size) : Lf (listed.setIfInBounds i true) j = (Nat.beq j i || Lf listed j) := by
  unfold Lf
  by_cases h : j = i
  · subst h; simp [Array.getD_eq_getD_getElem?, hi]
  · have hb : Nat.beq j i = false := by rw [← Bool.not_eq_true, Nat.beq_eq]; exact h
    rw [hb, Bool.false_or]
    simp only [Array.getD_eq_getD_getElem?, Array.getElem?_setIfInBounds]
    rw [if_neg (fun e => h e.symm)]

omit [Mo] in
theorem ready_spec {listed : Array Bool} {i : Nat} (hsz : listed.size = ops.size) (h : i ∈ Region.ready .any ops listed) :
    i < ops.size ∧ Lf listed i = false ∧ ∀ j, depOn ops i j = true → Lf listed j = true := by
  unfold Region.ready at h
  rw [List.mem_filter] at h
  obtain ⟨hr, hb⟩ := h
  have hi : i < ops.size := List.mem_range.1 hr
  simp only [Bool.and_eq_true, Bool.not_eq_true'] at hb
  refine ⟨hi, ?_, fun j hj => ?_⟩
  · have := hb.1
    have hi' : i < listed.size := by omega
    unfold Lf
    simp [Array.getD_eq_getD_getElem?, hi'] at this ⊢
    exact this
  · have h2 := hb.2
    unfold depOn at hj
    cases ho : ops[i]? with
    | none => rw [ho] at hj; cases hj
    | some o =>
      rw [ho] at hj h2
      simp only [Option.map_some, Option.getD_some] at h2
      obtain ⟨e, he, hbb⟩ := Array.any_eq_true'.1 hj
      simp only [Bool.and_eq_true] at hbb
      have := Array.all_eq_true'.1 h2 e he
      rw [hbb.1] at this
      simp only [Bool.not_true, Bool.false_or] at this
      have e1 : e.on = j := Nat.eq_of_beq_eq_true hbb.2
      rw [← e1]; exact this

omit [Mo] in
theorem ready_of {listed : Array Bool} {i : Nat} (hsz : listed.size = ops.size) (hi : i < ops.size) (h0 : Lf listed i = false) (hd : ∀ j, depOn ops i j = true → Lf listed j = true) : i ∈ Region.ready .any ops listed := by
  unfold Region.ready
  rw [List.mem_filter]
  refine ⟨List.mem_range.2 hi, ?_⟩
  have hi' : i < listed.size := by omega
  simp only [Bool.and_eq_true, Bool.not_eq_true']
  refine ⟨?_, ?_⟩
  · unfold Lf at h0
    simp [Array.getD_eq_getD_getElem?, hi'] at h0 ⊢
    exact h0
  · have ho : ops[i]? = some ops[i] := by simp [hi]
    rw [ho]
    simp only [Option.map_some, Option.getD_some]
    rw [Array.all_eq_true']
    intro e he
    by_cases hb : Region.binds .any e = true
    · rw [hb]
      simp only [Bool.not_true, Bool.false_or]
      refine hd e.on ?_
      unfold depOn
      rw [ho]
      simp only
      exact Array.any_eq_true'.2 ⟨e, he, by simp [hb]⟩
    · have : Region.binds .any e = false := by simpa using hb
      simp [this]

omit [Mo] in
theorem first_out {listed : Array Bool} (h : ∃ i, i < ops.size ∧ Lf listed i = false) : ∃ i, i < ops.size ∧ Lf listed i = false ∧ ∀ j, j < i → Lf listed j = true := by
  obtain ⟨i, hi, h0⟩ := h
  induction i using Nat.strongRecOn with
  | _ i ih =>
    by_cases hx : ∃ j, j < i ∧ Lf listed j = false
    · obtain ⟨j, hj, hj0⟩ := hx
      exact ih j hj (by omega) hj0
    · refine ⟨i, hi, h0, fun j hj => ?_⟩
      by_cases hb : Lf listed j = true
      · exact hb
      · exact absurd ⟨j, hj, by simpa using hb⟩ hx
end
end Go.Proofs.YtobfoiomjfdjjaaDoor.Mc

/- THE MACHINE (34): regions that draw their order: the step and the rule. -/
namespace Go.Proofs.YtobfoiomjfdjjaaDoor.Mc
open Go.RowKit
variable [Mo]
variable {P : Program} {G : Glob} {D : Dec}
variable {ops : Array Oper} {t : Nat → V} {s : Store} {n : Nat} {an : List Nat} {vals : List V} {fs : List (Store → Store)} {effs : List Nat} {pairs : List (Nat × Nat)} {B : Base}

theorem inv_step (hc : Chk ops n effs pairs) (hl : Laws P G ops t s n an vals fs effs pairs) {listed : Array Bool} {a : Act} {w : World} (hI : Inv G B ops t s n an vals fs effs listed a w) {i : Nat} (hi : i ∈ Region.ready .any ops listed)
    {Q' : Exit → Act → World → Prop} {K : Act → World → Prop} (hK : ∀ a' w', Inv G B ops t s n an vals fs effs (listed.setIfInBounds i true) a' w' → K a' w') : wpOp P ops Q' i K a w := by
  obtain ⟨his, hL0, hdep⟩ := ready_spec hI.size hi
  obtain ⟨k, hk, hiff, F, loc, hR⟩ := hI.rel
  have hil : i < listed.size := by rw [hI.size]; exact his
  have ho : ops[i]? = some ops[i] := by simp [his]
  generalize hoo : ops[i] = o at ho
  have hoA : oA ops i = o := by unfold oA; rw [Array.getElem?_toList, ho]; rfl
  -- k is allowed
  have hokk : okk ops effs i k = true := by
    unfold okk
    rw [List.all_eq_true]
    intro r hr
    have hr' : r < effs.length := List.mem_range.1 hr
    have he : effs[r]? = some effs[r] := List.getElem?_eq_getElem hr'
    rw [he]
    simp only [Bool.and_eq_true]
    have h1 := hiff r _ he
    refine ⟨?_, ?_⟩
    · by_cases hd : depOn ops i effs[r] = true
      · have := h1.1 (hdep _ hd)
        rw [hd]; simpa using this
      · have : depOn ops i effs[r] = false := by simpa using hd
        rw [this]; rfl
    · by_cases hd : (Nat.beq i effs[r] || depOn ops effs[r] i) = true
      · rw [hd]
        have hn : ¬ r < k := by
          intro hlt
          have hLe := h1.2 hlt
          simp only [Bool.or_eq_true] at hd
          rcases hd with hd | hd
          · rw [← Nat.eq_of_beq_eq_true hd, hL0] at hLe; cases hLe
          · rw [hI.down _ _ hLe hd] at hL0; cases hL0
        simp; omega
      · have : (Nat.beq i effs[r] || depOn ops effs[r] i) = false := by rw [← Bool.not_eq_true]; exact hd
        rw [this]; rfl
  have law := hl.get _ (hc.pairs i his k hk hokk)
  unfold LawAt at law
  simp only [hoA] at law
  -- the state that the law sees
  have hRI : Rel G B F loc (stI ops t s n an vals fs i k) a.tmps w := by
    refine ⟨hR.s, fun d => ?_, hR.n, hR.a⟩
    show RelV w F loc (keepT (fun x => x) (tL ops t vals (depOn ops i)) (rdOf ops i) d) _
    rcases keepT_spec2 (fun x => x) (tL ops t vals (depOn ops i)) (rdOf ops i) d with ⟨h1, h2⟩ | h1
    · rw [h1]
      have e : tL ops t vals (depOn ops i) d = tL ops t vals (Lf listed) d := by
        unfold tL
        cases hq : dAt ops d with
        | none => rfl
        | some q =>
          have : depOn ops i q = Lf listed q := by
            rcases hc.reads i his d h2 q hq with h | h | h
            · rw [h, hdep q h]
            · have h3 : Lf listed q = false := by
                by_cases hb : Lf listed q = true
                · rw [hI.down _ _ hb h] at hL0; cases hL0
                · simpa using hb
              have h4 : depOn ops i q = false := by
                by_cases hb : depOn ops i q = true
                · have a1 := hc.low _ _ hb
                  have a2 := hc.low _ _ h
                  omega
                · simpa using hb
              rw [h3, h4]
            · subst h
              have h4 : depOn ops i i = false := by
                by_cases hb : depOn ops i i = true
                · have a1 := hc.low _ _ hb
                  omega
                · simpa using hb
              rw [hL0, h4]
          simp only [this]
      show RelV w F loc (tL ops t vals (depOn ops i) d) _
      rw [e]; exact hR.t d
    · rw [h1]; exact .dead _
  -- what stands behind the operation
  have hnew : ∀ d, Lf (listed.setIfInBounds i true) d = (Nat.beq d i || Lf listed d) := fun d => Lf_set hil
  have hdown : ∀ p q, Lf (listed.setIfInBounds i true) p = true → depOn ops p q = true → Lf (listed.setIfInBounds i true) q = true := by
    intro p q hp hd
    rw [hnew] at hp ⊢
    simp only [Bool.or_eq_true] at hp ⊢
    rcases hp with hp | hp
    · rw [Nat.eq_of_beq_eq_true hp] at hd; exact .inr (hdep q hd)
    · exact .inr (hI.down _ _ hp hd)
  have hfit : fits ⟨tL ops t vals (Lf listed), sto s fs k, n, an⟩ o.dst = true := by
    unfold fits
    cases hd : o.dst with
    | none => rfl
    | some d => simpa using hc.fit i o d ho hd
  have hput : ∀ (s' : Store), St.put ⟨tL ops t vals (Lf listed), sto s fs k, n, an⟩ o.dst (vOf vals i) s' = ⟨tL ops t vals (Lf (listed.setIfInBounds i true)), s', n, an⟩ := by
    intro s'
    have : (match o.dst with | some d => upd (tL ops t vals (Lf listed)) d (vOf vals i) | none => tL ops t vals (Lf listed)) = tL ops t vals (Lf (listed.setIfInBounds i true)) := by
      funext d
      cases hd : o.dst with
      | none =>
        show tL ops t vals (Lf listed) d = _
        unfold tL
        cases hq : dAt ops d with
        | none => rfl
        | some q =>
          obtain ⟨oq, hoq, hdq⟩ := dAt_some hq
          have : Nat.beq q i = false := by
            rw [← Bool.not_eq_true, Nat.beq_eq]
            rintro rfl
            rw [ho] at hoq; cases hoq; rw [hd] at hdq; cases hdq
          simp only [hnew, this, Bool.false_or]
      | some d' =>
        show upd (tL ops t vals (Lf listed)) d' (vOf vals i) d = _
        by_cases hdd : d = d'
        · subst hdd
          rw [upd_self]
          unfold tL
          rw [hc.uniq i o d ho hd]
          simp only [hnew, Nat.beq_refl, Bool.true_or, cond_true]
        · rw [upd_ne _ _ hdd]
          unfold tL
          cases hq : dAt ops d with
          | none => rfl
          | some q =>
            obtain ⟨oq, hoq, hdq⟩ := dAt_some hq
            have : Nat.beq q i = false := by
              rw [← Bool.not_eq_true, Nat.beq_eq]
              rintro rfl
              rw [ho] at hoq; cases hoq; rw [hd] at hdq; exact hdd (Option.some.inj hdq).symm
            simp only [hnew, this, Bool.false_or]
    exact congrArg (fun t => St.mk t s' n an) this
  have hcount : ∃ k', k' = cond (effAt effs i) (k + 1) k ∧ k' ≤ effs.length ∧ ∀ (r e : Nat), effs[r]? = some e → (Lf (listed.setIfInBounds i true) e = true ↔ r < k') := by
    refine ⟨_, rfl, ?_⟩
    by_cases he : effAt effs i = true
    · rw [he, cond_true]
      obtain ⟨r0, hr0⟩ := effAt_iff.1 he
      have hr0l := (List.getElem?_eq_some_iff.1 hr0).1
      have h1 : ¬ r0 < k := fun h => by rw [(hiff r0 i hr0).2 h] at hL0; cases hL0
      have h2 : r0 ≤ k := by
        cases r0 with
        | zero => omega
        | succ r1 =>
          have hr1 : effs[r1]? = some effs[r1] := List.getElem?_eq_getElem (by omega)
          obtain ⟨l, hway⟩ := hc.chain r1 _ _ hr1 hr0
          have := (hiff r1 _ hr1).1 (way_down (P' := fun q => Lf listed q = true) hI.down l i _ hway hdep)
          omega
      have hrk : r0 = k := by omega
      refine ⟨by omega, fun r e hre => ?_⟩
      rw [hnew]
      simp only [Bool.or_eq_true]
      constructor
      · rintro (h | h)
        · rw [Nat.eq_of_beq_eq_true h] at hre
          have := nodup_idx hc.nodup hre hr0
          omega
        · have := (hiff r e hre).1 h; omega
      · intro h
        by_cases hr : r = r0
        · subst hr
          rw [hr0] at hre; cases hre
          exact .inl (Nat.beq_refl _)
        · exact .inr ((hiff r e hre).2 (by omega))
    · have he' : effAt effs i = false := by simpa using he
      rw [he', cond_false]
      refine ⟨hk, fun r e hre => ?_⟩
      rw [hnew]
      have : Nat.beq e i = false := by
        rw [← Bool.not_eq_true, Nat.beq_eq]
        rintro rfl
        exact he (effAt_iff.2 ⟨r, hre⟩)
      rw [this, Bool.false_or]
      exact hiff r e hre
  obtain ⟨k', hk', hk'l, hiff'⟩ := hcount
  rw [← hk'] at law
  have fin : ∀ (x : Value) (F' : Nat → Prop) (loc' : Nat → Option Loc) (w' : World), RelS G B w' F' loc' (sto s fs k') → Kept w F w' F' → Same loc loc' → RelV w' F' loc' (vOf vals i) x → K (a.put o.dst x) w' := by
    intro x F' loc' w' hS hkp hsm hv
    refine hK _ _ ⟨by simp [hI.size], hdown, by cases hd : o.dst <;> simp [Act.put, hI.defers], k', hk'l, hiff', F', loc', ?_⟩
    have := hR.put hfit hS hkp hsm hv
    rw [hput] at this
    exact this
  unfold wpOp
  rw [ho]
  simp only
  rcases law with ⟨hw, hok⟩ | ⟨hw, hv, hs⟩
  · rw [if_pos (want_spec hRI hw)]
    exact .inl (hok B F loc a w hRI K Q' fin)
  · rw [if_neg (by rw [want_spec hRI hw]; simp)]
    refine fin undef F loc w ?_ (Kept.refl _ _) (Same.refl _) ?_
    · rw [hs]; exact hR.s
    · rw [hv]; exact .tp [] [] (fun _ => undef) rfl (fun j hj => by simp at hj) (fun j x hj => by simp at hj)

theorem any_go (hc : Chk ops n effs pairs) (hl : Laws P G ops t s n an vals fs effs pairs) {Q' : Exit → Act → World → Prop}
    (hQ : ∀ (a : Act) (w : World) (listed : Array Bool), Inv G B ops t s n an vals fs effs listed a w → (∀ i, i < ops.size → Lf listed i = true) → Q' .normal a w) :
    ∀ (fuel : Nat) (listed : Array Bool) (a : Act) (w : World) (U : List Nat), Inv G B ops t s n an vals fs effs listed a w → U.length ≤ fuel → (∀ i, i < ops.size → Lf listed i = true ∨ i ∈ U) → wpAny P .any ops Q' fuel listed a w
  | 0, listed, a, w, U, hI, hU, hcov => by
    have hall : ∀ i, i < ops.size → Lf listed i = true := fun i hi => by
      rcases hcov i hi with h | h
      · exact h
      · have : U = [] := List.eq_nil_of_length_eq_zero (by omega)
        rw [this] at h; cases h
    refine ⟨?_, hQ a w listed hI hall⟩
    cases hr : Region.ready .any ops listed with
    | nil => rfl
    | cons x xs =>
      obtain ⟨h1, h2, _⟩ := ready_spec hI.size (show x ∈ Region.ready .any ops listed by rw [hr]; simp)
      rw [hall x h1] at h2; cases h2
  | fuel + 1, listed, a, w, U, hI, hU, hcov => by
    refine ⟨fun h0 => ?_, fun i hi => ?_⟩
    · refine hQ a w listed hI fun i hi => ?_
      by_cases hb : Lf listed i = true
      · exact hb
      · exfalso
        obtain ⟨j, hj, hj0, hjl⟩ := first_out ⟨i, hi, by simpa using hb⟩
        have := ready_of hI.size hj hj0 fun q hq => hjl q (hc.low _ _ hq)
        rw [h0] at this; cases this
    · obtain ⟨his, hL0, _⟩ := ready_spec hI.size hi
      have hil : i < listed.size := by rw [hI.size]; exact his
      refine inv_step hc hl hI hi fun a' w' hI' => any_go hc hl hQ fuel _ a' w' (U.erase i) hI' ?_ fun j hj => ?_
      · rcases hcov i his with h | h
        · rw [h] at hL0; cases hL0
        · rw [List.length_erase_of_mem h]; omega
      · rw [Lf_set hil]
        by_cases hji : j = i
        · subst hji; left; simp
        · rcases hcov j hj with h | h
          · left; rw [h]; simp
          · right; exact (List.mem_erase_of_ne hji).2 h

theorem relS_drew {w : World} {F : Nat → Prop} {loc : Nat → Option Loc} (h : RelS G B w F loc s) : RelS G B { w with drawn := w.drawn + 1 } F loc s := by
  have hk : Kept w F { w with drawn := w.drawn + 1 } F := fun b hb => ⟨hb, rfl⟩
  refine { obs := ?_, dom := h.dom, inj := h.inj, own := h.own, frz := h.frz, fr0 := h.fr0, os := h.os, tape := h.tape, output := h.output, size := h.size, keep := h.keep, anc := h.anc, glob := ?_, drw := fun h' => Nat.le_succ_of_le (h.drw h') }
  · intro o obj ho
    obtain ⟨l, hl, hr⟩ := h.obs o obj ho
    exact ⟨l, hl, hr.mono hk (Same.refl _) (fun _ _ => rfl) fun _ _ _ _ _ _ _ => rfl⟩
  · intro g cells hg
    obtain ⟨hF, val, hcc, hr⟩ := h.glob g cells hg
    exact ⟨hF, val, hcc, fun j x hj => (hr j x hj).mono hk⟩

/-- a region that draws its order -/
theorem Tr.draws {c : Code} {Q : Exit → St → Prop} (st' : St) (vals : List V) (fs : List (Store → Store)) (effs : List Nat) (pairs : List (Nat × Nat)) (ways : List (List Nat)) (hm : P.follows .mixedOrders = true) (h : c = .region (rI c) (rO c) true)
    (hc : checkAll (rO c) n effs pairs ways = true) (hl : Laws P G (rO c) t s n an vals fs effs pairs)
    (hconv : Conv G ⟨fun d => match dAt (rO c) d with | some j => vOf vals j | none => t d, sto s fs effs.length, n, an⟩ st') (k : Q .normal st') : Tr P G c ⟨t, s, n, an⟩ Q := by
  intro B F loc a w hR hd
  rw [h]
  refine wp_region_any hm (any_go (B := B) (chk_of hc) hl ?_ _ _ _ _ (List.range (rO c).size) ?_ (by simp) (fun i hi => .inr (List.mem_range.2 hi)))
  · intro a' w' listed hI hall
    obtain ⟨k', hk', hiff, F', loc', hR'⟩ := hI.rel
    refine ⟨hI.defers, ?_⟩
    have hke : k' = effs.length := by
      by_cases hlt : k' < effs.length
      · exfalso
        have he : effs[k']? = some effs[k'] := List.getElem?_eq_getElem hlt
        have hin : effs[k'] < (rO c).size := by
          have := hc
          simp only [checkAll, Bool.and_eq_true] at this
          have h4 := this.1.1.1.1.1.2
          have := List.all_eq_true.1 h4 _ (List.mem_of_getElem? he)
          simpa using this
        have := (hiff k' _ he).1 (hall _ hin)
        omega
      · omega
    subst hke
    have e : (fun d => match dAt (rO c) d with | some j => vOf vals j | none => t d) = tL (rO c) t vals (Lf listed) := by
      funext d
      unfold tL
      cases hq : dAt (rO c) d with
      | none => rfl
      | some q =>
        obtain ⟨oq, hoq, _⟩ := dAt_some hq
        simp only [hall q (Array.getElem?_eq_some_iff.1 hoq).1, cond_true]
    rw [e] at hconv
    obtain ⟨F2, loc2, hR2⟩ := hconv B F' loc' a'.tmps w' hR'
    exact ⟨F2, loc2, st', hR2, k⟩
  · have hL : ∀ i, Lf (Array.replicate (rO c).size false) i = false := fun i => by
      unfold Lf
      by_cases hi : i < (rO c).size <;> simp [Array.getD_eq_getD_getElem?, hi]
    refine ⟨by simp, fun i j hi => (by rw [hL] at hi; cases hi), hd, 0, by omega, fun r e he => ?_, F, loc, ?_⟩
    · rw [hL]; simp
    · have e : tL (rO c) t vals (Lf (Array.replicate (rO c).size false)) = t := by
        funext d
        unfold tL
        cases dAt (rO c) d with
        | none => rfl
        | some q => simp only [hL, cond_false]
      rw [e]
      have hk : Kept w F { w with drawn := w.drawn + 1 } F := fun b hb => ⟨hb, rfl⟩
      exact ⟨relS_drew hR.s, fun i => (hR.t i).mono hk (Same.refl _), hR.n, hR.a⟩
end Go.Proofs.YtobfoiomjfdjjaaDoor.Mc

/- THE MACHINE (35): a call as an operation's law. -/
namespace Go.Proofs.YtobfoiomjfdjjaaDoor.Mc
open Go.RowKit
variable [Mo]
variable {P : Program} {G : Glob} {D : Dec}

theorem OkW.call {o : Oper} {st : St} {fop : Operand} {args : Array Operand} {ts : Array TypeId} {f : FuncId} {fn : Func} {caps : List V} {ρ σ : Ren} {L : List (Nat × O)} {vs : List V} {r : V} {s1 : Store}
    (ho : o.op = .call ⟨.value fop, args, ts⟩) (hf : fnOf (ev G st.t fop) = some (f, caps))
    (hfn : P.funcs[f]? = some fn) (hname : (fn.name == "runtime.NumGoroutine") = false) (hb : fn.body.isSome = true)
    (hρ : okRen ρ = true) (hρn : (ρ.all fun p => Nat.ble 1000000 p.1) = true) (hL : handL ρ st.s ρ = some L) (hvs : renL (inv ρ) (args.toList.map (ev G st.t) ++ caps) = vs)
    (hct : CT P G f vs (stoL L) fun r' s' => r' = r ∧ s' = s1) (hρσ : okRen (ρ ++ σ) = true) (hfr : (σ.all fun p => (st.s p.2).isNone) = true) :
    OkW P G o st (r.ren (ren (ρ ++ σ))) (backS (ρ ++ σ) s1 st.s) := by
  intro B F loc a w hR K Q' hK
  have hn : ∀ o l, locC ρ loc o = some l → 1000000 ≤ o := by
    intro o l h
    obtain ⟨n', h1, _⟩ := (locC_iff hρ).1 h
    exact Nat.le_of_ble_eq_true (List.all_eq_true.1 hρn _ h1)
  obtain ⟨hSC, hal⟩ := hR.s.hand hρ hL hn
  obtain ⟨cvs, hcv, hcr⟩ := fnOf_spec hf (ev_rel hR fop)
  have hargs : RelL w F (locC ρ loc) vs ((args.map a.eval).toList ++ cvs) := by
    subst hvs
    rw [renL_map, List.map_append]
    refine RelL.append ⟨by simp, fun j x hj => ?_⟩ ⟨by simp [hcr.1], fun j x hj => ?_⟩
    · rw [List.getElem?_map, List.getElem?_map] at hj
      obtain ⟨y, hy, rfl⟩ := Option.map_eq_some_iff.1 hj
      obtain ⟨z, hz, rfl⟩ := Option.map_eq_some_iff.1 hy
      exact ⟨a.eval z, by rw [Array.toList_map, List.getElem?_map, hz]; rfl, (ev_rel hR z).ren hal⟩
    · rw [List.getElem?_map] at hj
      obtain ⟨y, hy, rfl⟩ := Option.map_eq_some_iff.1 hj
      obtain ⟨v, hv, hr⟩ := hcr.2 j y hy
      exact ⟨v, hv, hr.ren hal⟩
  have hrun : (execOp a.eval o).run P w = .ok (.enter f ((args.map a.eval).toList ++ cvs).toArray) w := by
    have e1 : execOp a.eval o = (do let d ← resolve a.eval ⟨.value fop, args, ts⟩ o.type; invoke d.target d.args) := by simp only [execOp, ho]
    rw [e1, Sem.run_bind]
    simp only [resolve, hcv, Deferred.ofValue, Sem.run_pure, Result.andThen_ok, invoke]
    rw [enters hfn hname hb]
    congr 2
    apply Array.ext'
    simp
  unfold Oper.wp
  rw [hrun]
  refine (hct F (locC ρ loc) w _ hn hSC hargs).mono ?_
  rintro e w' ⟨v, F', loc', r', s', rfl, hS', hrel, rfl, rfl⟩
  obtain ⟨hS2, hk, hsm, hal2⟩ := hR.s.back (σ := σ) hρ hρσ hn (handL_get hL) (fun p hp => by simpa using List.all_eq_true.1 hfr p hp) hS'
  exact hK v F' _ w' hS2 hk hsm (hrel.ren hal2)

omit [Mo] in
/-- a value's own method -/
theorem method_run {D : Dec} (hg : Good P D) {t : TypeId} {n : String} {f : FuncId} (h : D.meth t n = some f) (v : Value) (k : Nat) (w : World) : (method (k + 1) t v n).run P w = .ok (f, v) w := by
  obtain ⟨i, m, fs, h1, h2, h3, h4, h5⟩ := hg.meth t n f h
  have hu := run_underlying h5 w
  unfold method
  simp only [Sem.run_bind, run_typeInfo w h1, Result.andThen_ok, h2, h3, follow, Sem.run_pure, h4, receiverAt, hu, Place.get]
theorem OkW.callM {D : Dec} (hg : Good P D) {o : Oper} {st : St} {recv : Operand} {name : String} {args : Array Operand} {ts : Array TypeId} {t : TypeId} {x : V} {f : FuncId} {fn : Func} {ρ σ : Ren} {L : List (Nat × O)} {vs : List V} {r : V} {s1 : Store}
    (ho : o.op = .call ⟨.invoke recv name, args, ts⟩) (hx : ev G st.t recv = .ifc t x) (hm : D.meth t name = some f)
    (hfn : P.funcs[f]? = some fn) (hname : (fn.name == "runtime.NumGoroutine") = false) (hb : fn.body.isSome = true)
    (hρ : okRen ρ = true) (hρn : (ρ.all fun p => Nat.ble 1000000 p.1) = true) (hL : handL ρ st.s ρ = some L) (hvs : renL (inv ρ) (x :: args.toList.map (ev G st.t)) = vs)
    (hct : CT P G f vs (stoL L) fun r' s' => r' = r ∧ s' = s1) (hρσ : okRen (ρ ++ σ) = true) (hfr : (σ.all fun p => (st.s p.2).isNone) = true) :
    OkW P G o st (r.ren (ren (ρ ++ σ))) (backS (ρ ++ σ) s1 st.s) := by
  intro B F loc a w hR K Q' hK
  have hn : ∀ o l, locC ρ loc o = some l → 1000000 ≤ o := by
    intro o l h
    obtain ⟨n', h1, _⟩ := (locC_iff hρ).1 h
    exact Nat.le_of_ble_eq_true (List.all_eq_true.1 hρn _ h1)
  obtain ⟨hSC, hal⟩ := hR.s.hand hρ hL hn
  obtain ⟨v, hv, hrx⟩ : ∃ v, a.eval recv = .iface t v ∧ RelV w F loc x v := by
    have := ev_rel hR recv
    rw [hx] at this
    generalize a.eval recv = z at this
    cases this with
    | gone _ _ _ h _ => cases h
    | ifc _ _ v h => exact ⟨v, rfl, h⟩
  have hargs : RelL w F (locC ρ loc) vs (v :: (args.map a.eval).toList) := by
    subst hvs
    rw [renL_map, List.map_cons]
    refine ⟨by simp, fun j y hj => ?_⟩
    cases j with
    | zero => cases hj; exact ⟨v, rfl, hrx.ren hal⟩
    | succ j =>
      rw [List.getElem?_cons_succ, List.getElem?_map, List.getElem?_map] at hj
      obtain ⟨y', hy, rfl⟩ := Option.map_eq_some_iff.1 hj
      obtain ⟨z, hz, rfl⟩ := Option.map_eq_some_iff.1 hy
      exact ⟨a.eval z, by rw [List.getElem?_cons_succ, Array.toList_map, List.getElem?_map, hz]; rfl, (ev_rel hR z).ren hal⟩
  have hrun : (execOp a.eval o).run P w = .ok (.enter f (v :: (args.map a.eval).toList).toArray) w := by
    have e1 : execOp a.eval o = (do let d ← resolve a.eval ⟨.invoke recv name, args, ts⟩ o.type; invoke d.target d.args) := by simp only [execOp, ho]
    have e0 : (#[Value.iface t v] ++ args.map a.eval)[0]? = some (.iface t v) := by rw [Array.getElem?_append_left (by simp)]; rfl
    have e2 : (#[Value.iface t v] ++ args.map a.eval).extract 1 (#[Value.iface t v] ++ args.map a.eval).size = args.map a.eval := by
      rw [Array.extract_append]
      simp
    have hp : (program).run P w = .ok P w := rfl
    rw [e1, Sem.run_bind]
    simp only [resolve, hv, Sem.run_pure, Result.andThen_ok, invoke, e0, e2, callMethod, Sem.run_bind, hp, method_run hg hm v (P.types.size + 99) w, show P.types.size + Made.depth = P.types.size + 99 + 1 from rfl]
    rw [enters hfn hname hb]
    congr 2
    apply Array.ext'
    simp
  unfold Oper.wp
  rw [hrun]
  refine (hct F (locC ρ loc) w _ hn hSC hargs).mono ?_
  rintro e w' ⟨v, F', loc', r', s', rfl, hS', hrel, rfl, rfl⟩
  obtain ⟨hS2, hk, hsm, hal2⟩ := hR.s.back (σ := σ) hρ hρσ hn (handL_get hL) (fun p hp => by simpa using List.all_eq_true.1 hfr p hp) hS'
  exact hK v F' _ w' hS2 hk hsm (hrel.ren hal2)

theorem OpLaw.callD {ops : Array Oper} {o : Oper} {st : St} {f : FuncId} {fn : Func} {L : List (Nat × O)} {vs : List V} {r : V} {s1 : Store} {caps : List V} {v : V} {s' : Store} (ρ σ : Ren) (fop : Operand) (args : Array Operand) (ts : Array TypeId)
    (hct : CTd P f vs L r s1) (hfn : P.funcs[f]? = some fn) (hw : want ops o st = some true)
    (hop : o.op = .call ⟨.value fop, args, ts⟩) (hf : fnOf (ev noG st.t fop) = some (f, caps)) (hname : (fn.name == "runtime.NumGoroutine") = false) (hb : fn.body.isSome = true)
    (hρ : okRen ρ = true) (hρn : (ρ.all fun p => Nat.ble 1000000 p.1) = true) (hL : handL ρ st.s ρ = some L) (hvs : renL (inv ρ) (args.toList.map (ev noG st.t) ++ caps) = vs)
    (hρσ : okRen (ρ ++ σ) = true) (hfr : (σ.all fun p => (st.s p.2).isNone) = true) (hv : r.ren (ren (ρ ++ σ)) = v) (hs : backS (ρ ++ σ) s1 st.s = s') : OpLaw P noG ops o st v s' := by
  subst hv; subst hs
  exact .inl ⟨hw, OkW.call hop hf hfn hname hb hρ hρn hL hvs hct hρσ hfr⟩

theorem OpLaw.stepE (hg : Good P D) {ops : Array Oper} {o : Oper} {st : St} {v v' : V} {s' : Store} (h : step1V D G ops o st = some (v', s')) (hv : v' = v) : OpLaw P G ops o st v s' := by
  subst hv; exact OpLaw.step hg h
theorem OpLaw.okS {ops : Array Oper} {o : Oper} {st : St} {v v' : V} {s' s'' : Store} (hw : want ops o st = some true) (hv : v' = v) (hs : s'' = s') (h : OkV P G o st v' s'') : OpLaw P G ops o st v s' := OpLaw.ok hw hv hs h
end Go.Proofs.YtobfoiomjfdjjaaDoor.Mc

/- THE MACHINE (36): a slice of which it isn't known whether it is nil. -/
namespace Go.Proofs.YtobfoiomjfdjjaaDoor.Mc
open Go.RowKit
variable [Mo]
variable {P : Program} {G : Glob} {D : Dec}

theorem Rel.slot {B : Base} {F : Nat → Prop} {loc : Nat → Option Loc} {t : Nat → V} {s : Store} {m : Nat} {a : List Nat} {tmps : Array Value} {w : World} (hR : Rel G B F loc ⟨t, s, m, a⟩ tmps w) {i : Nat} {x : V} (h : RelV w F loc x (tmps.getD i undef)) :
    Rel G B F loc ⟨upd t i x, s, m, a⟩ tmps w :=
  ⟨hR.s, fun j => by
    by_cases hj : j = i
    · subst hj; show RelV w F loc (upd t j x j) _; rw [upd_self]; exact h
    · show RelV w F loc (upd t i x j) _; rw [upd_ne _ _ hj]; exact hR.t j, hR.n, hR.a⟩

theorem TrAt.nilFz {ops : Array Oper} {i : Nat} {t : Nat → V} {s : Store} {m : Nat} {a : List Nat} {Q : Exit → St → Prop} (j : Nat) (rows : List (List T)) (hj : t j = .t (.fz .u rows))
    (kA : rows = [] → TrAt P G ops i ⟨upd t j (.t (.sc (.slice none 0 0))), s, m, a⟩ Q) (kB : TrAt P G ops i ⟨upd t j (.t (.fz .e rows)), s, m, a⟩ Q) : TrAt P G ops i ⟨t, s, m, a⟩ Q := by
  intro B F loc ac w hR hd
  have hv : RelV w F loc (t j) _ := hR.t j
  rw [hj] at hv
  cases hv with
  | gone _ o _ hx _ => cases hx
  | t _ v h =>
    generalize hz : ac.tmps.getD j undef = z at h
    cases h with
    | nil => exact kA rfl B F loc ac w (hR.slot (by rw [hz]; exact .t _ _ (.sc _ rfl))) hd
    | mt _ ad cap => exact kB B F loc ac w (hR.slot (by rw [hz]; exact .t _ _ (.mt _ ad cap (by simp)))) hd
    | fz _ _ sz b off cap val hF hn hz' hsz hcap hc h1 hr => exact kB B F loc ac w (hR.slot (by rw [hz]; exact .t _ _ (.fz _ rows sz b off cap val hF hn hz' hsz hcap hc h1 hr))) hd

theorem TrAt.nilSl {ops : Array Oper} {i : Nat} {t : Nat → V} {s : Store} {m : Nat} {a : List Nat} {Q : Exit → St → Prop} (j o e sz : Nat) (rows : List (List T)) (hj : t j = .sl .u o) (ho : s o = some (some (.ar e sz rows)))
    (kA : rows = [] → TrAt P G ops i ⟨upd t j (.t (.sc (.slice none 0 0))), s, m, a⟩ Q) (kB : TrAt P G ops i ⟨upd t j (.sl .e o), s, m, a⟩ Q) : TrAt P G ops i ⟨t, s, m, a⟩ Q := by
  intro B F loc ac w hR hd
  have hv : RelV w F loc (t j) _ := hR.t j
  rw [hj] at hv
  obtain ⟨b, cap, cells, hl, hz, hsz, hown, h1, hr⟩ := hR.s.row (s := s) (by show Mc.get s o = _; unfold Mc.get; rw [ho])
  obtain ⟨hv', h2, h3, h4⟩ := relV_sl hv hl
  cases b with
  | none =>
    obtain ⟨h5, rfl⟩ := h4 rfl
    have : rows = [] := List.eq_nil_of_length_eq_zero h5
    refine kA this B F loc ac w (hR.slot ?_) hd
    rw [hv', h5]; exact .t _ _ (.sc _ rfl)
  | some g =>
    refine kB B F loc ac w (hR.slot ?_) hd
    rw [hv']; exact .sl .e o (some g) rows.length cap sz hl (by simp) (by simp) (by simp)

omit [Mo] in
theorem map_nil_of {α β : Type} {f : α → β} {xs : List α} (h : xs.map f = []) : xs = [] := List.map_eq_nil_iff.1 h
end Go.Proofs.YtobfoiomjfdjjaaDoor.Mc

/- THE MACHINE (37): an object under another name, the old name gone. -/
namespace Go.Proofs.YtobfoiomjfdjjaaDoor.Mc
open Go.RowKit
variable [Mo]
variable {P : Program} {G : Glob} {D : Dec}

def mvF (o d : Nat) (n : Nat) : Option Nat := some (cond (Nat.beq n o) d n)
def mvS (o d : Nat) (s : Store) : Store := fun n => cond (Nat.beq n o) (some none) (cond (Nat.beq n d) ((s o).map (·.map (O.ren (mvF o d)))) ((s n).map (·.map (O.ren (mvF o d)))))

theorem Conv.move {t : Nat → V} {s : Store} {m : Nat} {a : List Nat} (o d : Nat) (ho : (s o).isSome = true) (hd : s d = none) : Conv G ⟨t, s, m, a⟩ ⟨fun i => (t i).ren (mvF o d), mvS o d s, m, a⟩ := by
  intro B F loc tmps w hR
  have hS := hR.s
  have hod : o ≠ d := by rintro rfl; rw [show s o = none from hd] at ho; cases ho
  have hbo : ∀ n, n ≠ o → Nat.beq n o = false := fun n h => by rw [← Bool.not_eq_true, Nat.beq_eq]; exact h
  have hbd : ∀ n, n ≠ d → Nat.beq n d = false := fun n h => by rw [← Bool.not_eq_true, Nat.beq_eq]; exact h
  have hld : loc d = none := loc_none hS hd
  let loc2 : Nat → Option Loc := fun n => cond (Nat.beq n o) (some .gone) (cond (Nat.beq n d) (loc o) (loc n))
  have l2o : loc2 o = some .gone := by show cond (Nat.beq o o) _ _ = _; rw [Nat.beq_refl]; rfl
  have l2d : loc2 d = loc o := by show cond (Nat.beq d o) _ (cond (Nat.beq d d) _ _) = _; rw [hbo d (Ne.symm hod), Nat.beq_refl]; rfl
  have l2n : ∀ n, n ≠ o → n ≠ d → loc2 n = loc n := fun n h1 h2 => by show cond (Nat.beq n o) _ (cond (Nat.beq n d) _ _) = _; rw [hbo n h1, hbd n h2]; rfl
  have hal : Along (mvF o d) loc loc2 := by
    intro n n' l h1 h2
    unfold mvF at h1
    by_cases hn : n = o
    · subst hn; rw [Nat.beq_refl] at h1; cases h1; exact l2d.trans h2
    · rw [hbo n hn] at h1; cases h1
      have : n ≠ d := by rintro rfl; rw [hld] at h2; cases h2
      exact (l2n n hn this).trans h2
  have hcase : ∀ n l, loc2 n = some l → (n = o ∧ l = .gone) ∨ (n = d ∧ loc o = some l) ∨ (n ≠ o ∧ n ≠ d ∧ loc n = some l) := by
    intro n l h
    by_cases h1 : n = o
    · subst h1; rw [l2o] at h; cases h; exact .inl ⟨rfl, rfl⟩
    · by_cases h2 : n = d
      · subst h2; rw [l2d] at h; exact .inr (.inl ⟨rfl, h⟩)
      · rw [l2n n h1 h2] at h; exact .inr (.inr ⟨h1, h2, h⟩)
  have hsd : mvS o d s d = (s o).map (·.map (O.ren (mvF o d))) := by unfold mvS; rw [hbo d (Ne.symm hod), Nat.beq_refl]; rfl
  have hsn : ∀ n, n ≠ o → n ≠ d → mvS o d s n = (s n).map (·.map (O.ren (mvF o d))) := fun n h1 h2 => by unfold mvS; rw [hbo n h1, hbd n h2]; rfl
  have hso : mvS o d s o = some none := by unfold mvS; rw [Nat.beq_refl]; rfl
  have key : ∀ n n' obj, loc2 n' = loc n → s n = some obj → ∃ l, loc2 n' = some l ∧ RelO w F loc2 (obj.map (O.ren (mvF o d))) l := by
    intro n n' obj hl hn
    obtain ⟨l, h1, h2⟩ := hS.obs n obj hn
    refine ⟨l, hl.trans h1, ?_⟩
    cases obj with
    | none => cases h2; exact .gone
    | some x => exact h2.ren hal
  refine ⟨F, loc2, ⟨⟨?_, ?_, ?_, ?_, hS.frz, hS.fr0, hS.os, hS.tape, hS.output, hS.size, hS.keep, ?_, hS.glob, hS.drw⟩, fun i => (hR.t i).ren hal, hR.n, hR.a⟩⟩
  · intro n obj hn
    replace hn : mvS o d s n = some obj := hn
    by_cases h1 : n = o
    · subst h1; rw [hso] at hn; cases hn; exact ⟨.gone, l2o, .gone⟩
    · by_cases h2 : n = d
      · subst h2
        rw [hsd] at hn
        obtain ⟨ob, h3, rfl⟩ := Option.map_eq_some_iff.1 hn
        exact key o n ob l2d h3
      · rw [hsn n h1 h2] at hn
        obtain ⟨ob, h3, rfl⟩ := Option.map_eq_some_iff.1 hn
        exact key n n ob (l2n n h1 h2) h3
  · intro n l hl
    rcases hcase n l hl with ⟨rfl, _⟩ | ⟨rfl, h⟩ | ⟨h1, h2, h⟩
    · exact ⟨_, hso⟩
    · obtain ⟨ob, h3⟩ := hS.dom o l h
      exact ⟨_, hsd.trans (by rw [show s o = some ob from h3]; rfl)⟩
    · obtain ⟨ob, h3⟩ := hS.dom n l h
      exact ⟨_, (hsn n h1 h2).trans (by rw [show s n = some ob from h3]; rfl)⟩
  · intro n n' l l' b h1 h2 h3 h4
    rcases hcase n l h1 with ⟨_, rfl⟩ | ⟨rfl, a1⟩ | ⟨a0, a2, a1⟩
    · cases h3
    · rcases hcase n' l' h2 with ⟨_, rfl⟩ | ⟨rfl, b1⟩ | ⟨b0, b2, b1⟩
      · cases h4
      · rfl
      · exact absurd (hS.inj o n' l l' b a1 b1 h3 h4).symm b0
    · rcases hcase n' l' h2 with ⟨_, rfl⟩ | ⟨rfl, b1⟩ | ⟨b0, b2, b1⟩
      · cases h4
      · exact absurd (hS.inj n o l l' b a1 b1 h3 h4) a0
      · exact hS.inj n n' l l' b a1 b1 h3 h4
  · intro n l b h1 h2
    rcases hcase n l h1 with ⟨_, rfl⟩ | ⟨rfl, a1⟩ | ⟨a0, a2, a1⟩
    · cases h2
    · exact hS.own o l b a1 h2
    · exact hS.own n l b a1 h2
  · intro n l hn
    have hne : n ≠ d := by
      rintro rfl
      rcases hS.anc n l hn with h | h <;> rw [hld] at h <;> cases h
    by_cases h1 : n = o
    · subst h1; exact .inr l2o
    · rw [l2n n h1 hne]; exact hS.anc n l hn

/-- an object that is forgotten, its name gone -/
theorem Conv.kill {t : Nat → V} {s : Store} {m : Nat} {a : List Nat} (o d : Nat) (ho : (s o).isSome = true) (hd : s d = none) : Conv G ⟨t, s, m, a⟩ ⟨fun i => (t i).ren (mvF o d), mvS o d s, m, a⟩ := Conv.move o d ho hd
end Go.Proofs.YtobfoiomjfdjjaaDoor.Mc

/- THE MACHINE (38): is a window nil? -/
namespace Go.Proofs.YtobfoiomjfdjjaaDoor.Mc
open Go.RowKit
variable [Mo]
variable {P : Program} {G : Glob} {D : Dec}

omit [Mo] in
theorem slEq_run {t e : TypeId} {w : World} {ox oy : Operand} {ad : Option Addr} {len cap : Nat} (hu : P.underlying t = some (.slice e)) :
    ((do eqGuard .eql t ox oy (.slice ad len cap) (.slice none 0 0); binOp .eql t (.slice ad len cap) (.slice none 0 0) : Sem Value)).run P w = .ok (.bool (isNil (.slice ad len cap))) w := by
  rw [Sem.run_bind, guard_plain (by simp) (by simp)]
  simp only [Result.andThen_ok]
  have : binOp .eql t (.slice ad len cap) (.slice none 0 0) = (do pure (.bool (← Op.equal t (.slice ad len cap) (.slice none 0 0))) : Sem Value) := by
    unfold binOp
    split <;> first | rfl | (rename_i hh _; cases hh; done) | (exfalso; simp_all; done) | simp_all
  rw [this, Sem.run_bind, equal_nil hu (by rfl)]; rfl

theorem TrAt.nilSw (hg : Good P D) {ops : Array Oper} {i : Nat} {t : Nat → V} {s : Store} {m : Nat} {a : List Nat} {Q : Exit → St → Prop} (j d o off len ty e e' sz : Nat) (q : TypeId) (rows : List (List T))
    (hop : (oA ops i).op = .binOp .eql ty (.tmp j) (.const (.slice none 0 0)) q) (hu : D.und ty = some (.slice e)) (hj : t j = .sw o off len) (hrow : s o = some (some (.ar e' sz rows)))
    (ho : ops.toList[i]? = some (oA ops i)) (hw : want ops (oA ops i) ⟨t, s, m, a⟩ = some true) (hdd : (oA ops i).dst = some d) (hd : Nat.blt d m = true)
    (kA : len = 0 → TrAt P G ops (i + 1) ⟨upd t d (vB true), s, m, a⟩ Q) (kB : TrAt P G ops (i + 1) ⟨upd t d (vB false), s, m, a⟩ Q) : TrAt P G ops i ⟨t, s, m, a⟩ Q := by
  unfold TrAt at *
  rw [drop_at ho]
  intro B F loc ac w hR hdf
  have hv : RelV w F loc (t j) _ := hR.t j
  rw [hj] at hv
  obtain ⟨b, cap, cells, hl, _⟩ := hR.s.row (s := s) (by show Mc.get s o = _; unfold Mc.get; rw [hrow])
  obtain ⟨ad, hz, hle, ha, h0, hn⟩ := relV_sw hv hl
  have hrun : (execOp ac.eval (oA ops i)).run P w = .ok (.value (.bool (isNil (.slice ad len (cap - off))))) w := by
    have e1 : ac.eval (.tmp j) = ac.tmps.getD j undef := rfl
    simp only [execOp, hop]
    rw [e1, hz]
    have h := slEq_run (P := P) (w := w) (ox := .tmp j) (oy := .const (.slice none 0 0)) (ad := ad) (len := len) (cap := cap - off) (hg.und _ _ hu).1
    rw [Sem.run_bind]
    have e2 : ac.eval (.const (.slice none 0 0)) = .slice none 0 0 := rfl
    rw [e2, h]
    rfl
  show if _ then _ else _
  rw [want_spec hR hw]
  simp only [if_true]
  left
  unfold Oper.wp
  rw [hrun]
  have hdf' : (ac.put (oA ops i).dst (.bool (isNil (.slice ad len (cap - off))))).defers = [] := by cases ho : (oA ops i).dst <;> simp [Act.put, hdf]
  cases ad with
  | none =>
    have hlen : len = 0 := by
      rcases Nat.eq_zero_or_pos len with h | h
      · exact h
      · obtain ⟨g, _, hg'⟩ := ha h; cases hg'
    have := hR.put (d := (oA ops i).dst) (v := vB true) (x := .bool true) (by rw [hdd]; exact hd) hR.s (Kept.refl _ _) (Same.refl _) (.t _ _ (.sc _ rfl))
    rw [hdd] at this
    refine kA hlen B F loc _ w ?_ hdf'
    rw [hdd]; exact this
  | some g =>
    have := hR.put (d := (oA ops i).dst) (v := vB false) (x := .bool false) (by rw [hdd]; exact hd) hR.s (Kept.refl _ _) (Same.refl _) (.t _ _ (.sc _ rfl))
    rw [hdd] at this
    refine kB B F loc _ w ?_ hdf'
    rw [hdd]; exact this
end Go.Proofs.YtobfoiomjfdjjaaDoor.Mc

/- THE MACHINE (39): a piece of a nil slice; structs that are compared. -/
namespace Go.Proofs.YtobfoiomjfdjjaaDoor.Mc
open Go.RowKit
variable [Mo]
variable {P : Program} {G : Glob} {D : Dec} {st : St} {o : Oper}

theorem cutNil_ok (hg : Good P D) {t e : TypeId} {x : Operand} {lo hi : Option Operand} {l h : Int} (hop : o.op = .slice t x lo hi none) (hu : D.und t = some (.slice e)) (he : D.has e = true)
    (hx : ev G st.t x = .t (.sc (.slice none 0 0))) (hl : bound (lo.map (ev G st.t)) 0 = some l) (hh : bound (hi.map (ev G st.t)) 0 = some h) (hb : bnds 0 l h = true) :
    OkV P G o st (.t (.sc (.slice none 0 0))) st.s := by
  refine core_ok hg hop ?_
  show sliceV D st.s t (ev G st.t x) (lo.map (ev G st.t)) (hi.map (ev G st.t)) = _
  rw [hx]
  have hb' := bnds_spec hb
  simp only [sliceV, hu, he, Bool.not_true, Bool.false_eq_true, if_false, hl, hh]
  rw [if_pos ⟨by omega, by omega⟩]
end Go.Proofs.YtobfoiomjfdjjaaDoor.Mc

/- THE MACHINE (40): arguments that are handed in, as data: out of their readings. -/
namespace Go.Proofs.YtobfoiomjfdjjaaDoor.Mc
open Go.RowKit
variable [Mo]
variable {P : Program} {W : World} {H : Type} {enc : TypeId × Value → H} {base : Nat} {sp : Nat → Bool} {held : Bool}

/-- cells, as data -/
def RelCells (W : World) (cs : List Value) (ts : List T) : Prop := ts.length = cs.length ∧ ∀ (j : Nat) (y : T), ts[j]? = some y → ∃ v, cs[j]? = some v ∧ v.oneCell' = true ∧ RelT W (oldF W) y v

omit [Mo] in
theorem RelCells.cat {cs : List Value} {o n m : Nat} {A B : List T} (h : RelCells W ((cs.drop o).take n) A) (k : RelCells W ((cs.drop (o + n)).take m) B) (hn : A.length = n) : RelCells W ((cs.drop o).take (n + m)) (A ++ B) := by
  have hl : n ≤ (cs.drop o).length := by have := h.1; rw [List.length_take] at this; omega
  have e : (cs.drop o).take (n + m) = (cs.drop o).take n ++ (cs.drop (o + n)).take m := by rw [List.take_add, List.drop_drop]
  rw [e]
  refine ⟨by rw [List.length_append, List.length_append, h.1, k.1], fun j y hj => ?_⟩
  rw [List.getElem?_append] at hj ⊢
  have hc : ((cs.drop o).take n).length = n := by rw [List.length_take]; omega
  rw [hc]
  rw [hn] at hj
  split
  · rename_i hlt; rw [if_pos hlt] at hj; exact h.2 j y hj
  · rename_i hlt; rw [if_neg hlt] at hj; exact k.2 (j - n) y hj

omit [Mo] in
theorem RelCells.whole {cs : List Value} {n : Nat} {A : List T} (h : RelCells W ((cs.drop 0).take n) A) (hn : cs.length = n) : RelCells W cs A := by
  rw [List.drop_zero, List.take_of_length_le (by omega)] at h; exact h

mutual
/-- a reading's bulk -/
def bulkD {H : Type} : DataW H → Nat
  | .lit (.string bytes) => bytes.length + 1
  | .lit _ => 1
  | .nil => 1
  | .ptr d => bulkD d + 1
  | .slice elems spare => bulkL elems + bulkL spare + 1
  | .agg parts => bulkL parts + 1
  | .iface _ d => bulkD d + 1
  | .map entries => bulkEs entries + 1
  | .held _ => 1
def bulkL {H : Type} : List (DataW H) → Nat
  | [] => 0
  | d :: r => bulkD d + bulkL r
def bulkEs {H : Type} : List (Lit × DataW H) → Nat
  | [] => 0
  | x :: r => bulkE x + bulkEs r
def bulkE {H : Type} : Lit × DataW H → Nat
  | (.string bytes, d) => bytes.length + bulkD d + 1
  | (_, d) => bulkD d + 1
end
omit [Mo] in
theorem bulk_sum : ∀ (l : List (DataW H)), bulkL l = (l.map bulkD).sum
  | [] => by simp [bulkL]
  | d :: r => by simp [bulkL, bulk_sum r]
omit [Mo] in
theorem bulk_pos : ∀ (d : DataW H), 1 ≤ bulkD d := fun d => by
  cases d with
  | lit l => cases l <;> simp only [bulkD] <;> omega
  | _ => simp only [bulkD] <;> omega
/-- every reading of the type is data -/
def Opens (P : Program) (W : World) (enc : TypeId × Value → H) (base : Nat) (sp : Nat → Bool) (held : Bool) (t : TypeId) {α : Type} (en : α → List T) (gd : α → Nat → Prop) : Prop :=
  ∀ (fuel : Nat) (cs : List Value) (x : DataW H × List MemPlace), DataW.trod enc P W base sp held fuel t cs = some x → ∃ a : α, RelCells W cs (en a) ∧ gd a (bulkD x.1)

omit [Mo] in
theorem relCells_one {y : T} {v : Value} (h1 : v.oneCell' = true) (h : RelT W (oldF W) y v) : RelCells W [v] [y] := by
  refine ⟨rfl, fun j z hj => ?_⟩
  cases j with
  | zero => cases hj; exact ⟨v, rfl, h1, h⟩
  | succ j => simp at hj

omit [Mo] in
theorem opens_int {t : TypeId} {k : IntKind} (ht : P.underlying t = some (.int k)) : Opens P W enc base sp held t (fun n : Int => [T.sc (.int k n)]) (fun n _ => (Lit.int k n).wf = true) := fun _ _ _ h => by
  obtain ⟨n, rfl, _, hw⟩ := DataW.trod_int ht h
  exact ⟨n, relCells_one rfl (.sc _ rfl), hw⟩
omit [Mo] in
theorem opens_bool {t : TypeId} (ht : P.underlying t = some .bool) : Opens P W enc base sp held t (fun b : Bool => [T.sc (.bool b)]) (fun _ _ => True) := fun _ _ _ h => by
  obtain ⟨b, rfl, _⟩ := DataW.trod_bool ht h
  exact ⟨b, relCells_one rfl (.sc _ rfl), trivial⟩
omit [Mo] in
theorem opens_string {t : TypeId} (ht : P.underlying t = some .string) : Opens P W enc base sp held t (fun s : ByteArray => [T.sc (.string s)]) (fun s m => s.size ≤ maxLen ∧ s.size + 1 ≤ m) := fun _ _ _ h => by
  obtain ⟨s, rfl, rfl, hw⟩ := DataW.trod_string ht h
  refine ⟨s, relCells_one rfl (.sc _ rfl), hw, ?_⟩
  simp only [bulkD]
  have e : s.data.toList.length = s.size := Array.length_toList
  first | omega | (simp; omega)

omit [Mo] in
theorem opens_slice {t e : TypeId} {α : Type} [Inhabited α] {en : α → List T} {gd : α → Nat → Prop} (ht : P.underlying t = some (.slice e)) (hp : 0 < P.cellsOf e) (he : Opens P W enc base sp held e en gd) :
    Opens P W enc base sp held t (fun xs : List α => [T.fz .u (xs.map en)]) (fun xs m => xs.length ≤ maxLen ∧ ∃ ns : List Nat, ns.length = xs.length ∧ ns.sum + 1 ≤ m ∧ ∀ i (h : i < xs.length), gd xs[i] (ns.getD i 0)) := by
  intro fuel cs x h
  rcases DataW.trod_slice ht h with ⟨rfl, rfl⟩ | ⟨a, len, cap, elems, rest, n, _, rfl, rfl, hb, hlc, hm, hlen, hel, _, _⟩
  · exact ⟨[], relCells_one rfl (.nil .u (by simp)), by simp, [], rfl, by simp [bulkD], by simp⟩
  have each : ∀ i, i < len → ∃ (c : List Value) (z : α), W.cells? base (a.add (i * P.cellsOf e)) (P.cellsOf e) = some c ∧ RelCells W c (en z) ∧ gd z ((elems.map fun y => bulkD y.1).getD i 0) := by
    intro i hi
    have h1 := hel i hi
    rw [List.getElem?_eq_getElem (by omega)] at h1
    obtain ⟨c, h2, h3⟩ := Option.bind_eq_some_iff.1 h1
    obtain ⟨z, hz⟩ := he n c _ h3
    rw [List.getD, List.getElem?_map, List.getElem?_eq_getElem (show i < elems.length by omega)]
    exact ⟨c, z, h2, hz⟩
  let cv : Nat → List Value := fun i => if h : i < len then (each i h).choose else []
  let zv : Nat → α := fun i => if h : i < len then (each i h).choose_spec.choose else default
  have spec : ∀ i, i < len → W.cells? base (a.add (i * P.cellsOf e)) (P.cellsOf e) = some (cv i) ∧ RelCells W (cv i) (en (zv i)) ∧ gd (zv i) ((elems.map fun y => bulkD y.1).getD i 0) := by
    intro i hi
    have := (each i hi).choose_spec.choose_spec
    simp only [cv, zv, dif_pos hi]
    exact this
  refine ⟨(List.range len).map zv, ?_, by simp; omega, elems.map fun y => bulkD y.1, by simp [hlen], ?_, fun i hi => by
    have hi' : i < len := by simpa using hi
    rw [List.getElem_map, List.getElem_range]
    exact (spec i hi').2.2⟩
  rotate_left
  · simp only [bulkD, bulk_sum, List.map_map, Function.comp_def]
    omega
  by_cases h0 : len = 0
  · subst h0; exact relCells_one rfl (.mt .u a cap (by simp))
  have hcells : ∀ i, i < len → (cv i).length = P.cellsOf e ∧ ∀ j, j < P.cellsOf e → W.cell? ((a.add (i * P.cellsOf e)).add j) = (cv i)[j]? := fun i hi => (World.cells?_some (spec i hi).1).2
  have hget : ∀ i, i < len → ∀ j, j < P.cellsOf e → ∃ v, (cv i)[j]? = some v := fun i hi j hj => ⟨_, List.getElem?_eq_getElem (by rw [(hcells i hi).1]; exact hj)⟩
  obtain ⟨v0, hv0⟩ := hget 0 (by omega) 0 hp
  have hc0 := (hcells 0 (by omega)).2 0 hp
  rw [Nat.zero_mul] at hc0
  have hadd0 : (a.add 0).add 0 = a := by simp [Addr.add]
  rw [hadd0, hv0] at hc0
  have hspot := World.cell?_spot hc0
  obtain ⟨b, off, spot⟩ := a
  obtain rfl : spot = none := hspot
  have hblk : b < W.heap.size := by
    have := hc0
    unfold World.cell? at this
    by_cases hb : b < W.heap.size
    · exact hb
    · simp [Array.getElem?_eq_none (Nat.le_of_not_lt hb)] at this
  have hplace : ∀ i j, ((Addr.mk b off none).add (i * P.cellsOf e)).add j = ⟨b, off + i * P.cellsOf e + j, none⟩ := fun i j => by rw [Addr.add_mid, Addr.add_mid]
  have hidx : ∀ (i : Nat) (r : List T), (((List.range len).map zv).map en)[i]? = some r → i < len ∧ r = en (zv i) := by
    intro i r hi
    rw [List.getElem?_map, List.getElem?_map] at hi
    obtain ⟨q, hq, rfl⟩ := Option.map_eq_some_iff.1 hi
    obtain ⟨z, hz, rfl⟩ := Option.map_eq_some_iff.1 hq
    obtain ⟨h1, h2⟩ := List.getElem?_eq_some_iff.1 hz
    simp at h1 h2
    subst h2
    exact ⟨h1, rfl⟩
  have hl : (((List.range len).map zv).map en).length = len := by simp
  refine relCells_one rfl ?_
  have := RelT.fz (w := W) (F := oldF W) .u (((List.range len).map zv).map en) (P.cellsOf e) b off cap (fun i j => (cv i).getD j undef) hblk (by intro hn; rw [hn] at hl; simp at hl; omega) hp ?_ (by rw [hl]; exact hlc) ?_ ?_ ?_
  · rw [hl] at this; exact this
  · intro r hr
    obtain ⟨i, hi⟩ := List.getElem?_of_mem hr
    obtain ⟨h1, rfl⟩ := hidx i r hi
    rw [(spec i h1).2.1.1, (hcells i h1).1]
  · intro i r hi j hj
    obtain ⟨h1, rfl⟩ := hidx i r hi
    obtain ⟨v, hv⟩ := hget i h1 j hj
    have := (hcells i h1).2 j hj
    rw [hplace, hv] at this
    rw [this]; simp [List.getD, hv]
  · intro i r hi j hj
    obtain ⟨h1, rfl⟩ := hidx i r hi
    obtain ⟨v, hv⟩ := hget i h1 j hj
    have hlen2 : (en (zv i)).length = P.cellsOf e := by rw [(spec i h1).2.1.1, (hcells i h1).1]
    obtain ⟨u, hu, h2, _⟩ := (spec i h1).2.1.2 j _ (List.getElem?_eq_getElem (by omega))
    show ((cv i).getD j undef).oneCell' = true
    have : (cv i).getD j undef = u := by simp [List.getD, hu]
    rw [this]; exact h2
  · intro i r hi j y hy
    obtain ⟨h1, rfl⟩ := hidx i r hi
    obtain ⟨u, hu, _, h3⟩ := (spec i h1).2.1.2 j y hy
    have : (cv i).getD j undef = u := by simp [List.getD, hu]
    show RelT W (oldF W) y ((cv i).getD j undef)
    rw [this]; exact h3

omit [Mo] in
/-- a field's cells -/
theorem opens_field {t : TypeId} {fs : Array Field} {fuel : Nat} {cs : List Value} {x : DataW H × List MemPlace} (ht : P.underlying t = some (.struct fs)) (h : DataW.trod enc P W base sp held fuel t cs = some x) :
    cs.length = P.cellsOf t ∧ ∃ ns : List Nat, ns.length = fs.size ∧ ns.sum + 1 ≤ bulkD x.1 ∧ ∀ (i : Nat) (f : Field) {α : Type} {en : α → List T} {gd : α → Nat → Prop}, fs[i]? = some f → Opens P W enc base sp held f.type en gd → ∃ a : α, RelCells W ((cs.drop f.offset).take (P.cellsOf f.type)) (en a) ∧ gd a (ns.getD i 0) := by
  obtain ⟨xs, n, _, rfl, hl, hlen, hf⟩ := DataW.trod_struct ht h
  refine ⟨hl, xs.map fun y => bulkD y.1, by simp [hlen], ?_, fun i f α en gd hi ho => ?_⟩
  · simp only [bulkD, bulk_sum, List.map_map, Function.comp_def]
    omega
  have h1 := hf i f hi
  have : i < xs.length := by rw [hlen]; exact (Array.getElem?_eq_some_iff.1 hi).1
  rw [List.getElem?_eq_getElem this] at h1
  rw [List.getD, List.getElem?_map, List.getElem?_eq_getElem this]
  exact ho n _ _ h1
end Go.Proofs.YtobfoiomjfdjjaaDoor.Mc

/- THE MACHINE (41): arguments read behind the call as they did before. -/
namespace Go.Proofs.YtobfoiomjfdjjaaDoor.Mc
open Go.RowKit
variable [Mo]
variable {P : Program} {H : Type} {enc : TypeId × Value → H}

def readable (P : Program) (ts : List TypeId) : Bool := ts.all fun t => P.readableRec t && decide (t < P.types.size)

omit [Mo] in
theorem trod_stay (hl : laidOutB P = true) {W W' : World} (hb : Go.RowKit.Below W.heap.size W W') {t : TypeId} (hr : P.readableRec t = true) (ht : t < P.types.size) {v : Value} {d : DataW H} {ps : List MemPlace}
    (h : DataW.Trod enc P W 0 (fun _ => true) true t v d ps) : DataW.Trod enc P W' 0 (fun b => decide (b < W.heap.size)) true t v d ps := by
  obtain ⟨fuel, h⟩ := h
  have hlt : ∀ p ∈ ps, p.block < W.heap.size := DataW.trod_lt fuel t _ _ h
  exact ⟨fuel, DataW.trod_stays (kids_book hl hr) (book_sized hr) (fun h => by cases h) ⟨ht, book_self t⟩ h (fun x hx => hb.same (hlt x hx)) (fun x hx => by simpa using hlt x hx)⟩

omit [Mo] in
theorem trodAll_stay (hl : laidOutB P = true) {W W' : World} (hb : Go.RowKit.Below W.heap.size W W') : ∀ {ts : List TypeId} {vs : List Value} {ds : List (DataW H)} {ps : List MemPlace}, readable P ts = true →
    DataW.TrodAll enc P W 0 (fun _ => true) true ts vs ds ps → DataW.TrodAll enc P W' 0 (fun b => decide (b < W.heap.size)) true ts vs ds ps
  | [], [], [], _, _, h => h
  | t :: ts, v :: vs, d :: ds, _, hr, h => by
    obtain ⟨p, q, h1, h2, h3⟩ := h
    simp only [readable, List.all_cons, Bool.and_eq_true] at hr
    exact ⟨p, q, trod_stay hl hb hr.1.1 (by simpa using hr.1.2) h1, trodAll_stay hl hb hr.2 h2, h3⟩
  | [], [], _ :: _, _, _, h => h.elim
  | [], _ :: _, _, _, _, h => h.elim
  | _ :: _, [], _, _, _, h => h.elim
  | _ :: _, _ :: _, [], _, _, h => h.elim
end Go.Proofs.YtobfoiomjfdjjaaDoor.Mc

/- THE MACHINE (42): an argument as a value. -/
namespace Go.Proofs.YtobfoiomjfdjjaaDoor.Mc
open Go.RowKit
variable [Mo]
variable {P : Program} {W : World} {H : Type} {enc : TypeId × Value → H} {base : Nat} {sp : Nat → Bool} {held : Bool}

omit [Mo] in
theorem arg_row {r : Reach} {b0 : Nat} {t : TypeId} {fs : Array Field} {v : Value} {d : DataW H} {ps : List MemPlace} {α : Type} {en : α → List T} {gd : α → Nat → Prop} (ht : P.underlying t = some (.struct fs)) (hval : Value.okWide P W r b0 t v) (ho : Opens P W enc base sp held t en gd)
    (hd : DataW.Trod enc P W base sp held t v d ps) : ∃ a : α, RelV W (oldF W) noLoc (.ag ((en a).map .t)) v ∧ gd a (bulkD d) := by
  unfold Value.okWide at hval
  rw [ht] at hval
  obtain ⟨cs, rfl, _, _⟩ := hval
  obtain ⟨fuel, h⟩ := hd
  obtain ⟨a, hc, hg⟩ := ho fuel _ _ h
  refine ⟨a, ?_, hg⟩
  have hcs : (Value.agg cs).cells.toList = cs.toList := rfl
  rw [hcs] at hc
  have e : cs = cs.toList.toArray := by simp
  rw [e]
  refine .ag _ cs.toList (fun j => cs.toList.getD j undef) (by rw [List.length_map]; exact hc.1) (fun j hj => ?_) (fun j y hj => ?_)
  · rw [List.length_map, hc.1] at hj; rw [List.getD, List.getElem?_eq_getElem hj]; rfl
  · rw [List.getElem?_map] at hj
    obtain ⟨z, hz, rfl⟩ := Option.map_eq_some_iff.1 hj
    obtain ⟨u, hu, _, hrel⟩ := hc.2 j z hz
    have : cs.toList.getD j undef = u := by simp only [List.getD, hu]; rfl
    rw [this]; exact .t _ _ hrel

omit [Mo] in
theorem arg_slice {r : Reach} {b0 : Nat} {t e : TypeId} {v : Value} {d : DataW H} {ps : List MemPlace} {α : Type} {en : α → List T} {gd : List α → Nat → Prop} (ht : P.underlying t = some (.slice e)) (hval : Value.okWide P W r b0 t v) (ho : Opens P W enc base sp held t (fun xs : List α => [T.fz .u (xs.map en)]) gd)
    (hd : DataW.Trod enc P W base sp held t v d ps) : ∃ a : List α, RelV W (oldF W) noLoc (.t (.fz .u (a.map en))) v ∧ gd a (bulkD d) := by
  obtain ⟨fuel, h⟩ := hd
  obtain ⟨a, hc, hg⟩ := ho fuel _ _ h
  refine ⟨a, ?_, hg⟩
  obtain ⟨u, hu, _, hrel⟩ := hc.2 0 _ rfl
  have hv : v.cells = #[v] := by
    unfold Value.okWide at hval
    rw [ht] at hval
    cases v with
    | agg cs => exfalso; simp [Cell.okWide, Cell.ok, ht] at hval
    | _ => rfl
  rw [hv] at hu
  cases hu
  exact .t _ _ hrel
end Go.Proofs.YtobfoiomjfdjjaaDoor.Mc

namespace Go.Proofs.YtobfoiomjfdjjaaDoor.Mc
open Go.RowKit
open Go.MapKept (Stamped IsKey stamped_push stamped_modify stamped_erase)

/-! lists by key -/
def mget {κ α : Type} (eq : κ → κ → Bool) : List (κ × α) → κ → Option α
  | [], _ => none
  | x :: l, k => cond (eq x.1 k) (some x.2) (mget eq l k)
def mset {κ α : Type} (eq : κ → κ → Bool) : List (κ × α) → κ → α → List (κ × α)
  | [], k, a => [(k, a)]
  | x :: l, k, a => cond (eq x.1 k) ((k, a) :: l) (x :: mset eq l k a)
def mdel {κ α : Type} (eq : κ → κ → Bool) : List (κ × α) → κ → List (κ × α)
  | [], _ => []
  | x :: l, k => cond (eq x.1 k) l (x :: mdel eq l k)
def keq : Value → Value → Bool
  | .string a, .string b => a.toList == b.toList
  | .int _ a, .int _ b => a == b
  | .bool a, .bool b => a == b
  | _, _ => false
theorem baEq {a b : ByteArray} (h : a.toList = b.toList) : a = b := by
  apply ByteArray.ext; apply Array.ext'
  rwa [ByteArray.toList_eq, ByteArray.toList_eq] at h
theorem key_beq (a b : ByteArray) : (a.toList == b.toList) = true ↔ a = b := by
  rw [beq_iff_eq]
  exact ⟨baEq, fun h => by rw [h]⟩
theorem keq_iff {d : TypeDesc} {a b : Value} (ha : IsKey d a) (hb : IsKey d b) : keq a b = true ↔ a = b := by
  cases d with
  | string =>
    cases a <;> cases b <;> first | (simp only [IsKey] at ha; done) | (simp only [IsKey] at hb; done) | skip
    simp only [keq, key_beq, Value.string.injEq]
  | int k =>
    cases a <;> cases b <;> first | (simp only [IsKey] at ha; done) | (simp only [IsKey] at hb; done) | skip
    simp only [IsKey] at ha hb
    simp only [keq, beq_iff_eq, Value.int.injEq, ha, hb, true_and]
  | bool =>
    cases a <;> cases b <;> first | (simp only [IsKey] at ha; done) | (simp only [IsKey] at hb; done) | skip
    simp only [keq, beq_iff_eq, Value.bool.injEq]
  | _ => simp only [IsKey] at ha
theorem Ents.size {es : Array MapEntry} {xs : List (Value × Value)} (h : Ents es xs) : es.size = xs.length := by
  have := congrArg List.length h
  simpa using this
/-- what is found -/
theorem find_at {d : TypeDesc} {k : Value} (hk : IsKey d k) : ∀ (l : List MapEntry) (xs : List (Value × Value)) (i : Nat), l.map (fun e => (e.key, e.val)) = xs → (∀ x ∈ l, IsKey d x.key) →
    (Instr.findNow d k l i = some none ∧ mget keq xs k = none ∧ (∀ x ∈ l, x.key ≠ k) ∧ (∀ v, mset keq xs k v = xs ++ [(k, v)]) ∧ mdel keq xs k = xs) ∨
    ∃ j e, Instr.findNow d k l i = some (some (i + j, e.val)) ∧ l[j]? = some e ∧ e.key = k ∧ mget keq xs k = some e.val ∧ (∀ v, mset keq xs k v = xs.set j (k, v)) ∧ mdel keq xs k = xs.eraseIdx j
  | [], xs, i, h, _ => by
    cases h
    exact .inl ⟨rfl, rfl, by simp, fun v => rfl, rfl⟩
  | e :: l, xs, i, h, hks => by
    cases h
    have he := hks e (by simp)
    obtain ⟨r, hr, hiff⟩ := Go.MapKept.sameNow_of_keys hk he
    have hq := keq_iff he hk
    cases r with
    | true =>
      have hx : k = e.key := hiff.1 rfl
      have hq' : keq e.key k = true := hq.2 hx.symm
      refine .inr ⟨0, e, by simp [Instr.findNow, hr], rfl, hx.symm, ?_, fun v => ?_, ?_⟩
      · simp only [List.map_cons, mget, hq', cond_true]
      · simp only [List.map_cons, mset, hq', cond_true]; rfl
      · simp only [List.map_cons, mdel, hq', cond_true]; rfl
    | false =>
      have hx : e.key ≠ k := fun q => by have := hiff.2 q.symm; cases this
      have hq' : keq e.key k = false := by rw [← Bool.not_eq_true]; exact fun h => hx (hq.1 h)
      have hf : Instr.findNow d k (e :: l) i = Instr.findNow d k l (i + 1) := by simp [Instr.findNow, hr]
      rcases find_at hk l _ (i + 1) rfl (fun x hx => hks x (by simp [hx])) with ⟨a1, a2, a3, a4, a5⟩ | ⟨j, f, a1, a2, a3, a4, a5, a6⟩
      · refine .inl ⟨by rw [hf, a1], ?_, ?_, fun v => ?_, ?_⟩
        · simp only [List.map_cons, mget, hq', cond_false, a2]
        · intro y hy
          rcases List.mem_cons.1 hy with rfl | hy
          · exact hx
          · exact a3 y hy
        · simp only [List.map_cons, mset, hq', cond_false, a4]; rfl
        · simp only [List.map_cons, mdel, hq', cond_false, a5]
      · refine .inr ⟨j + 1, f, by rw [hf, a1]; congr 3; omega, by simpa using a2, a3, ?_, fun v => ?_, ?_⟩
        · simp only [List.map_cons, mget, hq', cond_false, a4]
        · simp only [List.map_cons, mset, hq', cond_false, a5]; rfl
        · simp only [List.map_cons, mdel, hq', cond_false, a6]; rfl
section
variable {P : Program} {w : World} {mty kt et : TypeId} {d : TypeDesc} {r : Nat} {es : Array MapEntry} {clock : Nat} {xs : List (Value × Value)}
theorem map_update_run (hm : P.underlying mty = some (.map kt et)) (hd : P.underlying kt = some d) (hb : w.heap[r]? = some (.map es clock)) (hs : Stamped es clock) (he : Ents es xs) (hks : ∀ x ∈ es.toList, IsKey d x.key) {k : Value} (hk : IsKey d k) (v : Value) :
    ∃ es' clock', (Instr.mapUpdate mty (.map (some r)) k v).run P w = .ok () { w with heap := w.heap.setIfInBounds r (.map es' clock') } ∧ Stamped es' clock' ∧ Ents es' (mset keq xs k v) ∧ ∀ x ∈ es'.toList, IsKey d x.key := by
  have hg := Go.MapKept.run_getObj_map (P := P) hb
  have hst := fun o => Go.MapKept.run_setObj_map (P := P) o hb
  have hck := fun e n => Go.MapKept.run_checkKey (w := w) hd hk e n
  rcases find_at hk es.toList xs 0 he hks with ⟨a1, _, a3, a4, _⟩ | ⟨j, f, a1, a2, a3, _, a5, _⟩
  · have hf := Go.MapKept.run_findKey (w := w) hd a1
    refine ⟨_, _, by simp [Instr.mapUpdate, run_underlying hm, hg, hck, hf, hst, Result.andThen]; rfl, stamped_push hs a3, ?_, ?_⟩
    · unfold Ents at he ⊢
      rw [a4, Array.toList_push, List.map_append, he]; rfl
    · intro x hx
      simp only [Array.toList_push, List.mem_append, List.mem_singleton] at hx
      rcases hx with hx | rfl
      · exact hks x hx
      · exact hk
  · have hf := Go.MapKept.run_findKey (w := w) hd a1
    have hj : es[j]? = some f := by simpa using a2
    have hkey : ∀ e', es[j]? = some e' → ({ e' with key := k, val := v } : MapEntry).key = e'.key := fun e' he' => by rw [hj] at he'; cases he'; exact a3.symm
    refine ⟨es.modify j (fun e => { e with key := k, val := v }), clock, ?_, stamped_modify hs _ _ (fun _ _ => rfl) (fun e' _ he' => hkey e' he'), ?_, Go.MapKept.isKey_modify hks _ _ hkey⟩
    · simp [Instr.mapUpdate, run_underlying hm, hg, hck, hf, hj, a3, Go.MapKept.run_keyThatStays (P := P) (w := w) hk, hst, Result.andThen]
    · unfold Ents at he ⊢
      rw [a5]
      apply List.ext_getElem?
      intro i
      have hi := congrArg (fun l => l[i]?) he
      simp only [List.getElem?_map, Array.getElem?_toList, Array.getElem?_modify, List.getElem?_set] at hi ⊢
      by_cases hij : j = i
      · subst hij
        rw [if_pos rfl, if_pos rfl]
        have hlt : j < xs.length := by
          have h1 := (Array.getElem?_eq_some_iff.1 hj).1
          have h2 := he
          have := congrArg List.length h2
          simp at this
          omega
        rw [hj, if_pos hlt]; rfl
      · rw [if_neg hij, if_neg hij]; exact hi
theorem erase_keys (hks : ∀ x ∈ es.toList, IsKey d x.key) (i : Nat) : ∀ x ∈ (es.eraseIdxIfInBounds i).toList, IsKey d x.key := by
  intro x hx
  have hs' : (es.eraseIdxIfInBounds i).toList.Sublist es.toList := by
    unfold Array.eraseIdxIfInBounds
    split
    · simp only [Array.toList_eraseIdx]; exact List.eraseIdx_sublist _ _
    · exact List.Sublist.refl _
  exact hks x (hs'.subset hx)
theorem map_delete_run (ty : TypeId) (hm : P.underlying mty = some (.map kt et)) (hd : P.underlying kt = some d) (hb : w.heap[r]? = some (.map es clock)) (hs : Stamped es clock) (he : Ents es xs) (hks : ∀ x ∈ es.toList, IsKey d x.key) {k : Value} (hk : IsKey d k) :
    ∃ es' clock', (Builtin.delete_ #[mty, kt] ty #[.map (some r), k]).run P w = .ok (.tuple #[]) { w with heap := w.heap.setIfInBounds r (.map es' clock') } ∧ Stamped es' clock' ∧ Ents es' (mdel keq xs k) ∧ ∀ x ∈ es'.toList, IsKey d x.key := by
  have hg := Go.MapKept.run_getObj_map (P := P) hb
  have hst := fun o => Go.MapKept.run_setObj_map (P := P) o hb
  have hck := fun e n => Go.MapKept.run_checkKey (w := w) hd hk e n
  rcases find_at hk es.toList xs 0 he hks with ⟨a1, _, a3, _, a5⟩ | ⟨j, f, a1, a2, a3, _, _, a6⟩
  · have hf := Go.MapKept.run_findKey (w := w) hd a1
    refine ⟨es, clock, by simp [Builtin.delete_, run_underlying hm, hg, hck, hf, hst, Result.andThen], hs, by rw [a5]; exact he, hks⟩
  · have hf := Go.MapKept.run_findKey (w := w) hd a1
    have hj : es[j]? = some f := by simpa using a2
    have hlt := (Array.getElem?_eq_some_iff.1 hj).1
    refine ⟨es.eraseIdxIfInBounds j, clock, by simp [Builtin.delete_, run_underlying hm, hg, hck, hf, hst, Result.andThen], stamped_erase hs _, ?_, erase_keys hks j⟩
    unfold Ents at he ⊢
    unfold Array.eraseIdxIfInBounds
    rw [dif_pos hlt, a6, Array.toList_eraseIdx]
    have em : ∀ {α β : Type} (g : α → β) (l : List α) (i : Nat), (l.eraseIdx i).map g = (l.map g).eraseIdx i := by
      intro α β g l
      induction l with
      | nil => intro i; rfl
      | cons x l ih => intro i; cases i with
        | zero => rfl
        | succ i => simp only [List.eraseIdx_cons_succ, List.map_cons, ih]
    rw [em, he]
theorem map_lookup_run (c : Bool) (hm : P.underlying mty = some (.map kt et)) (hd : P.underlying kt = some d) {z : Value} (hz : (zeroValue et).run P w = .ok z w) (hb : w.heap[r]? = some (.map es clock)) (he : Ents es xs) (hks : ∀ x ∈ es.toList, IsKey d x.key) {k : Value} (hk : IsKey d k) :
    (Instr.lookup mty (.map (some r)) k c).run P w = .ok (if c then .tuple #[(mget keq xs k).getD z, .bool (mget keq xs k).isSome] else (mget keq xs k).getD z) w := by
  have hg := Go.MapKept.run_getObj_map (P := P) hb
  have hst := fun o => Go.MapKept.run_setObj_map (P := P) o hb
  have hck := fun e n => Go.MapKept.run_checkKey (w := w) hd hk e n
  rcases find_at hk es.toList xs 0 he hks with ⟨a1, a2, _⟩ | ⟨j, f, a1, _, _, a4, _⟩
  · have hf := Go.MapKept.run_findKey (w := w) hd a1
    rw [a2]
    cases c <;> simp [Instr.lookup, run_underlying hm, hg, hck, hf, hz, Result.andThen]
  · have hf := Go.MapKept.run_findKey (w := w) hd a1
    rw [a4]
    cases c <;> simp [Instr.lookup, run_underlying hm, hg, hck, hf, Result.andThen]
end
/-! entries in another order -/
section
variable {κ α : Type} {eq : κ → κ → Bool} {k : κ}
/-- no two keys that are alike -/
def Uq (eq : κ → κ → Bool) (k : κ) (l : List (κ × α)) : Prop := l.Pairwise fun x y => ¬ (eq x.1 k = true ∧ eq y.1 k = true)
theorem Uq.perm {l l' : List (κ × α)} (h : Uq eq k l) (hp : l.Perm l') : Uq eq k l' := (hp.pairwise_iff (fun {x y} h q => h ⟨q.2, q.1⟩)).1 h
theorem get_perm {l l' : List (κ × α)} (hp : l.Perm l') : Uq eq k l → mget eq l k = mget eq l' k := by
  induction hp with
  | nil => intro _; rfl
  | cons x _ ih => intro h; unfold mget; rw [ih (List.pairwise_cons.1 h).2]
  | swap x y l =>
    intro h
    have h1 := (List.pairwise_cons.1 h).1 x (List.mem_cons_self ..)
    simp only [mget]
    cases hx : eq x.1 k <;> cases hy : eq y.1 k <;> first | rfl | exact absurd ⟨hy, hx⟩ h1
  | trans h1 _ ih1 ih2 => intro h; rw [ih1 h, ih2 (h.perm h1)]
theorem set_perm (v : α) {l l' : List (κ × α)} (hp : l.Perm l') : Uq eq k l → (mset eq l k v).Perm (mset eq l' k v) := by
  induction hp with
  | nil => intro _; exact List.Perm.refl _
  | cons x hp ih =>
    intro h
    unfold mset
    cases eq x.1 k with
    | true => exact List.Perm.cons _ hp
    | false => exact List.Perm.cons _ (ih (List.pairwise_cons.1 h).2)
  | swap x y l =>
    intro h
    have h1 := (List.pairwise_cons.1 h).1 x (List.mem_cons_self ..)
    simp only [mset]
    cases hx : eq x.1 k with
    | false => cases hy : eq y.1 k with
      | false => exact List.Perm.swap _ _ _
      | true => exact List.Perm.swap _ _ _
    | true => cases hy : eq y.1 k with
      | false => exact List.Perm.swap _ _ _
      | true => exact absurd ⟨hy, hx⟩ h1
  | trans h1 _ ih1 ih2 => intro h; exact (ih1 h).trans (ih2 (h.perm h1))
theorem del_perm {l l' : List (κ × α)} (hp : l.Perm l') : Uq eq k l → (mdel eq l k).Perm (mdel eq l' k) := by
  induction hp with
  | nil => intro _; exact List.Perm.refl _
  | cons x hp ih =>
    intro h
    unfold mdel
    cases eq x.1 k with
    | true => exact hp
    | false => exact List.Perm.cons _ (ih (List.pairwise_cons.1 h).2)
  | swap x y l =>
    intro h
    have h1 := (List.pairwise_cons.1 h).1 x (List.mem_cons_self ..)
    simp only [mdel]
    cases hx : eq x.1 k with
    | false => cases hy : eq y.1 k with
      | false => exact List.Perm.swap _ _ _
      | true => exact List.Perm.refl _
    | true => cases hy : eq y.1 k with
      | false => exact List.Perm.refl _
      | true => exact absurd ⟨hy, hx⟩ h1
  | trans h1 _ ih1 ih2 => intro h; exact (ih1 h).trans (ih2 (h.perm h1))
end
theorem ents_uq {d : TypeDesc} {en : Array MapEntry} {clock : Nat} {xs : List (Value × Value)} (hs : Stamped en clock) (he : Ents en xs) (hks : ∀ x ∈ en.toList, IsKey d x.key) {k : Value} (hk : IsKey d k) : Uq keq k xs := by
  have hn : en.toList.Pairwise fun x y => x.key ≠ y.key := by
    have := hs.2.2
    simpa only [List.Nodup, List.pairwise_map] using this
  unfold Ents at he
  subst he
  unfold Uq
  rw [List.pairwise_map]
  refine (List.pairwise_iff_getElem.2 fun i j hi hj hij => ?_)
  have h1 := List.pairwise_iff_getElem.1 hn i j hi hj hij
  rintro ⟨h2, h3⟩
  have e1 := (keq_iff (hks _ (List.getElem_mem hi)) hk).1 h2
  have e2 := (keq_iff (hks _ (List.getElem_mem hj)) hk).1 h3
  exact h1 (e1.trans e2.symm)
theorem erase_perm {α : Type} : ∀ {l : List α} {j : Nat} {a : α}, l[j]? = some a → (a :: l.eraseIdx j).Perm l
  | [], j, a, h => by simp at h
  | x :: l, 0, a, h => by
    simp only [List.getElem?_cons_zero, Option.some.injEq] at h
    subst h
    exact List.Perm.refl _
  | x :: l, j + 1, a, h => by
    rw [List.getElem?_cons_succ] at h
    rw [List.eraseIdx_cons_succ]
    exact (List.Perm.swap x a _).trans (List.Perm.cons x (erase_perm h))
/-! rows in place of values -/
section
variable {w : World} {F : Nat → Prop} {ag : Bool}
theorem Alike.cons {es : List (Value × List T)} {vs : List (Value × Value)} {k : Value} {r : List T} {v : Value} (h : Alike w F ag es vs) (hv : MapV w F ag r v) : Alike w F ag ((k, r) :: es) ((k, v) :: vs) := by
  refine ⟨by simp [h.1], fun i k' r' hi => ?_⟩
  cases i with
  | zero => cases hi; exact ⟨v, rfl, hv⟩
  | succ i => exact h.2 i k' r' (by simpa using hi)
theorem Alike.split {x : Value × List T} {es : List (Value × List T)} {vs : List (Value × Value)} (h : Alike w F ag (x :: es) vs) : ∃ v vs', vs = (x.1, v) :: vs' ∧ MapV w F ag x.2 v ∧ Alike w F ag es vs' := by
  cases vs with
  | nil => simp [Alike] at h
  | cons y vs' =>
    obtain ⟨v, h1, h2⟩ := h.2 0 x.1 x.2 rfl
    cases h1
    exact ⟨v, vs', rfl, h2, by have := h.1; simpa using this, fun i k r hi => h.2 (i + 1) k r (by simpa using hi)⟩
theorem Alike.nil : Alike w F ag [] [] := ⟨rfl, fun i k r h => by simp at h⟩
theorem Alike.set {k : Value} {r : List T} {v : Value} (hv : MapV w F ag r v) : ∀ {es : List (Value × List T)} {vs : List (Value × Value)}, Alike w F ag es vs → Alike w F ag (mset keq es k r) (mset keq vs k v)
  | [], vs, h => by
    have : vs = [] := by have := h.1; simpa using this
    subst this
    exact Alike.nil.cons hv
  | x :: es, vs, h => by
    obtain ⟨u, vs', rfl, h2, h3⟩ := h.split
    unfold mset
    dsimp only
    cases keq x.1 k with
    | true => exact h3.cons hv
    | false => exact (Alike.set hv h3).cons h2
theorem Alike.del {k : Value} : ∀ {es : List (Value × List T)} {vs : List (Value × Value)}, Alike w F ag es vs → Alike w F ag (mdel keq es k) (mdel keq vs k)
  | [], vs, h => by
    have : vs = [] := by have := h.1; simpa using this
    subst this
    exact Alike.nil
  | x :: es, vs, h => by
    obtain ⟨u, vs', rfl, h2, h3⟩ := h.split
    unfold mdel
    dsimp only
    cases keq x.1 k with
    | true => exact h3
    | false => exact (Alike.del h3).cons h2
theorem Alike.get {k : Value} : ∀ {es : List (Value × List T)} {vs : List (Value × Value)}, Alike w F ag es vs → (mget keq es k = none ∧ mget keq vs k = none) ∨ ∃ r v, mget keq es k = some r ∧ mget keq vs k = some v ∧ MapV w F ag r v
  | [], vs, h => by
    have : vs = [] := by have := h.1; simpa using this
    subst this
    exact .inl ⟨rfl, rfl⟩
  | x :: es, vs, h => by
    obtain ⟨u, vs', rfl, h2, h3⟩ := h.split
    unfold mget
    dsimp only
    cases keq x.1 k with
    | true => exact .inr ⟨x.2, u, rfl, rfl, h2⟩
    | false => exact Alike.get h3
theorem Alike.erase {es : List (Value × List T)} {vs : List (Value × Value)} (h : Alike w F ag es vs) (j : Nat) : Alike w F ag (es.eraseIdx j) (vs.eraseIdx j) := by
  have hl := h.1
  refine ⟨by simp only [List.length_eraseIdx, hl], fun i k r hi => ?_⟩
  rw [List.getElem?_eraseIdx] at hi ⊢
  split at hi
  · rename_i hlt; rw [if_pos hlt]; exact h.2 i k r hi
  · rename_i hlt; rw [if_neg hlt]; exact h.2 (i + 1) k r hi
theorem Alike.perm {es es' : List (Value × List T)} (hp : es.Perm es') : ∀ {vs : List (Value × Value)}, Alike w F ag es vs → ∃ vs', vs.Perm vs' ∧ Alike w F ag es' vs' := by
  induction hp with
  | nil => intro vs h; exact ⟨vs, List.Perm.refl _, h⟩
  | cons x _ ih =>
    intro vs h
    obtain ⟨v, vs', rfl, h2, h3⟩ := h.split
    obtain ⟨q, h4, h5⟩ := ih h3
    exact ⟨_, List.Perm.cons _ h4, h5.cons h2⟩
  | swap x y l =>
    intro vs h
    obtain ⟨v, vs', rfl, h2, h3⟩ := h.split
    obtain ⟨u, vs2, rfl, h4, h5⟩ := h3.split
    exact ⟨_, List.Perm.swap _ _ _, (h5.cons h2).cons h4⟩
  | trans _ _ ih1 ih2 =>
    intro vs h
    obtain ⟨q, h1, h2⟩ := ih1 h
    obtain ⟨q2, h3, h4⟩ := ih2 h2
    exact ⟨q2, h1.trans h3, h4⟩
end
/-! ranges -/
theorem filter_erase {α : Type} {f : α → Nat} : ∀ (L : List α) (j : Nat) (e : α), (L.map f).Nodup → L[j]? = some e → L.filter (fun x => !(f x == f e)) = L.eraseIdx j
  | [], j, e, _, h => by simp at h
  | x :: L, 0, e, hn, h => by
    cases h
    have hn' : f x ∉ L.map f ∧ (L.map f).Nodup := List.nodup_cons.1 hn
    rw [List.filter_cons, if_neg (by simp), List.eraseIdx_cons_zero, List.filter_eq_self]
    intro y hy
    simp only [Bool.not_eq_true', beq_eq_false_iff_ne, ne_eq]
    exact fun he => hn'.1 (he ▸ List.mem_map.2 ⟨y, hy, rfl⟩)
  | x :: L, j + 1, e, hn, h => by
    have hn' : f x ∉ L.map f ∧ (L.map f).Nodup := List.nodup_cons.1 hn
    have he : L[j]? = some e := by simpa using h
    have hne : f x ≠ f e := fun q => hn'.1 (q ▸ List.mem_map.2 ⟨e, List.mem_of_getElem? he, rfl⟩)
    rw [List.filter_cons, if_pos (by simpa using hne), List.eraseIdx_cons_succ, filter_erase L j e hn'.2 he]
theorem left_erase {es : Array MapEntry} {clock : Nat} (hs : Stamped es clock) {seen : Array Nat} {j : Nat} {e : MapEntry} (h : (leftOf es seen)[j]? = some e) : (leftOf es (seen.push e.born)).toList = (leftOf es seen).toList.eraseIdx j := by
  have e1 : (leftOf es (seen.push e.born)).toList = (leftOf es seen).toList.filter (fun x => !(x.born == e.born)) := by
    unfold leftOf
    simp only [Array.toList_filter, List.filter_filter]
    refine List.filter_congr fun x _ => ?_
    rw [contains_push]
    cases seen.contains x.born <;> cases (x.born == e.born) <;> rfl
  rw [e1]
  refine filter_erase (f := (·.born)) _ j e ?_ (by rw [Array.getElem?_toList]; exact h)
  unfold leftOf
  rw [Array.toList_filter]
  exact (List.filter_sublist.map _).nodup hs.2.1
theorem next_map {P : Program} (w : World) (ty : TypeId) (c bm since c0 : Nat) (seen : Array Nat) (es : Array MapEntry) (clock : Nat) (hc : w.heap[c]? = some (.mapIter (some bm) since seen c0)) (hb : w.heap[bm]? = some (.map es clock)) (hold : ∀ x ∈ es.toList, x.born < since) (hsc : since ≤ c0) :
    ((leftOf es seen).size = 0 ∧ (Instr.next (.pointer (some ⟨c, 0, none⟩)) false ty).run P w = .ok (.tuple #[.bool false]) w) ∨
    ∃ (j : Nat) (e : MapEntry) (w1 : World), (leftOf es seen)[j]? = some e ∧ (w1 = w ∨ w1 = w.drew) ∧ (Instr.next (.pointer (some ⟨c, 0, none⟩)) false ty).run P w = .ok (.tuple #[.bool true, e.key, e.val]) { w1 with heap := w1.heap.setIfInBounds c (.mapIter (some bm) since (seen.push e.born) clock) } := by
  simp only [Instr.next, getObj, Sem.run_bind, Sem.run, hc, hb, Result.andThen, next_test_false seen es since c0 hold hsc, Bool.false_eq_true, if_false]
  unfold leftOf
  have hmem : ∀ x ∈ (Array.filter (fun e => !seen.contains e.born) es).toList, x.born < since := fun x hx => hold x (by simp at hx ⊢; exact hx.1)
  generalize Array.filter (fun e => !seen.contains e.born) es = L at hmem ⊢
  have e1 : L.filter (fun x => decide (x.born < since)) = L := Array.filter_eq_self.2 (fun x hx => by simpa using hmem x (by simpa using hx))
  have e2 : L.filter (fun x => decide (x.born ≥ since)) = #[] := by
    rw [Array.filter_eq_empty_iff]
    intro x hx
    have := hmem x (by simpa using hx)
    simp
    omega
  simp only [e1, e2, Array.append_empty]
  by_cases h0 : L.size = 0
  · left
    have : L = #[] := Array.eq_empty_of_size_eq_zero h0
    subst this
    refine ⟨rfl, ?_⟩
    simp [choose, Sem.run, Question.forced]
  · right
    have hne : L.isEmpty = false := by simp [Array.isEmpty, h0]
    simp only [hne, Bool.false_eq_true, if_false, Array.empty_append, Array.size_map]
    have hch : ∃ (j : Nat) (w1 : World), j < L.size ∧ (w1 = w ∨ w1 = w.drew) ∧ (choose (Question.mapNext L.size)).run P w = .ok j w1 := by
      by_cases hf : L.size ≤ 1
      · exact ⟨0, w, by omega, .inl rfl, by simp [choose, Sem.run, Question.forced, hf]⟩
      · exact ⟨_, w.drew, Nat.mod_lt _ (by omega), .inr rfl, by
          simp only [choose, Sem.run, Question.forced, decide_eq_true_eq, hf, if_false, Question.cut]
          rfl⟩
    obtain ⟨j, w1, hj, hal, hrun⟩ := hch
    refine ⟨j, L[j], w1, Array.getElem?_eq_getElem hj, hal, ?_⟩
    have hc1 : w1.heap[c]? = some (.mapIter (some bm) since seen c0) := by rcases hal with rfl | rfl <;> exact hc
    have hset : ∀ (o' : Obj), (setObj c o').run P w1 = .ok () { w1 with heap := w1.heap.setIfInBounds c o' } := fun o' => by
      simp only [setObj, Sem.run, hc1]
    simp only [hrun, Array.getElem?_map, Array.getElem?_eq_getElem hj, Option.map_some, Sem.run_bind, hset, Result.andThen]
    rfl
end Go.Proofs.YtobfoiomjfdjjaaDoor.Mc

namespace Go.Proofs.YtobfoiomjfdjjaaDoor.Mc
open Go.RowKit
variable [Mo]
/-! maps in a store -/
section
variable {P : Program} {G : Glob} {B : Base} {w w' : World} {F : Nat → Prop} {loc : Nat → Option Loc} {s : Store}
/-- an object that is told in other words -/
theorem RelS.reO (hS : RelS G B w F loc s) {o : Nat} {l : Loc} {x : O} (ho : loc o = some l) (hx : RelO w F loc (some x) l) : RelS G B w F loc (upd s o (some (some x))) := by
  refine { hS with obs := fun o' obj h' => ?_, dom := fun o' l hl' => ?_ }
  · by_cases hod : o' = o
    · subst hod; rw [upd_self] at h'; cases h'; exact ⟨l, ho, hx⟩
    · rw [upd_ne _ _ hod] at h'; exact hS.obs o' obj h'
  · by_cases hod : o' = o
    · subst hod; exact ⟨_, upd_self _ _ _⟩
    · rw [upd_ne _ _ hod]; exact hS.dom o' l hl'
omit [Mo] in
theorem upd_comm {α : Type} (f : Nat → α) {i j : Nat} (h : i ≠ j) (a b : α) : upd (upd f i a) j b = upd (upd f j b) i a := by
  funext n
  by_cases h1 : n = i
  · subst h1; rw [upd_ne _ _ h, upd_self, upd_self]
  · by_cases h2 : n = j
    · subst h2; rw [upd_self, upd_ne _ _ h1, upd_self]
    · rw [upd_ne _ _ h2, upd_ne _ _ h1, upd_ne _ _ h1, upd_ne _ _ h2]
def mapOf : Option O → Option (TypeDesc × Bool × List (Value × List T))
  | some (.mp kd ag es) => some (kd, ag, es)
  | some (.mq kd ag es _ _ _) => some (kd, ag, es)
  | _ => none
theorem RelS.mapAt (hS : RelS G B w F loc s) {o : Nat} {kd : TypeDesc} {ag : Bool} {es : List (Value × List T)} (ho : mapOf (get s o) = some (kd, ag, es)) : ∃ b en clock vs, loc o = some (.blk b) ∧ w.heap[b]? = some (.map en clock) ∧ MapOk w F kd ag es en clock vs := by
  unfold mapOf at ho
  split at ho
  · rename_i hg
    cases ho
    obtain ⟨l, hl, hr⟩ := hS.obs o _ (get_some hg)
    cases hr with
    | mp _ _ _ b en clock vs hb hm => exact ⟨b, en, clock, vs, hl, hb, hm⟩
  · rename_i hg
    cases ho
    obtain ⟨l, hl, hr⟩ := hS.obs o _ (get_some hg)
    cases hr with
    | mq _ _ _ _ _ _ b en clock vs _ _ _ _ _ hb hm => exact ⟨b, en, clock, vs, hl, hb, hm⟩
    | mqg _ _ _ _ _ _ b en clock vs hb hm => exact ⟨b, en, clock, vs, hl, hb, hm⟩
  · cases ho
variable {kd : TypeDesc} {ag : Bool} {es : List (Value × List T)} {mty kt et : TypeId}
theorem RelS.mapSet {o b : Nat} (hS : RelS G B w F loc s) (hl : loc o = some (.blk b)) (ho : s o = some (some (.mp kd ag es))) (hm : P.underlying mty = some (.map kt et)) (hd : P.underlying kt = some kd) {k : Value} (hk : Go.MapKept.IsKey kd k) {r : List T} {v : Value} (hv : MapV w F ag r v) {es1 : List (Value × List T)} (hp : (mset keq es k r).Perm es1) :
    ∃ w', (Instr.mapUpdate mty (.map (some b)) k v).run P w = .ok () w' ∧ RelS G B w' F loc (upd s o (some (some (.mp kd ag es1)))) ∧ Kept w F w' F := by
  obtain ⟨l, hl2, hrel⟩ := hS.obs o _ ho
  rw [hl] at hl2
  cases hl2
  cases hrel with
  | mp _ _ _ _ en clock vs hb hm' =>
    obtain ⟨v0, hpv, hen⟩ := hm'.ents
    obtain ⟨es', clock', h1, h2, h3, h4⟩ := map_update_run hm hd hb hm'.st hen hm'.ks hk v
    have hset := Go.MapKept.heap_set (o' := .map es' clock') hb
    have hk' : Kept w F { w with heap := w.heap.setIfInBounds b (.map es' clock') } F := fun q hF => ⟨hF, hset.2 q (fun e => (hS.own o _ b hl rfl).2.1 (e ▸ hF))⟩
    obtain ⟨vs1, hp1, hal⟩ := ((hm'.al.mono hk').set (k := k) (hv.mono hk')).perm hp
    obtain ⟨t1, t2⟩ := hS.turn (w' := { w with heap := w.heap.setIfInBounds b (.map es' clock') }) (x := .mp kd ag es1) hl rfl (by simp) rfl rfl rfl hset.2
      (.mp kd ag _ b es' clock' vs1 hset.1 ⟨h2, ⟨_, (set_perm v hpv (ents_uq hm'.st hen hm'.ks hk)).trans hp1, h3⟩, hal, h4⟩) (fun m h => by rw [ho] at h; cases h)
    exact ⟨_, h1, t1, t2⟩
theorem RelS.mapDel {o b : Nat} (hS : RelS G B w F loc s) (hl : loc o = some (.blk b)) (ho : s o = some (some (.mp kd ag es))) (ty : TypeId) (hm : P.underlying mty = some (.map kt et)) (hd : P.underlying kt = some kd) {k : Value} (hk : Go.MapKept.IsKey kd k) :
    ∃ w', (Builtin.delete_ #[mty, kt] ty #[.map (some b), k]).run P w = .ok (.tuple #[]) w' ∧ RelS G B w' F loc (upd s o (some (some (.mp kd ag (mdel keq es k))))) ∧ Kept w F w' F := by
  obtain ⟨l, hl2, hrel⟩ := hS.obs o _ ho
  rw [hl] at hl2
  cases hl2
  cases hrel with
  | mp _ _ _ _ en clock vs hb hm' =>
    obtain ⟨v0, hpv, hen⟩ := hm'.ents
    obtain ⟨es', clock', h1, h2, h3, h4⟩ := map_delete_run ty hm hd hb hm'.st hen hm'.ks hk
    have hset := Go.MapKept.heap_set (o' := .map es' clock') hb
    have hk' : Kept w F { w with heap := w.heap.setIfInBounds b (.map es' clock') } F := fun q hF => ⟨hF, hset.2 q (fun e => (hS.own o _ b hl rfl).2.1 (e ▸ hF))⟩
    obtain ⟨t1, t2⟩ := hS.turn (w' := { w with heap := w.heap.setIfInBounds b (.map es' clock') }) (x := .mp kd ag (mdel keq es k)) hl rfl (by simp) rfl rfl rfl hset.2
      (.mp kd ag _ b es' clock' (mdel keq vs k) hset.1 ⟨h2, ⟨_, del_perm hpv (ents_uq hm'.st hen hm'.ks hk), h3⟩, (hm'.al.mono hk').del, h4⟩) (fun m h => by rw [ho] at h; cases h)
    exact ⟨_, h1, t1, t2⟩
omit [Mo] in
/-- what is looked up -/
theorem MapOk.look {b : Nat} {en : Array MapEntry} {clock : Nat} {vs : List (Value × Value)} (hb : w.heap[b]? = some (.map en clock)) (h : MapOk w F kd ag es en clock vs) (c : Bool) (hm : P.underlying mty = some (.map kt et)) (hd : P.underlying kt = some kd) {z : Value} (hz : (zeroValue et).run P w = .ok z w) {zr : List T} (hzr : MapV w F ag zr z) {k : Value} (hk : Go.MapKept.IsKey kd k) :
    ∃ v, (Instr.lookup mty (.map (some b)) k c).run P w = .ok (if c then .tuple #[v, .bool (mget keq es k).isSome] else v) w ∧ MapV w F ag ((mget keq es k).getD zr) v := by
  obtain ⟨v0, hpv, hen⟩ := h.ents
  have hrun := map_lookup_run c hm hd hz hb hen h.ks hk
  rw [get_perm hpv (ents_uq h.st hen h.ks hk)] at hrun
  rcases h.al.get (k := k) with ⟨g1, g2⟩ | ⟨r, v, g1, g2, g3⟩
  · rw [g2] at hrun
    rw [g1]
    exact ⟨z, hrun, hzr⟩
  · rw [g2] at hrun
    rw [g1]
    exact ⟨v, hrun, g3⟩
omit [Mo] in
/-- a new map -/
theorem map_new_run (t : TypeId) : (Instr.makeMap t none).run P w = .ok (.map (some w.heap.size)) (w.alloc (.map #[] 0)) := rfl
omit [Mo] in
theorem relO_newMap (kd : TypeDesc) (ag : Bool) {loc' : Nat → Option Loc} : RelO (w.alloc (.map #[] 0)) F loc' (some (.mp kd ag [])) (.blk w.heap.size) :=
  .mp kd ag [] w.heap.size #[] 0 [] (Go.MapKept.heap_alloc w _).1 ⟨Go.MapKept.stamped_empty 0, ⟨[], List.Perm.refl _, rfl⟩, Alike.nil, fun x hx => by simp at hx⟩
theorem RelS.mapNew {d : Nat} (hS : RelS G B w F loc s) (hd : s d = none) (kd : TypeDesc) (ag : Bool) :
    RelS G B (w.alloc (.map #[] 0)) F (upd loc d (some (.blk w.heap.size))) (upd s d (some (some (.mp kd ag [])))) :=
  hS.alloc hd (relO_newMap kd ag)
/-! maps of few entries, of pointers -/
omit [Mo] in
theorem MsR.nil {vs : List (Value × Value)} (h : MsR w F loc [] vs) : vs = [] := by
  cases vs with
  | nil => rfl
  | cons p l => have := h.1; simp [flatV] at this
omit [Mo] in
theorem MsR.two {a c : V} {vs : List (Value × Value)} (h : MsR w F loc [a, c] vs) : ∃ k v, vs = [(k, v)] ∧ RelV w F loc a k ∧ k.oneCell' = true ∧ RelV w F loc c v ∧ v.oneCell' = true := by
  cases vs with
  | nil => have := h.1; simp [flatV] at this
  | cons p l =>
    cases l with
    | nil =>
      obtain ⟨k, v⟩ := p
      obtain ⟨u, h1, h2, h3⟩ := h.2 0 a rfl
      obtain ⟨u2, h4, h5, h6⟩ := h.2 1 c rfl
      cases h1
      cases h4
      exact ⟨_, _, rfl, h3, h2, h6, h5⟩
    | cons q l => have := h.1; simp [flatV] at this
omit [Mo] in
theorem MsR.cons {a c : V} {k v : Value} {xs : List V} {vs : List (Value × Value)} (h : MsR w F loc xs vs) (ha : RelV w F loc a k) (hk : k.oneCell' = true) (hc : RelV w F loc c v) (hv : v.oneCell' = true) : MsR w F loc (a :: c :: xs) ((k, v) :: vs) := by
  refine ⟨by simp only [List.length_cons, flatV, h.1], fun j x hj => ?_⟩
  match j, hj with
  | 0, hj => cases hj; exact ⟨k, rfl, hk, ha⟩
  | 1, hj => cases hj; exact ⟨v, rfl, hv, hc⟩
  | j + 2, hj => exact h.2 j x (by simpa using hj)
omit [Mo] in
theorem MsR.none : MsR w F loc [] [] := ⟨rfl, fun j x h => by simp at h⟩
theorem RelS.msAt (hS : RelS G B w F loc s) {o : Nat} {e : TypeId} {xs : List V} (ho : s o = some (some (.bx e xs))) (he : Nat.blt e 3000000 = false) :
    ∃ b en clock vs, loc o = some (.blk b) ∧ w.heap[b]? = some (.map en clock) ∧ Go.MapKept.Stamped en clock ∧ Ents en vs ∧ (∀ x ∈ en.toList, Go.MapKept.IsKey (.int .i64) x.key) ∧ MsR w F loc xs vs := by
  obtain ⟨l, hl, hr⟩ := hS.obs o _ ho
  cases hr with
  | bx _ _ _ _ h0 => rw [he] at h0; cases h0
  | ms _ _ b en clock vs _ hb hs hen hks hr => exact ⟨b, en, clock, vs, hl, hb, hs, hen, hks, hr⟩
theorem RelS.msTurn (hS : RelS G B w F loc s) {o b : Nat} {e : TypeId} {xs : List V} {en : Array MapEntry} {clock : Nat} (hl : loc o = some (.blk b)) (ho : s o = some (some (.bx e xs))) (he : Nat.blt e 3000000 = false) (hb : w.heap[b]? = some (.map en clock))
    {es' : Array MapEntry} {clock' : Nat} {vs' : List (Value × Value)} {xs' : List V} (h2 : Go.MapKept.Stamped es' clock') (h3 : Ents es' vs') (h4 : ∀ x ∈ es'.toList, Go.MapKept.IsKey (.int .i64) x.key) (hr : MsR w F loc xs' vs') :
    RelS G B { w with heap := w.heap.setIfInBounds b (.map es' clock') } F loc (upd s o (some (some (.bx e xs')))) ∧ Kept w F { w with heap := w.heap.setIfInBounds b (.map es' clock') } F := by
  have hset := Go.MapKept.heap_set (o' := .map es' clock') hb
  have hk' : Kept w F { w with heap := w.heap.setIfInBounds b (.map es' clock') } F := fun q hF => ⟨hF, hset.2 q (fun e => (hS.own o _ b hl rfl).2.1 (e ▸ hF))⟩
  exact hS.turn (w' := { w with heap := w.heap.setIfInBounds b (.map es' clock') }) (x := .bx e xs') hl rfl (by simp) rfl rfl rfl hset.2
    (.ms e xs' b es' clock' vs' he hset.1 h2 h3 h4 (hr.mono hk' (Same.refl _))) (fun m h => by rw [ho] at h; cases h)
omit [Mo] in
theorem relO_newMs {loc' : Nat → Option Loc} : RelO (w.alloc (.map #[] 0)) F loc' (some (.bx 3000000 [])) (.blk w.heap.size) :=
  .ms 3000000 [] w.heap.size #[] 0 [] rfl (Go.MapKept.heap_alloc w _).1 (Go.MapKept.stamped_empty 0) rfl (fun x hx => by simp at hx) MsR.none
omit [Mo] in
theorem left_none (en : Array MapEntry) : leftOf en #[] = en := by
  unfold leftOf
  exact Array.filter_eq_self.2 fun x _ => by simp
/-- a range begins -/
theorem RelS.mapRange {o d : Nat} (hS : RelS G B w F loc s) (ho : s o = some (some (.mp kd ag es))) (hd : s d = none) (hm : P.underlying mty = some (.map kt et)) :
    ∃ b, loc o = some (.blk b) ∧ (Instr.range mty (.map (some b))).run P w = .ok (.pointer (some ⟨w.heap.size, 0, none⟩)) (w.alloc (.mapIter (some b) (match w.heap[b]? with | some (.map _ c) => c | _ => 0) #[] (match w.heap[b]? with | some (.map _ c) => c | _ => 0))) ∧
      RelS G B (w.alloc (.mapIter (some b) (match w.heap[b]? with | some (.map _ c) => c | _ => 0) #[] (match w.heap[b]? with | some (.map _ c) => c | _ => 0))) F (upd loc d (some (.blk w.heap.size))) (upd (upd s o (some (some (.mq kd ag es d es [])))) d (some (some (.mi o)))) := by
  obtain ⟨l, hl, hrel⟩ := hS.obs o _ ho
  cases hrel with
  | mp _ _ _ b en clock vs hb hm' =>
    have hod : o ≠ d := by rintro rfl; rw [ho] at hd; cases hd
    have e0 : (match w.heap[b]? with | some (.map _ c) => c | _ => 0) = clock := by rw [hb]
    refine ⟨b, hl, by rw [e0]; exact run_range_map w mty kt et b en clock hm hb, ?_⟩
    rw [e0]
    have hS1 := hS.alloc (ob := .mapIter (some b) clock #[] clock) (x := .mi o) hd (.mi o _ b clock clock #[] (heap_alloc_new w _))
    have hbl : b < w.heap.size := (hS.own o _ b hl rfl).1
    have hk := kept_alloc hS (.mapIter (some b) clock #[] clock)
    rw [upd_comm s hod]
    refine hS1.reO (o := o) (l := .blk b) (by rw [upd_ne _ _ hod]; exact hl) ?_
    refine .mq kd ag es d es [] b en clock vs vs w.heap.size clock clock #[] (by rw [heap_alloc_old w _ hbl]; exact hb) (hm'.mono hk) (upd_self _ _ _) (heap_alloc_new w _) ⟨Nat.le_refl _, Nat.le_refl _, hm'.st.1, by rw [left_none]; exact hm'.ents, hm'.al.mono hk, [], Alike.nil, fun k v h => by simp at h⟩
/-- a range's next step: none is left, or one of those that are left comes -/
theorem RelS.mapNext {o i m0 : Nat} {rest cu : List (Value × List T)} (hS : RelS G B w F loc s) (ho : s o = some (some (.mq kd ag es i rest cu))) (hi : s i = some (some (.mi m0))) (ty : TypeId) {v : Value} (hv : RelV w F loc (.it i) v) :
    (rest = [] ∧ (Instr.next v false ty).run P w = .ok (.tuple #[.bool false]) w ∧ RelS G B w F loc (upd s o (some (some (.mp kd ag es))))) ∨
    ∃ j k r v1 w1, rest[j]? = some (k, r) ∧ (Instr.next v false ty).run P w = .ok (.tuple #[.bool true, k, v1]) w1 ∧ MapV w1 F ag r v1 ∧ Go.MapKept.IsKey kd k ∧ RelS G B w1 F loc (upd s o (some (some (.mq kd ag es i (rest.eraseIdx j) [(k, r)])))) ∧ Kept w F w1 F := by
  obtain ⟨l, hl, hrel⟩ := hS.obs o _ ho
  obtain ⟨li, hli, hreli⟩ := hS.obs i _ hi
  have hoi : o ≠ i := by rintro rfl; rw [ho] at hi; cases hi
  cases hrel with
  | mqg _ _ _ _ _ _ b en clock vs hb hm hg =>
    rw [hli] at hg; cases hg; cases hreli
  | mq _ _ _ _ _ _ b en clock vs vr c since c0 seen hb hm hc0 hc hok =>
    have hv' : v = .pointer (some ⟨c, 0, none⟩) := by
      cases hv with
      | gone _ o' _ hx hg => cases hx; rw [hc0] at hg; cases hg
      | it _ b' hb' => rw [hc0] at hb'; cases hb'; rfl
    subst hv'
    obtain ⟨vr0, hpr, henr⟩ := hok.ents
    have hsz := henr.size
    have hlp := hpr.length_eq
    have hlr := hok.al.1
    rcases next_map (P := P) w ty c b since c0 seen en clock hc hb hok.old hok.sc with ⟨h0, hrun⟩ | ⟨j, e, w1, hj, hw1, hrun⟩
    · refine .inl ⟨List.eq_nil_of_length_eq_zero (by omega), hrun, hS.reO hl (.mp kd ag es b en clock vs hb hm)⟩
    · right
      have hjl : j < (leftOf en seen).size := (Array.getElem?_eq_some_iff.1 hj).1
      have hvr0 : vr0[j]? = some (e.key, e.val) := by
        have := congrArg (fun l => l[j]?) henr
        simp only [List.getElem?_map, Array.getElem?_toList, hj, Option.map_some] at this
        exact this.symm
      obtain ⟨j0, hvr⟩ := List.getElem?_of_mem (hpr.mem_iff.1 (List.mem_of_getElem? hvr0))
      have hpe : (vr0.eraseIdx j).Perm (vr.eraseIdx j0) := (((erase_perm hvr0).trans hpr).trans (erase_perm hvr).symm).cons_inv
      have hjr : j0 < rest.length := by have := (List.getElem?_eq_some_iff.1 hvr).1; omega
      obtain ⟨u, hu, hmv⟩ := hok.al.2 j0 rest[j0].1 rest[j0].2 (List.getElem?_eq_getElem hjr)
      rw [hvr] at hu
      have hkey : e.key = rest[j0].1 := by injection hu with hu; exact (Prod.mk.inj hu).1
      have hval : e.val = u := by injection hu with hu; exact (Prod.mk.inj hu).2
      have hem : e ∈ (leftOf en seen).toList := by rw [← Array.getElem?_toList] at hj; exact List.mem_of_getElem? hj
      have hen := (mem_left hem).1
      -- the world behind
      have hS1 : RelS G B w1 F loc s := by
        rcases hw1 with rfl | rfl
        · exact hS
        · exact relS_drew hS
      have hk1 : Kept w F w1 F := by
        rcases hw1 with rfl | rfl
        · exact Kept.refl _ _
        · exact fun q hF => ⟨hF, rfl⟩
      have hc1 : w1.heap[c]? = some (.mapIter (some b) since seen c0) := by rcases hw1 with rfl | rfl <;> exact hc
      have hb1 : w1.heap[b]? = some (.map en clock) := by rcases hw1 with rfl | rfl <;> exact hb
      have hset := Go.MapKept.heap_set (o' := .mapIter (some b) since (seen.push e.born) clock) hc1
      have hbc : b ≠ c := by rintro rfl; rw [hb] at hc; cases hc
      let w2 : World := { w1 with heap := w1.heap.setIfInBounds c (.mapIter (some b) since (seen.push e.born) clock) }
      have hk2 : Kept w1 F w2 F := fun q hF => ⟨hF, hset.2 q (fun eq => (hS1.own i _ c hc0 rfl).2.1 (eq ▸ hF))⟩
      have hk3 := hk1.trans hk2
      -- the map tells its next state first in the old world's words
      have hSg : RelS G B w1 F loc (upd s o (some (some (.mp kd ag es)))) := hS1.reO hl (.mp kd ag es b en clock vs hb1 (hm.mono hk1))
      obtain ⟨t1, _⟩ := hSg.turnIt (w' := w2) (o := i) (b := c) (l := .blk c) (x := .mi m0) hc0 rfl (by simp [w2]) rfl rfl rfl hset.2 (.mi m0 c b since clock (seen.push e.born) hset.1) (fun o' kd' ag' es' i' rest' cu' ho' => by
        by_cases hoo : o' = o
        · subst hoo; rw [upd_self] at ho'; cases ho'
        · rw [upd_ne _ _ hoo] at ho'
          rintro rfl
          obtain ⟨l2, hl2, hr2⟩ := hS.obs o' _ ho'
          cases hr2 with
          | mqg _ _ _ _ _ _ _ _ _ _ _ _ hg => rw [hc0] at hg; cases hg
          | mq _ _ _ _ _ _ b2 _ _ _ _ c2 _ _ _ _ _ hi2 hc2 _ =>
            rw [hc0] at hi2
            cases hi2
            rw [hc] at hc2
            cases hc2
            exact hoo (hS.inj o' o _ _ b hl2 hl rfl rfl))
      refine ⟨j0, rest[j0].1, rest[j0].2, e.val, w2, List.getElem?_eq_getElem hjr, by rw [← hkey]; exact hrun, by rw [hval]; exact hmv.mono hk3, by rw [← hkey]; exact hm.ks e hen, ?_, hk3⟩
      have t2 := t1.reO (o := o) (l := .blk b) hl (x := .mq kd ag es i (rest.eraseIdx j0) [(rest[j0].1, rest[j0].2)]) (.mq kd ag es i _ _ b en clock vs (vr.eraseIdx j0) c since clock (seen.push e.born) (by rw [hset.2 b hbc]; exact hb1) (hm.mono hk3) hc0 hset.1
        ⟨hok.sk, hok.sk, hok.old, ⟨_, hpe, ?_⟩, (hok.al.erase j0).mono hk3, [(rest[j0].1, e.val)], ⟨rfl, fun i k r hi => ?_⟩, fun k v hkv => ?_⟩)
      · have e2 : ∀ (y : Option (Option O)) (z : Option (Option O)) (q : Option (Option O)), upd (upd (upd s o y) i z) o q = upd (upd s i z) o q := by
          intro y z q
          funext n
          by_cases h1 : n = o
          · subst h1; rw [upd_self, upd_self]
          · rw [upd_ne _ _ h1, upd_ne _ _ h1]
            by_cases h2 : n = i
            · subst h2; rw [upd_self, upd_self]
            · rw [upd_ne _ _ h2, upd_ne _ _ h2, upd_ne _ _ h1]
        rw [e2] at t2
        have e3 : upd s i (some (some (.mi m0))) = s := by
          funext n
          by_cases h2 : n = i
          · subst h2; rw [upd_self, hi]
          · rw [upd_ne _ _ h2]
        rw [e3] at t2
        exact t2
      · show List.map _ _ = _
        have := henr
        unfold Ents at this
        rw [left_erase hm.st hj, ← this]
        have em : ∀ {α β : Type} (g : α → β) (l : List α) (i : Nat), (l.eraseIdx i).map g = (l.map g).eraseIdx i := by
          intro α β g l
          induction l with
          | nil => intro i; rfl
          | cons x l ih => intro i; cases i with
            | zero => rfl
            | succ i => simp only [List.eraseIdx_cons_succ, List.map_cons, ih]
        exact em _ _ _
      · cases i with
        | zero => cases hi; exact ⟨e.val, rfl, by rw [hval]; exact hmv.mono hk3⟩
        | succ i => simp at hi
      · simp only [List.getElem?_cons_zero, Option.some.injEq, Prod.mk.injEq] at hkv
        obtain ⟨rfl, rfl⟩ := hkv
        exact ⟨rfl, e, hen, by simp, hkey, rfl⟩
/-- the step's key and value, read behind it -/
theorem RelS.mapEntry {o i m0 : Nat} {rest cu : List (Value × List T)} {k : Value} {r : List T} (hS : RelS G B w F loc s) (ho : s o = some (some (.mq kd ag es i rest cu))) (hi : s i = some (some (.mi m0))) (hcu : cu = [(k, r)]) {v : Value} (hv : RelV w F loc (.it i) v) :
    ∃ v1, (Instr.entry v).run P w = .ok (.tuple #[k, v1]) w ∧ MapV w F ag r v1 := by
  subst hcu
  obtain ⟨l, hl, hrel⟩ := hS.obs o _ ho
  obtain ⟨li, hli, hreli⟩ := hS.obs i _ hi
  cases hrel with
  | mqg _ _ _ _ _ _ b en clock vs hb hm hg =>
    rw [hli] at hg; cases hg; cases hreli
  | mq _ _ _ _ _ _ b en clock vs vr c since c0 seen hb hm hc0 hc hok =>
    have hv' : v = .pointer (some ⟨c, 0, none⟩) := by
      cases hv with
      | gone _ o' _ hx hg => cases hx; rw [hc0] at hg; cases hg
      | it _ b' hb' => rw [hc0] at hb'; cases hb'; rfl
    subst hv'
    obtain ⟨vc, ha, hcur⟩ := hok.cur
    obtain ⟨v1, h1, h2⟩ := ha.2 0 k r rfl
    obtain ⟨rfl, e, hen, hback, hkey, hval⟩ := hcur k v1 h1
    have hf : en.find? (·.born == e.born) = some e := by rw [← Array.find?_toList]; exact find_born e en.toList hm.st.2.1 hen
    refine ⟨v1, ?_, h2⟩
    simp only [Instr.entry, getObj, Sem.run_bind, Sem.run, hc, hb, Result.andThen, hback, bne_self_eq_false, Bool.false_eq_true, if_false, hf, hkey, hval]
    rfl
end
end Go.Proofs.YtobfoiomjfdjjaaDoor.Mc

/- THE MACHINE (43): typed rows, typed values, typed states, and what they stand for. -/
namespace Go.Proofs.YtobfoiomjfdjjaaDoor.Mc
open Go.RowKit
variable [Mo]

def Row.eq? : (a b : Row) → Option (PLift (a = b))
  | .nil, .nil => some ⟨rfl⟩
  | .int k r, .int k' r' => if h : k = k' then (match Row.eq? r r' with | some g => some ⟨by rw [h, g.down]⟩ | none => none) else none
  | .bool r, .bool r' => match Row.eq? r r' with | some g => some ⟨by rw [g.down]⟩ | none => none
  | .str r, .str r' => match Row.eq? r r' with | some g => some ⟨by rw [g.down]⟩ | none => none
  | .sl e r, .sl e' r' => match Row.eq? e e', Row.eq? r r' with | some f, some g => some ⟨by rw [f.down, g.down]⟩ | _, _ => none
  | _, _ => none

/-! maps' types: keys and rows -/
inductive KTy where
  | s
  | i (k : IntKind)
  deriving DecidableEq
def KTy.den : KTy → Type
  | .s => ByteArray
  | .i _ => Int
def KTy.val : (t : KTy) → t.den → Value
  | .s, b => .string b
  | .i k, n => .int k n
def KTy.desc : KTy → TypeDesc
  | .s => .string
  | .i k => .int k
def sEq (a b : ByteArray) : Bool := a.toList == b.toList
def iEq (a b : Int) : Bool := a == b
def KTy.keq : (t : KTy) → t.den → t.den → Bool
  | .s => sEq
  | .i _ => iEq
def KTy.eq? : (a b : KTy) → Option (PLift (a = b))
  | .s, .s => some ⟨rfl⟩
  | .i k, .i k' => if h : k = k' then some ⟨by rw [h]⟩ else none
  | _, _ => none
structure MT where
  kt : KTy
  ag : Bool
  r : Row
abbrev MT.den (t : MT) : Type := List (t.kt.den × t.r.den)
/-- a new entry, at its key's place -/
def minsI {α : Type} (k : Int) (v : α) : List (Int × α) → List (Int × α)
  | [] => [(k, v)]
  | x :: l => cond (decide (k < x.1)) ((k, v) :: x :: l) (x :: minsI k v l)
def mputI {α : Type} (es : List (Int × α)) (k : Int) (v : α) : List (Int × α) := cond (mget iEq es k).isSome (mset iEq es k v) (minsI k v es)
def MT.put : (t : MT) → t.den → t.kt.den → t.r.den → t.den
  | ⟨.s, _, _⟩, es, k, y => mset sEq es k y
  | ⟨.i _, _, _⟩, es, k, y => mputI es k y
def MT.eq? : (a b : MT) → Option (PLift (a = b))
  | ⟨k, g, r⟩, ⟨k', g', r'⟩ => match KTy.eq? k k', Row.eq? r r' with
    | some h, some h' => if e : g = g' then some ⟨by rw [h.down, h'.down, e]⟩ else none
    | _, _ => none
/-- entries as the machine's -/
def MT.en (t : MT) (es : t.den) : List (Value × List T) := List.map (fun p => (t.kt.val p.1, t.r.en p.2)) es

/-! typed values -/
inductive X where
  | i (k : IntKind) (n : Int)
  | b (q : Bool)
  | s (s : ByteArray)
  | c (v : Value)
  | fz (nl : Nl) (r : Row) (xs : List r.den)
  | sl (nl : Nl) (o : Nat)
  | sw (o off len : Nat)
  | pt (o off : Nat)
  | pe (o i off : Nat)
  | pf (r : Row) (x : r.den) (off : Nat)
  | mp (o : Nat)
  | it (o : Nat)
  | sp (o : Nat)
  | fn (f : FuncId) (caps : List X)
  | ag (cells : List X)
  | tp (l : List X)
  | ifc (t : TypeId) (x : X)
  | dead
  deriving Inhabited

mutual
def X.enc : X → V
  | .i k n => .t (.sc (.int k n))
  | .b q => .t (.sc (.bool q))
  | .s s => .t (.sc (.string s))
  | .c v => if plain v then .t (.sc v) else .dead
  | .fz nl r xs => .t (.fz nl (xs.map r.en))
  | .sl nl o => .sl nl o
  | .sw o off len => .sw o off len
  | .pt o off => .pt o off
  | .pe o i off => .pe o i off
  | .pf r x off => .pf (r.en x) off
  | .mp o => .mp o
  | .it o => .it o
  | .sp o => .sp o
  | .fn f caps => .fn f (encL caps)
  | .ag cells => .ag (encL cells)
  | .tp l => .tp (encL l)
  | .ifc t x => .ifc t x.enc
  | .dead => .dead
def encL : List X → List V
  | [] => []
  | x :: xs => x.enc :: encL xs
end
omit [Mo] in
theorem encL_map : ∀ (xs : List X), encL xs = xs.map X.enc
  | [] => rfl
  | x :: xs => by rw [encL, encL_map xs]; rfl

/-- the cells of a row, typed -/
def Row.cells : (r : Row) → r.den → List X
  | .nil, _ => []
  | .int k r, x => .i k (prF r x) :: r.cells (prS r x)
  | .bool r, x => .b (prF r x) :: r.cells (prS r x)
  | .str r, x => .s (prF r x) :: r.cells (prS r x)
  | .sl e r, x => .fz .u e (prF r x) :: r.cells (prS r x)
omit [Mo] in
theorem Row.cells_enc : ∀ (r : Row) (x : r.den), (r.cells x).map X.enc = (r.en x).map .t
  | .nil, _ => rfl
  | .int _ r, x => by simp [Row.cells, Row.en, Row.cells_enc r, X.enc]
  | .bool r, x => by simp [Row.cells, Row.en, Row.cells_enc r, X.enc]
  | .str r, x => by simp [Row.cells, Row.en, Row.cells_enc r, X.enc]
  | .sl _ r, x => by simp [Row.cells, Row.en, Row.cells_enc r, X.enc]

/-- a nil slice -/
def isNilSl : Value → Bool
  | .slice none 0 0 => true
  | _ => false
omit [Mo] in
theorem isNilSl_eq {v : Value} (h : isNilSl v = true) : v = .slice none 0 0 := by
  unfold isNilSl at h
  split at h
  · rfl
  · cases h

/-- cells as a row's: whole numbers of its kinds and so on; a nil slice as an empty one -/
def Row.ofCells : (r : Row) → List X → Option r.den
  | .nil, [] => some ()
  | .int k r, .i k' n :: xs => if k = k' then (match r.ofCells xs with | some y => some (prM r n y) | none => none) else none
  | .bool r, .b q :: xs => match r.ofCells xs with | some y => some (prM r q y) | none => none
  | .str r, .s q :: xs => match r.ofCells xs with | some y => some (prM r q y) | none => none
  | .sl e r, .fz _ e' ys :: xs => match Row.eq? e' e, r.ofCells xs with | some h, some y => some (prM r (h.down ▸ ys) y) | _, _ => none
  | .sl e r, .c v :: xs => if isNilSl v then (match r.ofCells xs with | some y => some (prM r ([] : List e.den) y) | none => none) else none
  | _, _ => none

mutual
/-- data that tells less -/
inductive WeakT : T → T → Prop where
  | refl (x : T) : WeakT x x
  | fz (nl : Nl) (rows : List (List T)) : WeakT (.fz nl rows) (.fz .u rows)
  | nil : WeakT (.sc (.slice none 0 0)) (.fz .u [])
end
inductive WeakTs : List T → List T → Prop where
  | nil : WeakTs [] []
  | cons (x y : T) (xs ys : List T) (h : WeakT x y) (hs : WeakTs xs ys) : WeakTs (x :: xs) (y :: ys)
omit [Mo] in
theorem WeakT.rel {w : World} {F : Nat → Prop} {x y : T} {v : Value} (h : WeakT x y) (k : RelT w F x v) : RelT w F y v := by
  cases h with
  | refl => exact k
  | fz nl rows => exact relT_u k
  | nil => cases k; exact .nil .u (by simp)

omit [Mo] in
/-- the cells' images, as data, tell the row's cells -/
theorem Row.ofCells_en : ∀ (r : Row) (xs : List X) (y : r.den), r.ofCells xs = some y → ∃ ts, toTs (xs.map X.enc) = some ts ∧ WeakTs ts (r.en y)
  | .nil, [], y, _ => ⟨[], rfl, .nil⟩
  | .int k r, .i k' n :: xs, y, h => by
    unfold Row.ofCells at h
    split at h
    · rename_i hk
      split at h
      · rename_i z hz
        cases h
        obtain ⟨ts, h1, h2⟩ := Row.ofCells_en r xs z hz
        refine ⟨.sc (.int k' n) :: ts, by simp [toTs, X.enc, toT, h1], ?_⟩
        subst hk
        show WeakTs _ (T.sc (.int k (prF r (prM r n z))) :: r.en (prS r (prM r n z)))
        rw [prF_mk, prS_mk]; exact .cons _ _ _ _ (.refl _) h2
      · cases h
    · cases h
  | .bool r, .b q :: xs, y, h => by
    unfold Row.ofCells at h
    split at h
    · rename_i z hz
      cases h
      obtain ⟨ts, h1, h2⟩ := Row.ofCells_en r xs z hz
      refine ⟨.sc (.bool q) :: ts, by simp [toTs, X.enc, toT, h1], ?_⟩
      show WeakTs _ (T.sc (.bool (prF r (prM r q z))) :: r.en (prS r (prM r q z)))
      rw [prF_mk, prS_mk]; exact .cons _ _ _ _ (.refl _) h2
    · cases h
  | .str r, .s q :: xs, y, h => by
    unfold Row.ofCells at h
    split at h
    · rename_i z hz
      cases h
      obtain ⟨ts, h1, h2⟩ := Row.ofCells_en r xs z hz
      refine ⟨.sc (.string q) :: ts, by simp [toTs, X.enc, toT, h1], ?_⟩
      show WeakTs _ (T.sc (.string (prF r (prM r q z))) :: r.en (prS r (prM r q z)))
      rw [prF_mk, prS_mk]; exact .cons _ _ _ _ (.refl _) h2
    · cases h
  | .sl e r, .fz nl e' ys :: xs, y, h => by
    unfold Row.ofCells at h
    split at h
    · rename_i g z _ hz
      cases h
      obtain ⟨ts, h1, h2⟩ := Row.ofCells_en r xs z hz
      obtain ⟨rfl⟩ := g
      refine ⟨.fz nl (ys.map (Row.en _)) :: ts, by simp [toTs, X.enc, toT, h1], ?_⟩
      show WeakTs _ (T.fz .u ((prF r (prM r ys z)).map (Row.en _)) :: r.en (prS r (prM r ys z)))
      rw [prF_mk, prS_mk]; exact .cons _ _ _ _ (.fz _ _) h2
    · cases h
  | .sl e r, .c v :: xs, y, h => by
    unfold Row.ofCells at h
    split at h
    · rename_i hn
      split at h
      · rename_i z hz
        cases h
        obtain ⟨ts, h1, h2⟩ := Row.ofCells_en r xs z hz
        obtain rfl := isNilSl_eq hn
        refine ⟨.sc (.slice none 0 0) :: ts, by simp [toTs, X.enc, toT, h1, plain], ?_⟩
        show WeakTs _ (T.fz .u ((prF r (prM r ([] : List e.den) z)).map e.en) :: r.en (prS r (prM r ([] : List e.den) z)))
        rw [prF_mk, prS_mk]; exact .cons _ _ _ _ .nil h2
      · cases h
    · cases h

/-! objects, states -/
inductive XO where
  | ar (e : TypeId) (r : Row) (xs : List r.den)
  | bx (e : TypeId) (cells : List X)
  | mp (t : MT) (es : t.den)
  | mq (t : MT) (es : t.den) (i : Nat) (rest cu : t.den)
  | si (s : ByteArray) (pos : Nat)
  | mi (m : Nat)

def XO.enc : XO → O
  | .ar e r xs => .ar e r.len (xs.map r.en)
  | .bx e cells => .bx e (encL cells)
  | .mp t es => .mp t.kt.desc t.ag (t.en es)
  | .mq t es i rest cu => .mq t.kt.desc t.ag (t.en es) i (t.en rest) (t.en cu)
  | .si s pos => .si s pos
  | .mi m => .mi m

abbrev XS := List (Nat × Option XO)
abbrev XT := List (Nat × X)

def lk {α : Type} : List (Nat × α) → Nat → Option α
  | [], _ => none
  | (i, a) :: l, n => cond (Nat.beq i n) (some a) (lk l n)

/-- what stays as it is while a part of the code is walked -/
structure XE where
  t : XT
  s : XS
  n : Nat
  a : List Nat

structure XSt where
  t : XT
  s : XS

def encT (t : XT) : Nat → V := fun i => match lk t i with | some x => x.enc | none => .dead
def encS (s : XS) : Store := fun o => match lk s o with | some x => some (x.map XO.enc) | none => none
def encSt (E : XE) (st : XSt) : St := ⟨encT (st.t ++ E.t), encS (st.s ++ E.s), E.n, E.a⟩

omit [Mo] in
theorem lk_append {α : Type} : ∀ (l k : List (Nat × α)) (n : Nat), lk (l ++ k) n = match lk l n with | some x => some x | none => lk k n
  | [], k, n => rfl
  | (i, a) :: l, k, n => by
    rw [List.cons_append, lk, lk]
    cases Nat.beq i n
    · exact lk_append l k n
    · rfl

omit [Mo] in
theorem encT_cons (t : XT) (d : Nat) (x : X) : encT ((d, x) :: t) = upd (encT t) d x.enc := by
  funext i
  unfold encT upd
  rw [lk]
  by_cases h : Nat.beq d i = true
  · have e := Nat.eq_of_beq_eq_true h; subst e; simp
  · have h1 : Nat.beq d i = false := by rwa [Bool.not_eq_true] at h
    have h2 : Nat.beq i d = false := by rw [← Bool.not_eq_true, Nat.beq_eq]; rintro rfl; simp at h
    rw [h1, h2]; rfl

/-- a store, and what is new over it -/
def over (s : Store) : XS → Store
  | [] => s
  | (o, x) :: u => upd (over s u) o (some (x.map XO.enc))
omit [Mo] in
theorem encS_over : ∀ (u s : XS), encS (u ++ s) = over (encS s) u
  | [], s => rfl
  | (o, x) :: u, s => by
    rw [over, ← encS_over u s]
    funext i
    unfold upd
    show (match lk ((o, x) :: (u ++ s)) i with | some x => some (x.map XO.enc) | none => none) = _
    rw [lk]
    by_cases h : Nat.beq o i = true
    · have e := Nat.eq_of_beq_eq_true h; subst e; simp
    · have h1 : Nat.beq o i = false := by rwa [Bool.not_eq_true] at h
      have h2 : Nat.beq i o = false := by rw [← Bool.not_eq_true, Nat.beq_eq]; rintro rfl; simp at h
      rw [h1, h2]; rfl

/-- an operand's value -/
def constX : Value → X
  | .int k n => .i k n
  | .bool q => .b q
  | .string s => .s s
  | .tuple a => if a.isEmpty then .tp [] else .dead
  | v => .c v
omit [Mo] in
theorem constX_enc (v : Value) : (constX v).enc = constV v := by
  unfold constX
  split
  · rfl
  · rfl
  · rfl
  · rename_i a
    show _ = (if a.isEmpty then V.tp [] else .dead)
    split <;> rfl
  · rename_i h1 h2 h3 h4
    unfold constV
    split
    · exact absurd rfl (h4 _)
    · rfl

def evX (t : XT) : Operand → X
  | .tmp i => match lk t i with | some x => x | none => .dead
  | .const v => constX v
  | .global _ => .dead
  | .func f => .c (.func (.func f) #[] #[])
omit [Mo] in
theorem evX_enc (t : XT) (x : Operand) : (evX t x).enc = ev noG (encT t) x := by
  cases x with
  | tmp i => show X.enc (match lk t i with | some x => x | none => .dead) = (match lk t i with | some x => x.enc | none => .dead); cases lk t i <;> rfl
  | const v => exact constX_enc v
  | global g => rfl
  | func f => rfl
end Go.Proofs.YtobfoiomjfdjjaaDoor.Mc

/- THE MACHINE (44): typed operations that only compute: what they tell, and that coreV tells the same. -/
namespace Go.Proofs.YtobfoiomjfdjjaaDoor.Mc
open Go.RowKit
variable [Mo]
variable {P : Program} {D : Dec}

/-- a typed store as a function; it stands for a part of a store -/
abbrev XG := Nat → Option (Option XO)
structure Agree (g : XG) (s : Store) : Prop where
  is : ∀ o x, g o = some (some x) → s o = some (some x.enc)
  no : ∀ d, g d = none → s d = none

def gx (g : XG) (o : Nat) : Option XO := match g o with | some (some x) => some x | _ => none
omit [Mo] in
theorem gx_some {g : XG} {o : Nat} {x : XO} (h : gx g o = some x) : g o = some (some x) := by
  unfold gx at h
  split at h
  · rename_i hy; cases h; exact hy
  · cases h
omit [Mo] in
theorem Agree.get {g : XG} {s : Store} (h : Agree g s) {o : Nat} {x : XO} (k : gx g o = some x) : get s o = some x.enc := by
  unfold Mc.get; rw [h.is o x (gx_some k)]
def isBx : Option XO → Bool | some (.bx _ _) => true | _ => false
def isAr : Option XO → Bool | some (.ar _ _ _) => true | _ => false
def isMp : Option XO → Bool | some (.mp _ _) => true | some (.mq _ _ _ _ _) => true | _ => false
omit [Mo] in
theorem isMp_spec {g : XG} {s : Store} (h : Agree g s) {o : Nat} (k : isMp (gx g o) = true) : isMapO (get s o) = true := by
  unfold isMp at k
  split at k
  · rename_i hx; rw [h.get hx]; rfl
  · rename_i hx; rw [h.get hx]; rfl
  · cases k
def isOb : Option XO → Bool | some _ => true | _ => false
omit [Mo] in
theorem isBx_spec {g : XG} {s : Store} (h : Agree g s) {o : Nat} (k : isBx (gx g o) = true) : ∃ e cs, get s o = some (.bx e cs) := by
  unfold isBx at k
  split at k
  · rename_i e cs hx; exact ⟨e, encL cs, h.get hx⟩
  · cases k
omit [Mo] in
theorem isAr_spec {g : XG} {s : Store} (h : Agree g s) {o : Nat} (k : isAr (gx g o) = true) : ∃ e sz rows, get s o = some (.ar e sz rows) := by
  unfold isAr at k
  split at k
  · rename_i e r xs hx; exact ⟨e, _, _, h.get hx⟩
  · cases k
omit [Mo] in
theorem isOb_spec {g : XG} {s : Store} (h : Agree g s) {o : Nat} (k : isOb (gx g o) = true) : (get s o).isSome = true := by
  unfold isOb at k
  split at k
  · rename_i x hx; rw [h.get hx]; rfl
  · cases k

/-! nil tests -/
def nilC : Value → Option Bool
  | .pointer none => some true
  | .slice none 0 0 => some true
  | .map none => some true
  | .nilFunc => some true
  | .nilIface => some true
  | .func (.func _) a b => cond (a.isEmpty && b.isEmpty) (some false) none
  | _ => none
def xnil (g : XG) : X → Option Bool
  | .c v => nilC v
  | .fz nl _ xs => match nl with | .e => some false | .n => some (Nat.beq xs.length 0) | .u => none
  | .sl nl o => match gx g o with
    | some (.ar _ _ xs) => match nl with | .e => some false | .n => some (Nat.beq xs.length 0) | .u => none
    | _ => none
  | .pt o _ => cond (isBx (gx g o)) (some false) none
  | .pe o _ _ => cond (isAr (gx g o)) (some false) none
  | .pf _ _ _ => some false
  | .mp o => cond (isMp (gx g o)) (some false) none
  | .fn _ _ => some false
  | .ifc _ _ => some false
  | _ => none
omit [Mo] in
theorem cond_some {α : Type} {c : Bool} {a b : α} (h : cond c (some a) none = some b) : c = true ∧ a = b := by
  cases c
  · cases h
  · cases h; exact ⟨rfl, rfl⟩
omit [Mo] in
theorem xnil_spec {g : XG} {s : Store} (ha : Agree g s) {x : X} {b : Bool} (h : xnil g x = some b) : nilQ s x.enc = some b := by
  cases x with
  | c v =>
    show nilQ s (if plain v then .t (.sc v) else .dead) = _
    have h' : nilC v = some b := h
    unfold nilC at h'
    split at h'
    all_goals first
      | (cases h'; rfl)
      | (obtain ⟨h1, h2⟩ := cond_some h'; subst h2; simp only [Bool.and_eq_true] at h1; simp only [plain, h1.1, h1.2]; rfl)
      | cases h'
  | fz nl r xs => cases nl <;> simp [xnil] at h <;> simp [nilQ, X.enc, h]
  | sl nl o =>
    simp only [xnil] at h
    split at h
    · rename_i e r xs hx
      have := ha.get hx
      cases nl <;> simp at h <;> simp [nilQ, X.enc, this, XO.enc, h]
    · cases h
  | pt o off =>
    obtain ⟨h1, h2⟩ := cond_some h
    obtain ⟨e, cs, hg⟩ := isBx_spec ha h1
    subst h2; simp [nilQ, X.enc, hg]
  | pe o i off =>
    obtain ⟨h1, h2⟩ := cond_some h
    obtain ⟨e, sz, rows, hg⟩ := isAr_spec ha h1
    subst h2; simp [nilQ, X.enc, hg]
  | pf => simpa [nilQ, X.enc, xnil] using h
  | mp o =>
    obtain ⟨h1, h2⟩ := cond_some h
    subst h2
    show (if isMapO (get s o) = true then some false else none) = _
    rw [if_pos (isMp_spec ha h1)]
  | fn => simpa [nilQ, X.enc, xnil] using h
  | ifc => simpa [nilQ, X.enc, xnil] using h
  | _ => cases h

def xkd : X → Kd
  | .c v => cond (plain v) (kdV v) .no
  | .fz _ _ _ => .sl
  | .sl _ _ => .sl
  | .pt _ _ => .ptr
  | .pe _ _ _ => .ptr
  | .pf _ _ _ => .ptr
  | .mp _ => .mp
  | .fn _ _ => .fn
  | .ifc _ _ => .ifc
  | _ => .no
omit [Mo] in
theorem xkd_spec (x : X) : kd x.enc = xkd x := by
  cases x with
  | c v => simp only [X.enc, xkd]; cases plain v <;> rfl
  | _ => rfl

/-! whole numbers, texts -/
inductive Out where
  | bad
  | ok (v : X) (u : XS)
  | grd (q : Bool) (v : X) (u : XS)
  | bnd (α : Type) (m : Option α) (f : α → X × XS)
  | frz (o : Nat)
  | nilq (c : Bool) (v1 v2 : X)
  | cs (c : Bool) (v1 : X) (u1 : XS) (v2 : X) (u2 : XS)
  | any (α : Type) (v0 : X) (u0 : XS) (l : List α) (f : Nat → α → X × XS)

def okB (q : Bool) : Out := .ok (.b q) []
def okI (k : IntKind) (n : Int) : Out := .ok (.i k n) []
def xint (op : BinOp) (k : IntKind) (a b : Int) : Out :=
  match op with
  | .add => okI k (k.wrap (a + b))
  | .sub => okI k (k.wrap (a - b))
  | .mul => okI k (k.wrap (a * b))
  | .quo => .grd (b != 0) (.i k (k.wrap (a.tdiv b))) []
  | .rem => .grd (b != 0) (.i k (a.tmod b)) []
  | .and => okI k (Go.bits .and k a b)
  | .or => okI k (Go.bits .or k a b)
  | .xor => okI k (Go.bits .xor k a b)
  | .andNot => okI k (Go.bits .andNot k a b)
  | .eql => okB (a == b)
  | .neq => okB (a != b)
  | .lss => okB (decide (a < b))
  | .leq => okB (decide (a ≤ b))
  | .gtr => okB (decide (b < a))
  | .geq => okB (decide (b ≤ a))
  | _ => .bad
def xshift (op : BinOp) (k : IntKind) (a b : Int) : Out :=
  match op with
  | .shl => .grd (decide (0 ≤ b)) (.i k (k.wrap (a * 2 ^ min b.toNat k.bits))) []
  | .shr => .grd (decide (0 ≤ b)) (.i k (a.fdiv (2 ^ min b.toNat k.bits))) []
  | _ => .bad
def isShift : BinOp → Bool | .shl => true | .shr => true | _ => false
def xstr (op : BinOp) (a b : ByteArray) : Out :=
  match op with
  | .add => .grd (decide (a.size + b.size ≤ 9223372036854775807)) (.s (a ++ b)) []
  | .eql => okB (a.toList == b.toList)
  | .neq => okB (!(a.toList == b.toList))
  | .lss => okB (Op.bytesLess a.toList b.toList)
  | .leq => okB (Op.bytesLess a.toList b.toList || a.toList == b.toList)
  | .gtr => okB (!(Op.bytesLess a.toList b.toList || a.toList == b.toList))
  | .geq => okB (!(Op.bytesLess a.toList b.toList))
  | _ => .bad

def isBoolT : Option TypeDesc → Bool | some .bool => true | _ => false
/-- a test against nil -/
def xnilT (D : Dec) (g : XG) (t : TypeId) (x : X) (v : Value) : Option Bool :=
  match D.und t with
  | some d => cond (fitsK d (xkd x) v && (xkd x != .no) && plain v) (xnil g x) none
  | none => none

def xbin (D : Dec) (g : XG) (op : BinOp) (t : TypeId) (ox oy : Operand) (x y : X) : Out :=
  match x, y with
  | .i k a, .i k' b => cond (isShift op) (xshift op k a b) (if k = k' then xint op k a b else .bad)
  | .s a, .s b => xstr op a b
  | .b a, .b b => match op with
    | .eql => cond (isBoolT (D.und t)) (okB (a == b)) .bad
    | .neq => cond (isBoolT (D.und t)) (okB (!(a == b))) .bad
    | _ => .bad
  | x, .c v => match op with
    | .eql => cond (xkd x == .ifc && !(isConst oy)) .bad (match xnilT D g t x v with | some q => okB q | none => .bad)
    | .neq => cond (xkd x == .ifc && !(isConst oy)) .bad (match xnilT D g t x v with | some q => okB (!q) | none => .bad)
    | _ => .bad
  | _, _ => .bad

def xun (op : UnOp) (x : X) : Out :=
  match op, x with
  | .not, .b q => okB (!q)
  | .neg, .i k n => okI k (k.wrap (0 - n))
  | .xor, .i k n => okI k (Go.bits .xor k (if k.signed then -1 else k.max) n)
  | _, _ => .bad

def intT : Option TypeDesc → Option IntKind | some (.int k) => some k | _ => none
def isStrT : Option TypeDesc → Bool | some .string => true | _ => false
def xconv (D : Dec) (src dst : TypeId) (x : X) : Out :=
  match x with
  | .i _ n => cond (D.has src) (match intT (D.und dst) with | some k => okI k (k.wrap n) | none => .bad) .bad
  | .s s => cond (isStrT (D.und src) && isStrT (D.und dst)) (.ok (.s s) []) .bad
  | _ => .bad

/-- what an out says of coreV -/
def OutC (D : Dec) (op : Op) (e : Operand → V) (s : Store) : Out → Prop
  | .ok v u => u = [] ∧ coreV D op e s = some v.enc
  | .grd q v u => q = true → u = [] ∧ coreV D op e s = some v.enc
  | _ => True

omit [Mo] in
theorem xint_spec {op : BinOp} {k : IntKind} {a b : Int} (v : X) :
    (∀ u, xint op k a b = .ok v u → u = [] ∧ ∃ r, intBin op k a b = some r ∧ v.enc = .t (.sc r) ∧ isShift op = false) ∧
    (∀ q u, xint op k a b = .grd q v u → q = true → u = [] ∧ ∃ r, intBin op k a b = some r ∧ v.enc = .t (.sc r) ∧ isShift op = false) := by
  constructor
  · intro u h
    cases op <;> simp only [xint, okI, okB, Out.ok.injEq, reduceCtorEq] at h <;> (obtain ⟨rfl, rfl⟩ := h; exact ⟨rfl, _, rfl, rfl, rfl⟩)
  · intro q u h hq
    cases op <;> simp only [xint, okI, okB, Out.grd.injEq, reduceCtorEq] at h <;>
      (obtain ⟨rfl, rfl, rfl⟩ := h; have hb : ¬ b = 0 := by simpa using hq
       exact ⟨rfl, _, by simp only [intBin, if_neg hb], rfl, rfl⟩)

omit [Mo] in
theorem bin_int {op : BinOp} {k : IntKind} {a b : Int} (h : isShift op = false) : bin op (.int k a) (.int k b) = intBin op k a b := by
  cases op <;> first | (cases h; done) | simp [bin]

omit [Mo] in
theorem binV_sc {s : Store} {op : BinOp} {t : TypeId} {a b r : Value} (h : bin op a b = some r) : binV D s op t (.t (.sc a)) (.t (.sc b)) = some (.t (.sc r)) := by
  unfold binV
  split
  · simp [h]
  · simp [h]
  · simp [h]

omit [Mo] in
theorem binV_eq {s : Store} {t : TypeId} {x y : V} {q : Bool} (h : eqV D s t x y = some q) (hn : ∀ a b, x = .t (.sc a) → y = .t (.sc b) → bin .eql a b = none) : binV D s .eql t x y = some (vB q) := by
  unfold binV
  split
  · split
    · rename_i a b
      rw [hn a b rfl rfl, h]; rfl
    · rw [h]; rfl
  · rename_i h1; cases h1
  · rename_i h1 h2; exact absurd rfl h1
omit [Mo] in
theorem binV_ne {s : Store} {t : TypeId} {x y : V} {q : Bool} (h : eqV D s t x y = some q) (hn : ∀ a b, x = .t (.sc a) → y = .t (.sc b) → bin .neq a b = none) : binV D s .neq t x y = some (vB !q) := by
  unfold binV
  split
  · rename_i h1; cases h1
  · split
    · rename_i a b
      rw [hn a b rfl rfl, h]; rfl
    · rw [h]; rfl
  · rename_i h1 h2; exact absurd rfl h2

omit [Mo] in
theorem nilT_bin {d : TypeDesc} {k : Kd} {c : Value} (h : fitsK d k c = true) (op : BinOp) (a : Value) : bin op a c = none := by
  unfold fitsK at h
  split at h
  all_goals first
    | (cases op <;> cases a <;> rfl)
    | cases h

omit [Mo] in
theorem eqV_nil {s : Store} {g : XG} (ha : Agree g s) {t : TypeId} {x : X} {v : Value} {q : Bool} (h : xnilT D g t x v = some q) :
    eqV D s t x.enc (X.enc (.c v)) = some q ∧ (∀ op a, bin op a v = none) ∧ X.enc (.c v) = .t (.sc v) := by
  unfold xnilT at h
  split at h
  · rename_i d hd
    cases hc : (fitsK d (xkd x) v && (xkd x != .no) && plain v) with
    | false => rw [hc] at h; cases h
    | true =>
      rw [hc] at h
      simp only [Bool.and_eq_true] at hc
      obtain ⟨⟨h1, h2⟩, h3⟩ := hc
      have hv : X.enc (.c v) = .t (.sc v) := by simp [X.enc, h3]
      refine ⟨?_, fun op a => nilT_bin h1 op a, hv⟩
      have hq : nilQ s x.enc = some q := xnil_spec ha h
      rw [hv]
      unfold eqV
      rw [hd]
      simp only
      split
      · rename_i p q' _ hb
        injection hb with hb; injection hb with hb
        subst hb
        unfold fitsK at h1; split at h1 <;> simp_all
      · rename_i c hx _
        injection hx with hx; injection hx with hx
        subst hx
        rw [if_pos (by rw [xkd_spec, h1, h2]; rfl)]; exact hq
      · rename_i hno1 _
        exact (hno1 v rfl).elim
  · cases h
end Go.Proofs.YtobfoiomjfdjjaaDoor.Mc

/- THE MACHINE (45): typed operations that only compute (2): reading, fields, addresses, pieces, built values. -/
namespace Go.Proofs.YtobfoiomjfdjjaaDoor.Mc
open Go.RowKit
variable [Mo]
variable {P : Program} {D : Dec}

omit [Mo] in
theorem binV_shift {op : BinOp} {k k' : IntKind} {a b : Int} : isShift op = true → (∀ v u, xshift op k a b ≠ .ok v u) ∧ ∀ q v u, xshift op k a b = .grd q v u → q = true → u = [] ∧ ∃ r, bin op (.int k a) (.int k' b) = some r ∧ v.enc = .t (.sc r) := by
  intro hs
  constructor
  · intro v u h
    cases op <;> simp [xshift] at h
  · intro q v u h hq
    cases op <;> first | (cases hs; done) | skip
    all_goals
      simp only [xshift, Out.grd.injEq] at h
      obtain ⟨rfl, rfl, rfl⟩ := h
      have h0 : ¬ b < 0 := by have := of_decide_eq_true hq; omega
      exact ⟨rfl, _, by simp only [bin, if_neg h0], rfl⟩

omit [Mo] in
theorem xstr_spec {op : BinOp} {a b : ByteArray} (v : X) :
    (∀ u, xstr op a b = .ok v u → u = [] ∧ ∃ r, bin op (.string a) (.string b) = some r ∧ v.enc = .t (.sc r)) ∧
    (∀ q u, xstr op a b = .grd q v u → q = true → u = [] ∧ ∃ r, bin op (.string a) (.string b) = some r ∧ v.enc = .t (.sc r)) := by
  constructor
  · intro u h
    cases op <;> simp only [xstr, okB, Out.ok.injEq, reduceCtorEq] at h <;> (obtain ⟨rfl, rfl⟩ := h; exact ⟨rfl, _, rfl, rfl⟩)
  · intro q u h hq
    cases op <;> simp only [xstr, okB, Out.grd.injEq, reduceCtorEq] at h
    obtain ⟨rfl, rfl, rfl⟩ := h
    have h0 := of_decide_eq_true hq
    exact ⟨rfl, _, by simp only [bin, strBin, if_pos h0], rfl⟩

omit [Mo] in
theorem outc_ite {D : Dec} {op : Op} {e : Operand → V} {s : Store} {c : Prop} [Decidable c] {a b : Out} (ha : c → OutC D op e s a) (hb : ¬ c → OutC D op e s b) : OutC D op e s (if c then a else b) := by
  by_cases h : c
  · rw [if_pos h]; exact ha h
  · rw [if_neg h]; exact hb h
omit [Mo] in
theorem outc_cond {D : Dec} {op : Op} {e : Operand → V} {s : Store} {c : Bool} {a b : Out} (ha : c = true → OutC D op e s a) (hb : c = false → OutC D op e s b) : OutC D op e s (cond c a b) := by
  cases c
  · exact hb rfl
  · exact ha rfl

omit [Mo] in
/-- binary operations -/
theorem xbin_spec {g : XG} {s : Store} (ha : Agree g s) {e : Operand → V} {op : BinOp} {t q : TypeId} {ox oy : Operand} {x y : X} (hx : e ox = x.enc) (hy : e oy = y.enc) :
    OutC D (.binOp op t ox oy q) e s (xbin D g op t ox oy x y) := by
  have core : ∀ {r : Value}, (kd (e ox) = .ifc → isConst oy = true) → binV D s op t x.enc y.enc = some (.t (.sc r)) → coreV D (.binOp op t ox oy q) e s = some (.t (.sc r)) := by
    intro r hc h
    show (if kd (e ox) == .ifc && !(isConst oy) then none else binV D s op t (e ox) (e oy)) = _
    rw [if_neg ?_, hx, hy, h]
    simp only [Bool.and_eq_true, beq_iff_eq, Bool.not_eq_true', not_and, Bool.not_eq_false]
    exact hc
  unfold xbin
  split
  · rename_i k a k' b
    have hk : kd (e ox) = .ifc → isConst oy = true := fun h => by rw [hx] at h; simp [X.enc, kd, kdV] at h
    refine outc_cond (fun hs => ?_) (fun hs => ?_)
    · obtain ⟨h1, h2⟩ := binV_shift (k := k) (k' := k') (a := a) (b := b) hs
      generalize hxs : xshift op k a b = o at h1 h2
      cases o with
      | ok v u => exact absurd rfl (h1 v u)
      | grd q' v u =>
        intro hq
        obtain ⟨rfl, r, hr, hv⟩ := h2 q' v u rfl hq
        exact ⟨rfl, by rw [hv]; exact core hk (binV_sc hr)⟩
      | _ => trivial
    · refine outc_ite (fun hkk => ?_) (fun _ => trivial)
      subst hkk
      generalize hxs : xint op k a b = o
      cases o with
      | ok v u =>
        obtain ⟨rfl, r, hr, hv, hs'⟩ := (xint_spec v).1 u hxs
        exact ⟨rfl, by rw [hv]; exact core hk (binV_sc (by rw [bin_int hs']; exact hr))⟩
      | grd q' v u =>
        intro hq
        obtain ⟨rfl, r, hr, hv, hs'⟩ := (xint_spec v).2 q' u hxs hq
        exact ⟨rfl, by rw [hv]; exact core hk (binV_sc (by rw [bin_int hs']; exact hr))⟩
      | _ => trivial
  · rename_i a b
    have hk : kd (e ox) = .ifc → isConst oy = true := fun h => by rw [hx] at h; simp [X.enc, kd, kdV] at h
    generalize hxs : xstr op a b = o
    cases o with
    | ok v u =>
      obtain ⟨rfl, r, hr, hv⟩ := (xstr_spec v).1 u hxs
      exact ⟨rfl, by rw [hv]; exact core hk (binV_sc hr)⟩
    | grd q' v u =>
      intro hq
      obtain ⟨rfl, r, hr, hv⟩ := (xstr_spec v).2 q' u hxs hq
      exact ⟨rfl, by rw [hv]; exact core hk (binV_sc hr)⟩
    | _ => trivial
  · rename_i a b
    have hk : kd (e ox) = .ifc → isConst oy = true := fun h => by rw [hx] at h; simp [X.enc, kd, kdV] at h
    have hb : ∀ {d : TypeDesc}, D.und t = some d → d = .bool → eqV D s t (X.b a).enc (X.b b).enc = some (a == b) := by
      rintro d hd rfl
      simp [eqV, X.enc, hd]
    have ht : isBoolT (D.und t) = true → eqV D s t (X.b a).enc (X.b b).enc = some (a == b) := by
      intro h
      unfold isBoolT at h
      split at h
      · rename_i hd; exact hb hd rfl
      · cases h
    split
    · refine outc_cond (fun h => ?_) (fun _ => trivial)
      refine ⟨rfl, core hk (binV_eq (ht h) ?_)⟩
      rintro _ _ ⟨⟩ ⟨⟩; rfl
    · refine outc_cond (fun h => ?_) (fun _ => trivial)
      refine ⟨rfl, core hk (binV_ne (ht h) ?_)⟩
      rintro _ _ ⟨⟩ ⟨⟩; rfl
    · trivial
  · split
    · refine outc_cond (fun _ => trivial) (fun hc => ?_)
      have hk : kd (e ox) = .ifc → isConst oy = true := by
        intro h
        rw [hx, xkd_spec] at h
        rw [h] at hc
        simpa using hc
      split
      · rename_i q' hq
        obtain ⟨h1, h2, h3⟩ := eqV_nil ha hq
        refine ⟨rfl, core hk (binV_eq h1 fun a b _ hb => ?_)⟩
        rw [h3] at hb; injection hb with hb; injection hb with hb; subst hb; exact h2 _ _
      · trivial
    · refine outc_cond (fun _ => trivial) (fun hc => ?_)
      have hk : kd (e ox) = .ifc → isConst oy = true := by
        intro h
        rw [hx, xkd_spec] at h
        rw [h] at hc
        simpa using hc
      split
      · rename_i q' hq
        obtain ⟨h1, h2, h3⟩ := eqV_nil ha hq
        refine ⟨rfl, core hk (binV_ne h1 fun a b _ hb => ?_)⟩
        rw [h3] at hb; injection hb with hb; injection hb with hb; subst hb; exact h2 _ _
      · trivial
    · trivial
  · trivial

omit [Mo] in
theorem xun_spec {s : Store} {e : Operand → V} {op : UnOp} {t : TypeId} {ox : Operand} {x : X} (hx : e ox = x.enc) : OutC D (.unOp op t ox) e s (xun op x) := by
  unfold xun
  split
  · exact ⟨rfl, by show unV _ _ = _; rw [hx]; rfl⟩
  · exact ⟨rfl, by show unV _ _ = _; rw [hx]; rfl⟩
  · exact ⟨rfl, by show unV _ _ = _; rw [hx]; rfl⟩
  · trivial

omit [Mo] in
theorem intT_spec {o : Option TypeDesc} {k : IntKind} (h : intT o = some k) : o = some (.int k) := by
  unfold intT at h
  split at h
  · cases h; rfl
  · cases h
omit [Mo] in
theorem isStrT_spec {o : Option TypeDesc} (h : isStrT o = true) : o = some .string := by
  unfold isStrT at h
  split at h
  · rfl
  · cases h

omit [Mo] in
theorem xconv_spec {s : Store} {e : Operand → V} {src dst : TypeId} {ox : Operand} {x : X} (hx : e ox = x.enc) : OutC D (.convert src dst ox) e s (xconv D src dst x) := by
  unfold xconv
  split
  · rename_i k n
    refine outc_cond (fun h => ?_) (fun _ => trivial)
    split
    · rename_i k' hk
      obtain ⟨d, hd⟩ := has_some h
      exact ⟨rfl, by show convV D src dst (e ox) = _; rw [hx]; simp [convV, hd, intT_spec hk, X.enc, vI]⟩
    · trivial
  · rename_i b
    refine outc_cond (fun h => ?_) (fun _ => trivial)
    simp only [Bool.and_eq_true] at h
    exact ⟨rfl, by show convV D src dst (e ox) = _; rw [hx]; simp [convV, isStrT_spec h.1, isStrT_spec h.2, X.enc, vS]⟩
  · trivial

/-! reading out of cells -/
def xread (D : Dec) (t : Nat) (cells : List X) (off : Nat) : X :=
  match D.und t with
  | some d => cond d.isRow (.ag ((cells.drop off).take (D.size t))) ((cells[off]?).getD .dead)
  | none => .dead
def xreadB (D : Dec) (t len off : Nat) : Bool :=
  match D.und t with
  | some d => cond d.isRow (Nat.ble (off + D.size t) len) (Nat.blt off len)
  | none => false
omit [Mo] in
theorem xread_spec {t : Nat} {cells : List X} {off : Nat} (h : xreadB D t cells.length off = true) : readV D t (cells.map X.enc) off = some (xread D t cells off).enc := by
  unfold xreadB at h
  unfold xread readV
  split at h
  · rename_i d hd
    rw [hd]
    simp only
    cases hr : d.isRow with
    | true =>
      rw [hr] at h
      have h' : off + D.size t ≤ cells.length := Nat.le_of_ble_eq_true h
      simp only [if_true, cond_true, List.length_map, if_pos h', X.enc, encL_map, List.map_drop, List.map_take]
    | false =>
      rw [hr] at h
      have h' : off < cells.length := by simpa using h
      simp [h']
  · cases h

def structT : Option TypeDesc → Option (Array Field) | some (.struct fs) => some fs | _ => none
omit [Mo] in
theorem structT_spec {o : Option TypeDesc} {fs : Array Field} (h : structT o = some fs) : o = some (.struct fs) := by
  unfold structT at h
  split at h
  · cases h; rfl
  · cases h

def xfield (D : Dec) (t : TypeId) (x : X) (f : Nat) : Out :=
  match x with
  | .ag cells => match structT (D.und t) with
    | some fs => match fs[f]? with
      | some fl => cond (xreadB D fl.type cells.length fl.offset) (.ok (xread D fl.type cells fl.offset) []) .bad
      | none => .bad
    | none => .bad
  | _ => .bad
omit [Mo] in
theorem xfield_spec {s : Store} {e : Operand → V} {t : TypeId} {ox : Operand} {x : X} {f : Nat} (hx : e ox = x.enc) : OutC D (.field t ox f) e s (xfield D t x f) := by
  unfold xfield
  split
  · rename_i cells
    split
    · rename_i fs hfs
      split
      · rename_i fl hfl
        refine outc_cond (fun h => ⟨rfl, ?_⟩) (fun _ => trivial)
        show fieldV D t (e ox) f = _
        rw [hx]
        simp only [fieldV, structT_spec hfs, X.enc, encL_map, hfl]
        exact xread_spec h
      · trivial
    · trivial
  · trivial

def xshiftP (g : XG) (x : X) (n : Nat) : Out :=
  match x with
  | .pt o off => cond (isBx (gx g o)) (.ok (.pt o (off + n)) []) .bad
  | .pe o i off => cond (isAr (gx g o)) (.ok (.pe o i (off + n)) []) .bad
  | .pf r a off => .ok (.pf r a (off + n)) []
  | _ => .bad
omit [Mo] in
theorem xshiftP_spec {g : XG} {s : Store} (ha : Agree g s) {x : X} {n : Nat} {v : X} {u : XS} (h : xshiftP g x n = .ok v u) : u = [] ∧ shiftV s x.enc n = some v.enc := by
  unfold xshiftP at h
  split at h
  · rename_i o off
    cases hc : isBx (gx g o) with
    | false => rw [hc] at h; cases h
    | true =>
      rw [hc] at h; cases h
      obtain ⟨e, cs, hg⟩ := isBx_spec ha hc
      exact ⟨rfl, by simp [shiftV, X.enc, hg]⟩
  · rename_i o i off
    cases hc : isAr (gx g o) with
    | false => rw [hc] at h; cases h
    | true =>
      rw [hc] at h; cases h
      obtain ⟨e, sz, rows, hg⟩ := isAr_spec ha hc
      exact ⟨rfl, by simp [shiftV, X.enc, hg]⟩
  · cases h; exact ⟨rfl, rfl⟩
  · cases h
omit [Mo] in
theorem xshiftP_kind {g : XG} {x : X} {n : Nat} : (∀ q v u, xshiftP g x n ≠ .grd q v u) ∧ ∀ α m f, xshiftP g x n ≠ .bnd α m f := by
  have h : ∀ (c : Bool) (o : X), (∀ q v u, cond c (Out.ok o []) .bad ≠ .grd q v u) ∧ ∀ α m f, cond c (Out.ok o []) .bad ≠ .bnd α m f := by intro c o; cases c <;> simp
  cases x <;> first | exact h _ _ | simp [xshiftP]

def xfieldAddr (D : Dec) (g : XG) (t : TypeId) (x : X) (f : Nat) : Out :=
  match structT (D.und t) with
  | some fs => match fs[f]? with
    | some fl => cond (Nat.beq (D.size fl.type) 0 || !(D.has fl.type)) .bad (xshiftP g x fl.offset)
    | none => .bad
  | none => .bad
omit [Mo] in
theorem xfieldAddr_spec {g : XG} {s : Store} (ha : Agree g s) {e : Operand → V} {t : TypeId} {ox : Operand} {x : X} {f : Nat} (hx : e ox = x.enc) : OutC D (.fieldAddr t ox f) e s (xfieldAddr D g t x f) := by
  unfold xfieldAddr
  split
  · rename_i fs hfs
    split
    · rename_i fl hfl
      refine outc_cond (fun _ => trivial) (fun hc => ?_)
      have hc' : (decide (D.size fl.type = 0) || !D.has fl.type) = false := by
        rw [← hc]; congr 1
        rw [Bool.eq_iff_iff]; simp
      generalize ho : xshiftP g x fl.offset = o
      cases o with
      | ok v u =>
        obtain ⟨rfl, h2⟩ := xshiftP_spec ha ho
        refine ⟨rfl, ?_⟩
        show fieldAddrV D s t (e ox) f = _
        simp only [fieldAddrV, structT_spec hfs, hfl, hx, hc']
        exact h2
      | grd q v u => exact absurd ho (xshiftP_kind.1 q v u)
      | bnd α m f => exact absurd ho (xshiftP_kind.2 α m f)
      | _ => trivial
    · trivial
  · trivial

def xload (D : Dec) (g : XG) (t : TypeId) (p : X) : Out :=
  match p with
  | .pt o off => match gx g o with
    | some (.bx e cells) => cond (Nat.blt e 3000000 && xreadB D t cells.length off) (.ok (xread D t cells off) []) .bad
    | _ => .bad
  | .pe o i off => match gx g o with
    | some (.ar _ r xs) => cond (xreadB D t r.len off) (.bnd r.den (xs[i]?) fun a => (xread D t (r.cells a) off, [])) .bad
    | _ => .bad
  | .pf r a off => cond (xreadB D t r.len off) (.ok (xread D t (r.cells a) off) []) .bad
  | _ => .bad
omit [Mo] in
theorem Row.cells_len (r : Row) (a : r.den) : (r.cells a).length = r.len := by
  have := congrArg List.length (r.cells_enc a)
  simpa [Row.en_len] using this

def OutL (D : Dec) (op : Op) (e : Operand → V) (s : Store) : Out → Prop
  | .bnd _ m f => ∀ a, m = some a → (f a).2 = [] ∧ coreV D op e s = some (f a).1.enc
  | .nilq _ _ _ => False
  | .cs _ _ _ _ _ => False
  | .any _ _ _ _ _ => False
  | o => OutC D op e s o
omit [Mo] in
theorem outl_cond {D : Dec} {op : Op} {e : Operand → V} {s : Store} {c : Bool} {a b : Out} (ha : c = true → OutL D op e s a) (hb : c = false → OutL D op e s b) : OutL D op e s (cond c a b) := by
  cases c
  · exact hb rfl
  · exact ha rfl

omit [Mo] in
theorem xload_spec {g : XG} {s : Store} (ha : Agree g s) {e : Operand → V} {t : TypeId} {op : Operand} {p : X} (hp : e op = p.enc) : OutL D (.load t op) e s (xload D g t p) := by
  unfold xload
  split
  · rename_i o off
    split
    · rename_i e' cells hg
      refine outl_cond (fun h => ⟨rfl, ?_⟩) (fun _ => trivial)
      show loadV D s t (e op) = _
      rw [hp]
      rw [Bool.and_eq_true] at h
      simp only [loadV, X.enc, ha.get hg, XO.enc, encL_map, h.1, if_true]
      exact xread_spec h.2
    · trivial
  · rename_i o i off
    split
    · rename_i e' r xs hg
      refine outl_cond (fun h => fun a hm => ⟨rfl, ?_⟩) (fun _ => trivial)
      show loadV D s t (e op) = _
      rw [hp]
      simp only [loadV, X.enc, ha.get hg, XO.enc, List.getElem?_map, hm, Option.map_some]
      rw [← r.cells_enc]
      exact xread_spec (by rw [r.cells_len]; exact h)
    · trivial
  · rename_i r a off
    refine outl_cond (fun h => ⟨rfl, ?_⟩) (fun _ => trivial)
    show loadV D s t (e op) = _
    rw [hp]
    simp only [loadV, X.enc]
    rw [← r.cells_enc]
    exact xread_spec (by rw [r.cells_len]; exact h)
  · trivial
end Go.Proofs.YtobfoiomjfdjjaaDoor.Mc

/- THE MACHINE (46): typed operations: indexes, pieces, lengths, built values; their laws. -/
namespace Go.Proofs.YtobfoiomjfdjjaaDoor.Mc
open Go.RowKit
variable [Mo]
variable {P : Program} {D : Dec}

/-- one of two values: the first one only where c holds -/
def OkD (P : Program) (o : Oper) (st : St) (c : Bool) (v1 v2 : V) : Prop :=
  ∀ (B : Base) (F : Nat → Prop) (loc : Nat → Option Loc) (a : Act) (w : World), Rel noG B F loc st a.tmps w →
    ∃ x, (execOp a.eval o).run P w = .ok (.value x) w ∧ ((c = true ∧ RelV w F loc v1 x) ∨ RelV w F loc v2 x)
/-- one of several: whichever the world draws -/
def OkA (P : Program) (o : Oper) (st : St) (Q : V → Store → Prop) : Prop :=
  ∀ (B : Base) (F : Nat → Prop) (loc : Nat → Option Loc) (a : Act) (w : World), Rel noG B F loc st a.tmps w →
    ∃ v s', Q v s' ∧ ∃ F' loc' w' x r, (execOp a.eval o).run P w = .ok r w' ∧ (r = .value x ∨ r = .skip ∧ x = undef) ∧ RelS noG B w' F' loc' s' ∧ Kept w F w' F' ∧ Same loc loc' ∧ RelV w' F' loc' v x
/-- what an out says of an operation -/
def OutOk (P : Program) (o : Oper) (st : St) : Out → Prop
  | .ok v u => OkV P noG o st v.enc (over st.s u)
  | .grd q v u => q = true → OkV P noG o st v.enc (over st.s u)
  | .bnd _ m f => ∀ a, m = some a → OkV P noG o st (f a).1.enc (over st.s (f a).2)
  | .nilq c v1 v2 => OkD P o st c v1.enc v2.enc
  | .cs c v1 u1 v2 u2 => (c = true → OkV P noG o st v1.enc (over st.s u1)) ∧ (c = false → OkV P noG o st v2.enc (over st.s u2))
  | .any _ v0 u0 l f => (l = [] → OkV P noG o st v0.enc (over st.s u0)) ∧ (l ≠ [] → OkA P o st fun v s' => ∃ j a, l[j]? = some a ∧ v = (f j a).1.enc ∧ s' = over st.s (f j a).2)
  | _ => True
theorem outok_cond {o : Oper} {st : St} {c : Bool} {a b : Out} (ha : c = true → OutOk P o st a) (hb : c = false → OutOk P o st b) : OutOk P o st (cond c a b) := by
  cases c
  · exact hb rfl
  · exact ha rfl
theorem OutL.ok (hg : Good P D) {o : Oper} {st : St} {op : Op} {out : Out} (hop : o.op = op) (h : OutL D op (ev noG st.t) st.s out) : OutOk P o st out := by
  cases out with
  | ok v u => obtain ⟨rfl, h2⟩ := h; exact core_ok hg hop h2
  | grd q v u => intro hq; obtain ⟨rfl, h2⟩ := h hq; exact core_ok hg hop h2
  | bnd α m f => intro a hm; obtain ⟨h1, h2⟩ := h a hm; rw [h1]; exact core_ok hg hop h2
  | nilq => exact h.elim
  | cs => exact h.elim
  | any => exact h.elim
  | _ => trivial
def noB : Out → Out
  | .bnd _ _ _ => .bad
  | .nilq _ _ _ => .bad
  | .cs _ _ _ _ _ => .bad
  | .any _ _ _ _ _ => .bad
  | o => o
omit [Mo] in
theorem OutC.l {op : Op} {e : Operand → V} {s : Store} {out : Out} (h : OutC D op e s out) : OutL D op e s (noB out) := by
  cases out with
  | bnd α m f => trivial
  | nilq => trivial
  | cs => trivial
  | any => trivial
  | _ => exact h

def sliceT : Option TypeDesc → Option Nat | some (.slice e) => some e | _ => none
omit [Mo] in
theorem sliceT_spec {o : Option TypeDesc} {e : Nat} (h : sliceT o = some e) : o = some (.slice e) := by
  unfold sliceT at h
  split at h
  · cases h; rfl
  · cases h
def arrT : Option TypeDesc → Option (Nat × Nat) | some (.array n e) => some (n, e) | _ => none
omit [Mo] in
theorem arrT_spec {o : Option TypeDesc} {n e : Nat} (h : arrT o = some (n, e)) : o = some (.array n e) := by
  unfold arrT at h
  split at h
  · cases h; rfl
  · cases h

def xindexAddr (D : Dec) (g : XG) (t : TypeId) (x i : X) : Out :=
  match i with
  | .i _ n => match sliceT (D.und t) with
    | some e => cond (D.has e) (match x with
      | .fz _ r xs => cond (Nat.beq r.len (D.size e)) (.bnd r.den (ix xs n) fun a => (.pf r a 0, [])) .bad
      | .sl _ o => match gx g o with
        | some (.ar _ r xs) => cond (Nat.beq r.len (D.size e)) (.bnd r.den (ix xs n) fun _ => (.pe o n.toNat 0, [])) .bad
        | _ => .bad
      | .sw o off len => match gx g o with
        | some (.ar _ r _) => cond (Nat.beq r.len (D.size e)) (.grd (decide (0 ≤ n ∧ n < len)) (.pe o (off + n.toNat) 0) []) .bad
        | _ => .bad
      | _ => .bad) .bad
    | none => match arrT (D.und t) with
      | some (len, e) => cond (D.has e) (match xshiftP g x (n.toNat * D.size e) with
        | .ok v u => .grd (decide (0 ≤ n ∧ n < len)) v u
        | _ => .bad) .bad
      | none => .bad
  | _ => .bad
theorem xindexAddr_spec (hg : Good P D) {g : XG} {o : Oper} {st : St} (ha : Agree g st.s) {t : TypeId} {ox oi : Operand} {x i : X} (hop : o.op = .indexAddr t ox oi) (hx : ev noG st.t ox = x.enc) (hi : ev noG st.t oi = i.enc) :
    OutOk P o st (xindexAddr D g t x i) := by
  unfold xindexAddr
  split
  · rename_i k n
    split
    · rename_i e he
      have hu := sliceT_spec he
      refine outok_cond (fun hh => ?_) (fun _ => trivial)
      split
      · rename_i nl r xs
        refine outok_cond (fun hl => ?_) (fun _ => trivial)
        intro a hm
        obtain ⟨h0, h1⟩ := ix_out hm
        exact ixFz_ok hg hop hu hh (r.wide hl) hx hi h0 h1
      · rename_i nl nm
        split
        · rename_i e' r xs hgx
          refine outok_cond (fun hl => ?_) (fun _ => trivial)
          intro a hm
          obtain ⟨h0, h1⟩ := ix_out hm
          exact ixSl_ok hg hop hu hh hx (ha.is _ _ (gx_some hgx)) hl hi h0 h1
        · trivial
      · rename_i nm off len
        split
        · rename_i e' r xs hgx
          refine outok_cond (fun hl => ?_) (fun _ => trivial)
          intro hq
          have hq' := of_decide_eq_true hq
          refine core_ok hg hop ?_
          show indexAddrV D st.s t (ev noG st.t ox) (ev noG st.t oi) = _
          rw [hx, hi]
          simp only [indexAddrV, hu, X.enc, hh, ha.get hgx, XO.enc, hl]
          simp [hq']
        · trivial
      · trivial
    · split
      · rename_i len e he
        have hu := arrT_spec he
        refine outok_cond (fun hh => ?_) (fun _ => trivial)
        split
        · rename_i v u hs
          intro hq
          have hq' := of_decide_eq_true hq
          obtain ⟨rfl, h2⟩ := xshiftP_spec ha hs
          refine core_ok hg hop ?_
          show indexAddrV D st.s t (ev noG st.t ox) (ev noG st.t oi) = _
          rw [hx, hi]
          simp only [indexAddrV, hu, X.enc, hh]
          simp [hq', h2]
        · trivial
      · trivial
  · trivial

def xindex (D : Dec) (t : TypeId) (x i : X) : Out :=
  match x, i with
  | .s b, .i _ n => cond (isStrT (D.und t)) (.grd (decide (0 ≤ n ∧ n < b.size)) (.i .u8 (bt b n)) []) .bad
  | .ag cells, .i _ n => match arrT (D.und t) with
    | some (len, e) => cond (D.has e && xreadB D e cells.length (n.toNat * D.size e)) (.grd (decide (0 ≤ n ∧ n < len)) (xread D e cells (n.toNat * D.size e)) []) .bad
    | none => .bad
  | _, _ => .bad
theorem xindex_spec (hg : Good P D) {o : Oper} {st : St} {t : TypeId} {ox oi : Operand} {x i : X} (hop : o.op = .index t ox oi) (hx : ev noG st.t ox = x.enc) (hi : ev noG st.t oi = i.enc) :
    OutOk P o st (xindex D t x i) := by
  unfold xindex
  split
  · refine outok_cond (fun h => ?_) (fun _ => trivial)
    exact fun hq => ixStr_ok hg hop (isStrT_spec h) hx hi hq
  · rename_i cells k n
    split
    · rename_i len e he
      refine outok_cond (fun h => ?_) (fun _ => trivial)
      simp only [Bool.and_eq_true] at h
      intro hq
      have hq' := of_decide_eq_true hq
      refine core_ok hg hop ?_
      show indexV D t (ev noG st.t ox) (ev noG st.t oi) = _
      rw [hx, hi]
      simp only [indexV, arrT_spec he, X.enc, h.1, encL_map]
      simp only [if_true]
      rw [if_pos hq']; exact xread_spec h.2
    · trivial
  · trivial

def bdX (x : Option X) (d : Int) : Option Int :=
  match x with
  | none => some d
  | some (.i _ n) => some n
  | _ => none
omit [Mo] in
theorem bdX_spec {st : St} {lo : Option Operand} {x : Option X} (hx : lo.map (ev noG st.t) = x.map X.enc) {d n : Int} (h : bdX x d = some n) : bound (lo.map (ev noG st.t)) d = some n := by
  rw [hx]
  unfold bdX at h
  split at h
  · exact h
  · cases h; rfl
  · cases h

def xslice (D : Dec) (g : XG) (t : TypeId) (x : X) (lo hi : Option X) : Out :=
  match x with
  | .s b => match bdX lo 0, bdX hi b.size with
    | some l, some h => cond (isStrT (D.und t)) (.grd (bnds b.size l h) (.s (b.extract l.toNat h.toNat)) []) .bad
    | _, _ => .bad
  | .fz nl r xs => match sliceT (D.und t), bdX lo 0, bdX hi xs.length with
    | some e, some l, some h => cond (D.has e && Nat.beq r.len (D.size e)) (.grd (bnds xs.length l h) (.fz (subNl nl) r (cut xs l h)) []) .bad
    | _, _, _ => .bad
  | .sl _ o => match gx g o with
    | some (.ar _ r xs) => match sliceT (D.und t), bdX lo 0, bdX hi xs.length with
      | some e, some l, some h => cond (D.has e && Nat.beq r.len (D.size e)) (.grd (bnds xs.length l h) (.sw o l.toNat (h.toNat - l.toNat)) []) .bad
      | _, _, _ => .bad
    | _ => .bad
  | .sw o off len => match gx g o with
    | some (.ar _ r _) => match sliceT (D.und t), bdX lo 0, bdX hi len with
      | some e, some l, some h => cond (D.has e && Nat.beq r.len (D.size e)) (.grd (bnds len l h) (.sw o (off + l.toNat) (h.toNat - l.toNat)) []) .bad
      | _, _, _ => .bad
    | _ => .bad
  | .c v => match sliceT (D.und t), bdX lo 0, bdX hi 0 with
    | some e, some l, some h => cond (D.has e && isNilSl v) (.grd (bnds 0 l h) (.c (.slice none 0 0)) []) .bad
    | _, _, _ => .bad
  | _ => .bad
theorem xslice_spec (hg : Good P D) {g : XG} {o : Oper} {st : St} (ha : Agree g st.s) {t : TypeId} {ox : Operand} {lo hi : Option Operand} {x : X} {xl xh : Option X} (hop : o.op = .slice t ox lo hi none) (hx : ev noG st.t ox = x.enc)
    (hl : lo.map (ev noG st.t) = xl.map X.enc) (hh : hi.map (ev noG st.t) = xh.map X.enc) : OutOk P o st (xslice D g t x xl xh) := by
  unfold xslice
  split
  · rename_i b
    split
    · rename_i l h el eh
      refine outok_cond (fun hs => ?_) (fun _ => trivial)
      exact fun hq => cutStr_ok hg hop (isStrT_spec hs) hx (bdX_spec hl el) (bdX_spec hh eh) hq
    · trivial
  · rename_i nl r xs
    split
    · rename_i e l h hu el eh
      refine outok_cond (fun hs => ?_) (fun _ => trivial)
      simp only [Bool.and_eq_true] at hs
      exact fun hq => cutFz_ok hg hop (sliceT_spec hu) hs.1 (r.wide hs.2) hx (bdX_spec hl el) (bdX_spec hh eh) hq
    · trivial
  · rename_i nl nm
    split
    · rename_i e' r xs hgx
      split
      · rename_i e l h hu el eh
        refine outok_cond (fun hs => ?_) (fun _ => trivial)
        simp only [Bool.and_eq_true] at hs
        exact fun hq => cutSl_ok hg hop (sliceT_spec hu) hs.1 hx (ha.is _ _ (gx_some hgx)) hs.2 (bdX_spec hl el) (bdX_spec hh eh) hq
      · trivial
    · trivial
  · rename_i nm off len
    split
    · rename_i e' r xs hgx
      split
      · rename_i e l h hu el eh
        refine outok_cond (fun hs => ?_) (fun _ => trivial)
        simp only [Bool.and_eq_true] at hs
        intro hq
        have hb := bnds_spec hq
        refine core_ok hg hop ?_
        show sliceV D st.s t (ev noG st.t ox) (lo.map (ev noG st.t)) (hi.map (ev noG st.t)) = _
        have h1 := bdX_spec hl el
        have h2 := bdX_spec hh eh
        rw [hx]
        simp only [sliceV, sliceT_spec hu, X.enc, hs.1, ha.get hgx, XO.enc, hs.2, h1, h2]
        simp [hb]
      · trivial
    · trivial
  · rename_i v
    split
    · rename_i e l h hu el eh
      refine outok_cond (fun hs => ?_) (fun _ => trivial)
      simp only [Bool.and_eq_true] at hs
      have hv := isNilSl_eq hs.2
      subst hv
      exact fun hq => cutNil_ok hg hop (sliceT_spec hu) hs.1 hx (bdX_spec hl el) (bdX_spec hh eh) hq
    · trivial
  · trivial

def xlen (D : Dec) (g : XG) (t : TypeId) (x : X) : Out :=
  match x with
  | .s b => cond (isStrT (D.und t)) (okI .i64 b.size) .bad
  | x => match sliceT (D.und t) with
    | some _ => match x with
      | .fz _ _ xs => okI .i64 xs.length
      | .sl _ o => match gx g o with | some (.ar _ _ xs) => okI .i64 xs.length | _ => .bad
      | .sw o _ len => cond (isAr (gx g o)) (okI .i64 len) .bad
      | .c v => cond (isNilSl v) (okI .i64 0) .bad
      | _ => .bad
    | none => .bad
theorem xlen_spec (hg : Good P D) {g : XG} {o : Oper} {st : St} (ha : Agree g st.s) {t : TypeId} {ox : Operand} {x : X} (hop : o.op = .call ⟨.builtin .len, #[ox], #[t]⟩) (hx : ev noG st.t ox = x.enc) : OutOk P o st (xlen D g t x) := by
  have core : ∀ {v : V}, lenV D st.s t x.enc = some v → OkV P noG o st v st.s := by
    intro v h
    refine core_ok hg hop ?_
    show lenV D st.s t (ev noG st.t ox) = _
    rw [hx]; exact h
  unfold xlen
  split
  · refine outok_cond (fun h => ?_) (fun _ => trivial)
    exact core (by simp [lenV, isStrT_spec h, X.enc, vI])
  · split
    · rename_i e hu
      have hu' := sliceT_spec hu
      split
      · exact core (by simp [lenV, hu', X.enc, vI])
      · split
        · rename_i hgx
          exact core (by simp [lenV, hu', X.enc, ha.get hgx, XO.enc, vI])
        · trivial
      · refine outok_cond (fun h => ?_) (fun _ => trivial)
        obtain ⟨e', sz, rows, hgg⟩ := isAr_spec ha h
        exact core (by simp [lenV, hu', X.enc, hgg, vI])
      · refine outok_cond (fun h => ?_) (fun _ => trivial)
        have := isNilSl_eq h
        subst this
        exact core (by simp [lenV, hu', X.enc, vI, plain])
      · trivial
    · trivial

def xmm (f : Int → Int → Int) (x y : X) : Out :=
  match x, y with
  | .i k a, .i _ b => okI k (f a b)
  | _, _ => .bad
theorem xmax_spec (hg : Good P D) {o : Oper} {st : St} {ts : Array TypeId} {ox oy : Operand} {x y : X} (hop : o.op = .call ⟨.builtin .max, #[ox, oy], ts⟩) (hx : ev noG st.t ox = x.enc) (hy : ev noG st.t oy = y.enc) : OutOk P o st (xmm mx x y) := by
  unfold xmm
  split
  · refine core_ok hg hop ?_
    show (match (Callee.builtin Builtin.max), ([ox, oy] : List Operand), ts.toList with | _, _, _ => mmV mx (ev noG st.t ox) (ev noG st.t oy)) = _
    rw [hx, hy]; rfl
  · trivial
theorem xmin_spec (hg : Good P D) {o : Oper} {st : St} {ts : Array TypeId} {ox oy : Operand} {x y : X} (hop : o.op = .call ⟨.builtin .min, #[ox, oy], ts⟩) (hx : ev noG st.t ox = x.enc) (hy : ev noG st.t oy = y.enc) : OutOk P o st (xmm mn x y) := by
  unfold xmm
  split
  · refine core_ok hg hop ?_
    show (match (Callee.builtin Builtin.min), ([ox, oy] : List Operand), ts.toList with | _, _, _ => mmV mn (ev noG st.t ox) (ev noG st.t oy)) = _
    rw [hx, hy]; rfl
  · trivial
end Go.Proofs.YtobfoiomjfdjjaaDoor.Mc

/- THE MACHINE (47): typed operations: structs, functions, interfaces, variables, stores. -/
namespace Go.Proofs.YtobfoiomjfdjjaaDoor.Mc
open Go.RowKit
variable [Mo]
variable {P : Program} {D : Dec}

def xone (g : XG) : X → Bool
  | .ag _ => false
  | .tp _ => false
  | .dead => false
  | .c v => plain v
  | .sl _ o => isOb (gx g o)
  | .sw o _ _ => isOb (gx g o)
  | .pt o _ => isOb (gx g o)
  | .pe o _ _ => isOb (gx g o)
  | .mp o => isOb (gx g o)
  | .it o => isOb (gx g o)
  | .sp o => isOb (gx g o)
  | _ => true
omit [Mo] in
theorem xone_spec {g : XG} {s : Store} (ha : Agree g s) {x : X} (h : xone g x = true) : oneV s x.enc = true := by
  cases x with
  | c v =>
    have h' : plain v = true := h
    simp [X.enc, h', oneV]
  | sl nl o => exact isOb_spec ha h
  | sw o off len => exact isOb_spec ha h
  | pt o off => exact isOb_spec ha h
  | pe o i off => exact isOb_spec ha h
  | mp o => exact isOb_spec ha h
  | it o => exact isOb_spec ha h
  | sp o => exact isOb_spec ha h
  | ag => cases h
  | tp => cases h
  | dead => cases h
  | _ => rfl
def xcells : X → List X
  | .ag cs => cs
  | x => [x]
omit [Mo] in
theorem xcells_enc (x : X) : (xcells x).map X.enc = cellsV x.enc ∨ ∃ v, x = .c v ∧ plain v = false := by
  cases x with
  | ag cs => left; simp [xcells, X.enc, cellsV, encL_map]
  | c v =>
    cases h : plain v with
    | false => exact .inr ⟨v, rfl, h⟩
    | true => left; simp [xcells, X.enc, h, cellsV]
  | _ => left; simp [xcells, X.enc, cellsV]
def xpart (g : XG) : X → Bool
  | .ag _ => true
  | x => xone g x
omit [Mo] in
theorem xpart_of (g : XG) (x : X) : (∃ cs, x = .ag cs) ∨ xpart g x = xone g x := by cases x <;> first | exact .inl ⟨_, rfl⟩ | exact .inr rfl
omit [Mo] in
theorem xpart_spec {g : XG} {s : Store} (ha : Agree g s) {x : X} (h : xpart g x = true) : partOk s x.enc = true ∧ (xcells x).map X.enc = cellsV x.enc := by
  constructor
  · rcases xpart_of g x with ⟨cs, rfl⟩ | h1
    · rfl
    · rw [h1] at h
      have := xone_spec ha h
      unfold partOk
      split
      · rfl
      · rfl
      · exact this
  · rcases xcells_enc x with h1 | ⟨v, rfl, hv⟩
    · exact h1
    · have : plain v = true := h
      rw [hv] at this; cases this
def xsolid (g : XG) : X → Bool
  | .ag cs => cs.all (xone g)
  | x => xone g x
omit [Mo] in
theorem xsolid_of (g : XG) (x : X) : (∃ cs, x = .ag cs) ∨ xsolid g x = xone g x := by cases x <;> first | exact .inl ⟨_, rfl⟩ | exact .inr rfl
omit [Mo] in
theorem xsolid_spec {g : XG} {s : Store} (ha : Agree g s) {x : X} (h : xsolid g x = true) : solidV s x.enc = true ∧ (xcells x).map X.enc = cellsV x.enc := by
  rcases xsolid_of g x with ⟨cs, rfl⟩ | h1
  · constructor
    · show solidV s (.ag (encL cs)) = true
      simp only [solidV, encL_map, List.all_map, List.all_eq_true, Function.comp]
      have h' : cs.all (xone g) = true := h
      exact fun c hc => xone_spec ha (List.all_eq_true.1 h' c hc)
    · simp [xcells, X.enc, cellsV, encL_map]
  · rw [h1] at h
    have hx := xone_spec ha h
    constructor
    · unfold solidV
      split
      · rename_i hh; rw [hh] at hx; cases hx
      · rename_i hh; rw [hh] at hx; cases hx
      · exact hx
    · rcases xcells_enc x with h2 | ⟨v, rfl, hv⟩
      · exact h2
      · have : plain v = true := h
        rw [hv] at this; cases this

def xfill (g : XG) (place : Nat → Option (Nat × Nat)) (cells : List X) : List (Nat × X) → Option (List X)
  | [] => some cells
  | (i, v) :: rest => match place i with
    | none => none
    | some (off, size) => cond (xpart g v && Nat.beq (xcells v).length size && Nat.ble (off + size) cells.length) (xfill g place (cells.take off ++ xcells v ++ cells.drop (off + size)) rest) none
omit [Mo] in
theorem xfill_spec {g : XG} {s : Store} (ha : Agree g s) {place : Nat → Option (Nat × Nat)} : ∀ {parts : List (Nat × X)} {cells out : List X}, xfill g place cells parts = some out →
    fillV s place (cells.map X.enc) (parts.map fun p => (p.1, p.2.enc)) = some (out.map X.enc)
  | [], cells, out, h => by cases h; rfl
  | (i, v) :: rest, cells, out, h => by
    unfold xfill at h
    simp only [List.map_cons, fillV]
    split at h
    · cases h
    · rename_i off size hp
      rw [hp]
      simp only
      cases hc : (xpart g v && Nat.beq (xcells v).length size && Nat.ble (off + size) cells.length) with
      | false => rw [hc] at h; cases h
      | true =>
        rw [hc] at h
        simp only [Bool.and_eq_true] at hc
        obtain ⟨⟨h1, h2⟩, h3⟩ := hc
        obtain ⟨hp1, hp2⟩ := xpart_spec ha h1
        have hl : (cellsV v.enc).length = (xcells v).length := by rw [← hp2]; simp
        rw [hp1, hl, h2, List.length_map, h3]
        have := xfill_spec ha (parts := rest) h
        simp only [List.map_append, List.map_take, List.map_drop, hp2] at this
        simpa using this

omit [Mo] in
theorem ofVals_const {l : List Value} (h : l.all plain = true) : ofVals l = some ((l.map constX).map X.enc) := by
  unfold ofVals
  rw [if_pos h, List.map_map]
  congr 1
  refine List.map_congr_left fun v hv => ?_
  have hp := List.all_eq_true.1 h v hv
  show V.t (.sc v) = (constX v).enc
  rw [constX_enc]
  unfold constV
  split
  · rename_i a; cases hp
  · rw [if_pos hp]

def xbuild (D : Dec) (g : XG) (t : TypeId) (parts : List (Nat × X)) : Out :=
  match D.zero t with
  | some z => cond (z.cells.toList.all plain) (match D.und t with
    | some (.struct fs) => match placesOf D fs.toList with
      | some pl => match xfill g (pl[·]?) (z.cells.toList.map constX) parts with
        | some out => .ok (.ag out) []
        | none => .bad
      | none => .bad
    | some (.array _ e) => cond (D.has e) (match xfill g (fun i => some (i * D.size e, D.size e)) (z.cells.toList.map constX) parts with
        | some out => .ok (.ag out) []
        | none => .bad) .bad
    | _ => .bad) .bad
  | none => .bad
theorem xbuild_spec (hg : Good P D) {g : XG} {o : Oper} {st : St} (ha : Agree g st.s) {t : TypeId} {ops : Array (Nat × Operand)} {parts : List (Nat × X)} (hop : o.op = .build t ops)
    (hp : (ops.toList.map fun p => (p.1, ev noG st.t p.2)) = parts.map fun p => (p.1, p.2.enc)) : OutOk P o st (xbuild D g t parts) := by
  have core : ∀ {v : V}, buildV D st.s t (parts.map fun p => (p.1, p.2.enc)) = some v → OkV P noG o st v st.s := by
    intro v h
    refine core_ok hg hop ?_
    show buildV D st.s t (ops.toList.map fun p => (p.1, ev noG st.t p.2)) = _
    rw [hp]; exact h
  unfold xbuild
  split
  · rename_i z hz
    refine outok_cond (fun hpl => ?_) (fun _ => trivial)
    split
    · rename_i fs hu
      split
      · rename_i pl hpls
        split
        · rename_i out hout
          refine core ?_
          simp only [buildV, hu, hz, ofVals_const hpl, hpls]
          rw [xfill_spec ha hout]; simp [X.enc, encL_map]
        · trivial
      · trivial
    · rename_i n e hu
      refine outok_cond (fun hh => ?_) (fun _ => trivial)
      split
      · rename_i out hout
        refine core ?_
        simp only [buildV, hu, hz, ofVals_const hpl, hh]
        simp only [if_true]
        rw [xfill_spec ha hout]; simp [X.enc, encL_map]
      · trivial
    · trivial
  · trivial

/-- a type's zero value -/
def xzero (D : Dec) (t : TypeId) : Option X :=
  match D.und t, D.zero t with
  | some d, some z => cond d.isRow (match z with | .agg cs => cond (cs.toList.all plain) (some (.ag (cs.toList.map constX))) none | _ => none) (cond (plain z) (some (constX z)) none)
  | _, _ => none
omit [Mo] in
theorem constX_plain {v : Value} (h : plain v = true) : (constX v).enc = .t (.sc v) := by
  rw [constX_enc]
  unfold constV
  split
  · cases h
  · rw [if_pos h]
omit [Mo] in
theorem xzero_spec {t : TypeId} {x : X} (h : xzero D t = some x) : zeroV D t = some x.enc := by
  unfold xzero at h
  unfold zeroV
  split at h
  · rename_i d z hd hz
    rw [hd, hz]
    simp only
    cases hr : d.isRow with
    | true =>
      rw [hr] at h
      simp only [cond_true] at h
      simp only [if_true]
      split at h
      · rename_i cs
        cases hp : cs.toList.all plain with
        | false => rw [hp] at h; cases h
        | true =>
          rw [hp] at h; cases h
          simp only [ofVals_const hp]; simp [X.enc, encL_map]
      · cases h
    | false =>
      rw [hr] at h
      simp only [cond_false] at h
      cases hp : plain z with
      | false => rw [hp] at h; cases h
      | true =>
        rw [hp] at h; cases h
        simp [constX_plain hp]
  · cases h

def isIfcT : Option TypeDesc → Bool | some (.interface _) => true | _ => false
def isNilIfc : Value → Bool | .nilIface => true | _ => false
def xassert (D : Dec) (x : X) (t : TypeId) : Out :=
  cond (D.has t && !(isIfcT (D.und t))) (match xzero D t with
    | some z => match x with
      | .c v => cond (isNilIfc v) (.ok (.tp [z, .b false]) []) .bad
      | .ifc u y => cond (Nat.beq u t) (.ok (.tp [y, .b true]) []) (.ok (.tp [z, .b false]) [])
      | _ => .bad
    | none => .bad) .bad
theorem xassert_spec (hg : Good P D) {o : Oper} {st : St} {t xt : TypeId} {ox : Operand} {x : X} (hop : o.op = .typeAssert ox xt t true) (hx : ev noG st.t ox = x.enc) : OutOk P o st (xassert D x t) := by
  have core : ∀ {v : V}, assertV D x.enc t = some v → OkV P noG o st v st.s := by
    intro v h
    refine core_ok hg hop ?_
    show assertV D (ev noG st.t ox) t = _
    rw [hx]; exact h
  unfold xassert
  refine outok_cond (fun h => ?_) (fun _ => trivial)
  simp only [Bool.and_eq_true, Bool.not_eq_true'] at h
  obtain ⟨d, hd⟩ := has_some h.1
  have hni : ∀ ms, d ≠ .interface ms := by
    rintro ms rfl
    rw [hd] at h; simp [isIfcT] at h
  have hform : assertV D x.enc t = (match x.enc with
    | .t (.sc .nilIface) => (zeroV D t).map fun z => .tp [z, vB false]
    | x => match heldV x with
      | some (u, y) => if u = t then some (.tp [y, vB true]) else (zeroV D t).map fun z => .tp [z, vB false]
      | none => none) := by
    unfold assertV
    rw [hd]
    cases d <;> first | (exact absurd rfl (hni _)) | rfl
  split
  · rename_i z hz
    have hz' := xzero_spec hz
    split
    · rename_i v
      refine outok_cond (fun hn => ?_) (fun _ => trivial)
      have : v = .nilIface := by unfold isNilIfc at hn; split at hn <;> first | rfl | cases hn
      subst this
      refine core ?_
      rw [hform]; simp [X.enc, plain, hz', encL, vB]
    · rename_i u y
      cases hu : Nat.beq u t with
      | true =>
        have := Nat.eq_of_beq_eq_true hu
        subst this
        refine core ?_
        rw [hform]; simp [X.enc, heldV, encL, vB]
      | false =>
        have : u ≠ t := by rintro rfl; simp at hu
        refine core ?_
        rw [hform]; simp [X.enc, heldV, encL, vB, this, hz']
    · trivial
  · trivial

omit [Mo] in
theorem outl_ok {op : Op} {e : Operand → V} {s : Store} {v : X} (h : coreV D op e s = some v.enc) : OutL D op e s (.ok v []) := ⟨rfl, h⟩

/-- variables -/
def xbox (g : XG) (dst : Option Nat) (t : TypeId) (x : X) : Out :=
  match dst with
  | some d => match g d with
    | none => cond (xsolid g x && Nat.blt t 3000000) (.ok (.pt d 0) [(d, some (.bx t (xcells x)))]) .bad
    | some _ => .bad
  | none => .bad
theorem xbox_spec (hg : Good P D) {g : XG} {o : Oper} {st : St} (ha : Agree g st.s) {t : TypeId} {x : X} (hop : (∃ ox, o.op = .box t ox ∧ ev noG st.t ox = x.enc) ∨ o.op = .alloc t ∧ zeroV D t = some x.enc) :
    OutOk P o st (xbox g o.dst t x) := by
  unfold xbox
  split
  · rename_i d hd
    split
    · rename_i hn
      refine outok_cond (fun h => ?_) (fun _ => trivial)
      rw [Bool.and_eq_true] at h
      obtain ⟨h, ht3⟩ := h
      obtain ⟨h1, h2⟩ := xsolid_spec ha h
      have hfree : (st.s d).isNone = true := by rw [ha.no d hn]; rfl
      show OkV P noG o st (.pt d 0) (upd st.s d (some (some (.bx t (encL (xcells x))))))
      refine coreBox_ok (d := d) hg ?_
      rcases hop with ⟨ox, hop, hx⟩ | ⟨hop, hx⟩
      · rw [hop]
        simp only [coreBox, hfree, hx, h1, encL_map, h2, ht3]; rfl
      · rw [hop]
        simp only [coreBox, hfree, hx, h1, encL_map, h2, ht3]; rfl
    · trivial
  · trivial

omit [Mo] in
theorem toTs_map (ts : List T) : toTs (ts.map V.t) = some ts := by
  induction ts with
  | nil => rfl
  | cons t ts ih => simp [toTs, toT, ih]

omit [Mo] in
/-- rows that tell less -/
theorem WeakTs.get : ∀ {xs ys : List T}, WeakTs xs ys → xs.length = ys.length ∧ ∀ (j : Nat) (y : T), ys[j]? = some y → ∃ x, xs[j]? = some x ∧ WeakT x y
  | _, _, .nil => ⟨rfl, fun j y h => by simp at h⟩
  | _, _, .cons x y xs ys h hs => by
    obtain ⟨h1, h2⟩ := WeakTs.get hs
    refine ⟨by simp [h1], fun j z hz => ?_⟩
    cases j with
    | zero => cases hz; exact ⟨x, rfl, h⟩
    | succ j => exact h2 j z (by simpa using hz)

omit [Mo] in
theorem RelO.weakAr {w : World} {F : Nat → Prop} {loc : Nat → Option Loc} {e sz : Nat} {rows rows' : List (List T)} {l : Loc} (h : RelO w F loc (some (.ar e sz rows)) l) (hl : rows.length = rows'.length)
    (hw : ∀ (i : Nat) (r' : List T), rows'[i]? = some r' → ∃ r, rows[i]? = some r ∧ WeakTs r r') : RelO w F loc (some (.ar e sz rows')) l := by
  cases h with
  | ar _ _ _ b cap cells hz hsz hown h1 hr =>
    rw [hl] at hown ⊢
    refine .ar e sz rows' b cap cells hz (fun r' hr' => ?_) hown h1 (fun i r' hi j x hj => ?_)
    · obtain ⟨i, hi⟩ := List.getElem?_of_mem hr'
      obtain ⟨r, h2, h3⟩ := hw i r' hi
      rw [← h3.get.1]; exact hsz r (List.mem_of_getElem? h2)
    · obtain ⟨r, h2, h3⟩ := hw i r' hi
      obtain ⟨y, h4, h5⟩ := h3.get.2 j x hj
      obtain ⟨v, h6, h7⟩ := hr i r h2 j y h4
      exact ⟨v, h6, h5.rel h7⟩

/-- a store in which one object tells less -/
theorem RelS.weakAr {B : Base} {w : World} {F : Nat → Prop} {loc : Nat → Option Loc} {s : Store} (hS : RelS noG B w F loc s) {o e sz : Nat} {rows rows' : List (List T)} (ho : s o = some (some (.ar e sz rows))) (hl : rows.length = rows'.length)
    (hw : ∀ (i : Nat) (r' : List T), rows'[i]? = some r' → ∃ r, rows[i]? = some r ∧ WeakTs r r') : RelS noG B w F loc (upd s o (some (some (.ar e sz rows')))) := by
  refine { hS with obs := fun o' obj h' => ?_, dom := fun o' l hl' => ?_ }
  · by_cases hod : o' = o
    · subst hod
      rw [upd_self] at h'; cases h'
      obtain ⟨l, h1, h2⟩ := hS.obs o' _ ho
      exact ⟨l, h1, h2.weakAr hl hw⟩
    · rw [upd_ne _ _ hod] at h'; exact hS.obs o' obj h'
  · by_cases hod : o' = o
    · subst hod; exact ⟨_, upd_self _ _ _⟩
    · rw [upd_ne _ _ hod]; exact hS.dom o' l hl'
omit [Mo] in
theorem RelO.flagAr {w : World} {F : Nat → Prop} {loc : Nat → Option Loc} {e sz : Nat} {rows : List (List T)} {l : Loc} (h : RelO w F loc (some (.ar e sz rows)) l) (he : e < 1000000) : RelO w F loc (some (.ar (e + 2000000) sz rows)) l := by
  cases h with
  | ar _ _ _ b cap cells hz hsz hown h1 hr =>
    refine .ar _ sz rows b cap cells hz hsz ?_ h1 hr
    rcases ownsR_out hown with ⟨hv, hn⟩ | ⟨g, cap', cur, te, fr, hv, hg, hm, h3, h4, h5, h6⟩
    · exact .inl ⟨⟨ownsR_len hown, .inl ⟨hv, hn⟩⟩, .inr hv⟩
    · rw [hv]
      refine ownsR_in (ownsR_len hown) hg (.inr ⟨by omega, ?_, fun h => absurd h (by omega)⟩) h3 h4 h5 h6
      rcases hm with ⟨h, _⟩ | ⟨h, _⟩ <;> omega
/-- a row that is owned is from now on none's to write -/
theorem RelS.flagAr {B : Base} {w : World} {F : Nat → Prop} {loc : Nat → Option Loc} {s : Store} (hS : RelS noG B w F loc s) {o e sz : Nat} {rows : List (List T)} (ho : s o = some (some (.ar e sz rows))) (he : e < 1000000) :
    RelS noG B w F loc (upd s o (some (some (.ar (e + 2000000) sz rows)))) := by
  refine { hS with obs := fun o' obj h' => ?_, dom := fun o' l hl' => ?_ }
  · by_cases hod : o' = o
    · subst hod
      rw [upd_self] at h'; cases h'
      obtain ⟨l, h1, h2⟩ := hS.obs o' _ ho
      exact ⟨l, h1, h2.flagAr he⟩
    · rw [upd_ne _ _ hod] at h'; exact hS.obs o' obj h'
  · by_cases hod : o' = o
    · subst hod; exact ⟨_, upd_self _ _ _⟩
    · rw [upd_ne _ _ hod]; exact hS.dom o' l hl'
theorem OkV.weakAr {o : Oper} {st : St} {v : V} {s' : Store} {n e sz : Nat} {rows rows' : List (List T)} (h : OkV P noG o st v s') (ho : s' n = some (some (.ar e sz rows))) (hl : rows.length = rows'.length)
    (hw : ∀ (i : Nat) (r' : List T), rows'[i]? = some r' → ∃ r, rows[i]? = some r ∧ WeakTs r r') : OkV P noG o st v (upd s' n (some (some (.ar e sz rows')))) := by
  intro B F loc a w hR
  obtain ⟨F', loc', w', x, r, h1, h2, h3, h4, h5, h6⟩ := h B F loc a w hR
  exact ⟨F', loc', w', x, r, h1, h2, h3.weakAr ho hl hw, h4, h5, h6⟩

def xstore (D : Dec) (g : XG) (t : TypeId) (p x : X) : Out :=
  cond (D.has t && xsolid g x && Nat.beq (xcells x).length (D.size t)) (match p with
    | .pt o off => match gx g o with
      | some (.bx e cells) => cond (Nat.ble (off + D.size t) cells.length && Nat.blt e 3000000) (.ok (.tp []) [(o, some (.bx e (cells.take off ++ xcells x ++ cells.drop (off + D.size t))))]) .bad
      | _ => .bad
    | .pe o i off => match gx g o with
      | some (.ar e r xs) => cond (Nat.ble (off + D.size t) r.len && Nat.blt e 2000000)
          (match x with
          | .sl nl q => match gx g q with
            | some (.ar _ r2 ys) => cond (Nat.beq q o) .bad
              (.bnd r.den ((xs[i]?).bind fun a => r.ofCells ((r.cells a).take off ++ [.fz nl r2 ys] ++ (r.cells a).drop (off + D.size t))) fun b => (.tp [], [(o, some (.ar e r (xs.set i b))), (q, none)]))
            | _ => .bad
          | x => .bnd r.den ((xs[i]?).bind fun a => r.ofCells ((r.cells a).take off ++ xcells x ++ (r.cells a).drop (off + D.size t))) fun b => (.tp [], [(o, some (.ar e r (xs.set i b)))])) .bad
      | _ => .bad
    | _ => .bad) .bad
theorem xstore_pe {o : Oper} {st : St} {t : TypeId} {n i off e : Nat} {r : Row} {xs : List r.den} {x : X} {s2 : Store} (hs2 : s2 n = some (some (.ar e r.len (xs.map r.en)))) (ht : D.has t = true) (h1 : solidV s2 x.enc = true) (h2 : (xcells x).map X.enc = cellsV x.enc)
    (hl' : (cellsV x.enc).length = D.size t) (hleB : (Nat.ble (off + D.size t) r.len && Nat.blt e 2000000) = true) (st_ok : ∀ s', storeV D s2 t (.pe n i off) x.enc = some s' → OkV P noG o st vU s')
    {b : r.den} (hb : ((xs[i]?).bind fun a => r.ofCells ((r.cells a).take off ++ xcells x ++ (r.cells a).drop (off + D.size t))) = some b) : OkV P noG o st vU (upd s2 n (some (some (.ar e r.len ((xs.set i b).map r.en))))) := by
  have hle : Nat.ble (off + D.size t) r.len = true := ((Bool.and_eq_true _ _).mp hleB).1
  obtain ⟨a, hxa, hb⟩ := Option.bind_eq_some_iff.1 hb
  obtain ⟨ts, hts, hw⟩ := r.ofCells_en _ b hb
  rw [List.map_append, List.map_append, List.map_take, List.map_drop, r.cells_enc, h2] at hts
  have hget : get s2 n = some (.ar e r.len (xs.map r.en)) := by unfold get; rw [hs2]
  -- the cells that are stored, as data
  have hsub : ∃ us, toTs (cellsV x.enc) = some us ∧ ts = (r.en a).take off ++ us ++ (r.en a).drop (off + D.size t) := by
    have hm := toTs_spec hts
    have hlen : ((r.en a).map V.t).length = r.len := by simp [r.en_len]
    have hle' : off + D.size t ≤ r.len := Nat.le_of_ble_eq_true hle
    refine ⟨(ts.drop off).take (D.size t), ?_, ?_⟩
    · have h3 : cellsV x.enc = ((ts.drop off).take (D.size t)).map V.t := by
        rw [List.map_take, List.map_drop, ← hm, List.append_assoc, List.drop_append_of_le_length (by simp [r.en_len]; omega)]
        have h4 : List.drop off (List.take off ((r.en a).map V.t)) = [] := by simp
        rw [h4, List.nil_append, List.take_append_of_le_length (by omega), ← hl', List.take_length]
      rw [h3, toTs_map]
    · have h5 : ts.map V.t = ((r.en a).take off ++ (ts.drop off).take (D.size t) ++ (r.en a).drop (off + D.size t)).map V.t := by
        have h3 : cellsV x.enc = ((ts.drop off).take (D.size t)).map V.t := by
          rw [List.map_take, List.map_drop, ← hm, List.append_assoc, List.drop_append_of_le_length (by simp [r.en_len]; omega)]
          have h4 : List.drop off (List.take off ((r.en a).map V.t)) = [] := by simp
          rw [h4, List.nil_append, List.take_append_of_le_length (by omega), ← hl', List.take_length]
        rw [List.map_append, List.map_append, ← h3, ← hm, List.map_take, List.map_drop]
      exact (List.map_inj_right (fun _ _ h => by injection h)).1 h5
  obtain ⟨us, hus, hts2⟩ := hsub
  have hix : i < xs.length := (List.getElem?_eq_some_iff.1 hxa).1
  have key : OkV P noG o st vU (upd s2 n (some (some (.ar e r.len ((xs.map r.en).set i ts))))) := by
    refine st_ok _ ?_
    have hlr : (Nat.ble (off + D.size t) (r.en a).length && Nat.blt e 2000000) = true := by rw [r.en_len]; exact hleB
    simp only [storeV, ht, h1, hl', hget, List.getElem?_map, hxa, Option.map_some, hus, hlr, hts2]
    simp
  have := key.weakAr (n := n) (rows' := (xs.set i b).map r.en) (upd_self _ _ _) (by simp) (fun j r' hj => ?_)
  · show OkV P noG o st vU (upd s2 n (some (some (.ar e r.len ((xs.set i b).map r.en)))))
    have hu : ∀ (y z : Option (Option O)), upd (upd s2 n y) n z = upd s2 n z := by
      intro y z; funext m; by_cases hm : m = n
      · subst hm; simp [upd_self]
      · simp [upd_ne _ _ hm]
    rw [hu] at this; exact this
  · rw [List.getElem?_map] at hj
    by_cases hji : j = i
    · subst hji
      rw [List.getElem?_set_self hix] at hj
      cases hj
      exact ⟨ts, by rw [List.getElem?_set_self (by simpa using hix)], hw⟩
    · rw [List.getElem?_set_ne (fun h => hji h.symm)] at hj
      refine ⟨r', by rw [List.getElem?_set_ne (fun h => hji h.symm), List.getElem?_map]; exact hj, ?_⟩
      have refl : ∀ l : List T, WeakTs l l := by
        intro l; induction l with
        | nil => exact .nil
        | cons x l ih => exact .cons _ _ _ _ (.refl _) ih
      exact refl _
theorem xstore_spec (hg : Good P D) {g : XG} {o : Oper} {st : St} (ha : Agree g st.s) {t : TypeId} {op ox : Operand} {p x : X} (hop : o.op = .store t op ox) (hp : ev noG st.t op = p.enc) (hx : ev noG st.t ox = x.enc) :
    OutOk P o st (xstore D g t p x) := by
  unfold xstore
  refine outok_cond (fun h => ?_) (fun _ => trivial)
  simp only [Bool.and_eq_true] at h
  obtain ⟨⟨ht, hs⟩, hl⟩ := h
  obtain ⟨h1, h2⟩ := xsolid_spec ha hs
  have hl' : (cellsV x.enc).length = D.size t := by rw [← h2, List.length_map]; exact Nat.eq_of_beq_eq_true hl
  split
  · rename_i n off
    split
    · rename_i e cells hgx
      refine outok_cond (fun hle => ?_) (fun _ => trivial)
      show OkV P noG o st vU (upd st.s n (some (some (.bx e (encL (cells.take off ++ xcells x ++ cells.drop (off + D.size t)))))))
      refine store_ok hg hop ?_
      rw [hp, hx]
      simp only [storeV, ht, h1, hl', X.enc, ha.get hgx, XO.enc, encL_map, List.length_map, hle, List.map_append, List.map_take, List.map_drop, h2]
      simp
    · trivial
  · rename_i n i off
    split
    · rename_i e r xs hgx
      refine outok_cond (fun hleB => ?_) (fun _ => trivial)
      have hns : st.s n = some (some (.ar e r.len (xs.map r.en))) := ha.is _ _ (gx_some hgx)
      split
      · rename_i nl q
        split
        · rename_i e2 r2 ys hq
          refine outok_cond (fun _ => trivial) (fun hqo => ?_)
          have hne : n ≠ q := by rintro rfl; rw [Nat.beq_refl] at hqo; cases hqo
          intro b hb
          have hl1 : 1 = D.size t := by have := Nat.eq_of_beq_eq_true hl; simpa [xcells] using this
          refine xstore_pe (x := .fz nl r2 ys) (s2 := upd st.s q (some none)) ((upd_ne _ _ hne).trans hns) ht rfl rfl hl1 hleB (fun s' h => ?_) hb
          refine storeGone_ok hg hop (hx.trans rfl) (ha.get hq) ?_
          rw [hp]; exact h
        · trivial
      · intro b hb
        refine xstore_pe hns ht h1 h2 hl' hleB (fun s' h => store_ok hg hop ?_) hb
        rw [hp, hx]; exact h
    · trivial
  · trivial
end Go.Proofs.YtobfoiomjfdjjaaDoor.Mc
