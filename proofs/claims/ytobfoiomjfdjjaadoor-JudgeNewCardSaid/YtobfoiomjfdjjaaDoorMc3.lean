/- The machine: abstract values and stores, and the laws by which a walk goes through code. Its parts in order. -/
import Derived.Test.YtobfoiomjfdjjaaDoorMc2
import Derived.Laws.RangeString
import Derived.Lib.AppendStr
import Derived.Lib.ConvBytes
set_option linter.unusedVariables false
set_option linter.unusedSimpArgs false
set_option linter.constructorNameAsVariable false
/- THE MACHINE (48): typed operations: append, spelled-out and made slices, bytes az a text; all operations in one. -/
namespace Go.Proofs.YtobfoiomjfdjjaaDoor.Mc
open Go.RowKit
variable [Mo]
variable {P : Program} {D : Dec}

def xsrc (g : XG) : X → Option ((r : Row) × List r.den)
  | .fz _ r xs => some ⟨r, xs⟩
  | .sl _ o => match gx g o with | some (.ar _ r xs) => some ⟨r, xs⟩ | _ => none
  | .sw o off len => match gx g o with | some (.ar _ r xs) => some ⟨r, (xs.drop off).take len⟩ | _ => none
  | _ => none
omit [Mo] in
theorem xsrc_spec {g : XG} {s : Store} (ha : Agree g s) {x : X} {r : Row} {xs : List r.den} (h : xsrc g x = some ⟨r, xs⟩) : srcV s x.enc = some (xs.map r.en) := by
  unfold xsrc at h
  split at h
  · cases h; rfl
  · split at h
    · rename_i hgx; cases h; exact src_sl rfl (ha.is _ _ (gx_some hgx))
    · cases h
  · split at h
    · rename_i hgx; cases h; exact src_sw rfl (ha.is _ _ (gx_some hgx))
    · cases h
  · cases h

/-- what is appended to -/
def xtgt (g : XG) (e : Nat) : X → Option (Nl × ((r : Row) × List r.den) × Nat)
  | .sl nl o => match gx g o with
    | some (.ar e' r xs) => cond (Nat.beq e' e && Nat.blt e' 1000000) (some (nl, ⟨r, xs⟩, o)) none
    | _ => none
  | .sw o 0 len => match gx g o with
    | some (.ar e' r xs) => cond (Nat.beq e' e && Nat.blt e' 1000000) (some (.u, ⟨r, xs.take len⟩, o)) none
    | _ => none
  | _ => none
omit [Mo] in
theorem xtgt_spec {g : XG} {s : Store} (ha : Agree g s) {e : Nat} {x : X} {nl : Nl} {r : Row} {xs : List r.den} {o : Nat} (h : xtgt g e x = some (nl, ⟨r, xs⟩, o)) : tgtV s e r.len x.enc = some (nl, xs.map r.en, some o) := by
  unfold xtgt at h
  split at h
  · split at h
    · rename_i hgx
      obtain ⟨h1, h2⟩ := cond_some h
      cases h2
      simp [tgtV, X.enc, ha.get hgx, XO.enc, h1]
    · cases h
  · split at h
    · rename_i hgx
      obtain ⟨h1, h2⟩ := cond_some h
      cases h2
      simp [tgtV, X.enc, ha.get hgx, XO.enc, h1, List.map_take]
    · cases h
  · cases h

def isNilX : X → Bool | .c v => isNilSl v | _ => false
omit [Mo] in
theorem isNilX_spec {x : X} (h : isNilX x = true) : x = .c (.slice none 0 0) := by
  unfold isNilX at h
  split at h
  · rw [isNilSl_eq h]
  · cases h

def xappend (D : Dec) (g : XG) (dst : Option Nat) (t : TypeId) (x y : X) : Out :=
  match dst, sliceT (D.und t) with
  | some d, some e => match g d with
    | none => cond (okElem D e) (match xsrc g y with
      | some ⟨r, ys⟩ => cond (Nat.beq r.len (D.size e)) (cond (isNilX x)
          (.grd (decide ((([] : List r.den).length + ys.length) * D.bytes e ≤ 140737488355328)) (.sl .n d) [(d, some (.ar e r (([] : List r.den) ++ ys)))])
          (match xtgt g e x with
            | some (nl, ⟨r', xs⟩, o) => match Row.eq? r' r with
              | some h => .grd (decide (((h.down ▸ xs : List r.den).length + ys.length) * D.bytes e ≤ 140737488355328)) (.sl nl d) [(d, some (.ar e r ((h.down ▸ xs : List r.den) ++ ys))), (o, none)]
              | none => .bad
            | none => .bad)) .bad
      | none => cond (isNilX y) (match xtgt g e x with
          | some (nl, ⟨r, xs⟩, o) => cond (Nat.beq r.len (D.size e)) (.grd (decide ((xs.length + ([] : List r.den).length) * D.bytes e ≤ 140737488355328)) (.sl nl d) [(d, some (.ar e r (xs ++ []))), (o, none)]) .bad
          | none => .bad) .bad) .bad
    | some _ => .bad
  | _, _ => .bad
theorem xappend_spec (hg : Good P D) {g : XG} {o : Oper} {st : St} (ha : Agree g st.s) {t : TypeId} {ox oy : Operand} {x y : X} (hop : o.op = .call ⟨.builtin .append, #[ox, oy], #[t, t]⟩) (hx : ev noG st.t ox = x.enc) (hy : ev noG st.t oy = y.enc) :
    OutOk P o st (xappend D g o.dst t x y) := by
  unfold xappend
  split
  · rename_i d e hd he
    have hu := sliceT_spec he
    split
    · rename_i hn
      have hfree := ha.no d hn
      refine outok_cond (fun hok => ?_) (fun _ => trivial)
      split
      · rename_i r ys hs
        have hsr := xsrc_spec ha hs
        refine outok_cond (fun hl => ?_) (fun _ => trivial)
        have hlen : r.len = D.size e := Nat.eq_of_beq_eq_true hl
        refine outok_cond (fun hnx => ?_) (fun _ => ?_)
        · intro hq
          obtain rfl := isNilX_spec hnx
          show OkV P noG o st (.sl .n d) (upd st.s d (some (some (.ar e r.len ((([] : List r.den) ++ ys).map r.en)))))
          rw [hlen]
          exact apP_ok (oo := none) (enc := r.en) (xs := ([] : List r.den)) (ys := ys) hg hop hu hok hfree (by rw [hx]; simp [tgtV, X.enc, plain]) (by rw [hy]; exact hsr) (r.wide hl) rfl hq
        · split
          · rename_i nl r' xs n ht
            split
            · rename_i h _
              obtain ⟨h⟩ := h
              subst h
              intro hq
              have htg := xtgt_spec ha ht
              rw [hlen] at htg
              show OkV P noG o st (.sl nl d) (upd (upd st.s n (some none)) d (some (some (.ar e r'.len ((xs ++ ys).map r'.en)))))
              rw [hlen]
              exact apP_ok (oo := some n) (enc := r'.en) (xs := xs) (ys := ys) hg hop hu hok hfree (by rw [hx]; exact htg) (by rw [hy]; exact hsr) (r'.wide hl) rfl hq
            · trivial
          · trivial
      · refine outok_cond (fun hny => ?_) (fun _ => trivial)
        obtain rfl := isNilX_spec hny
        split
        · rename_i nl r xs n ht
          refine outok_cond (fun hl => ?_) (fun _ => trivial)
          have hlen : r.len = D.size e := Nat.eq_of_beq_eq_true hl
          intro hq
          have htg := xtgt_spec ha ht
          rw [hlen] at htg
          show OkV P noG o st (.sl nl d) (upd (upd st.s n (some none)) d (some (some (.ar e r.len ((xs ++ []).map r.en)))))
          rw [hlen]
          exact apP_ok (oo := some n) (enc := r.en) (xs := xs) (ys := []) hg hop hu hok hfree (by rw [hx]; exact htg) (by rw [hy]; simp [srcV, X.enc, plain]) (r.wide hl) rfl hq
        · trivial
    · trivial
  · trivial

/-! append of a text's bytes -/
def byteRow : Row := .int .u8 .nil
def isU8T : Option TypeDesc → Bool | some (.int .u8) => true | _ => false
omit [Mo] in
theorem isU8T_spec {o : Option TypeDesc} (h : isU8T o = true) : o = some (.int .u8) := by
  unfold isU8T at h
  split at h
  · rfl
  · cases h
def isZero8 : Option Value → Bool | some (.int .u8 n) => decide (n = 0) | _ => false
omit [Mo] in
theorem isZero8_spec {o : Option Value} (h : isZero8 o = true) : o = some (.int .u8 0) := by
  unfold isZero8 at h
  split at h
  · rw [of_decide_eq_true h]
  · cases h
/-- a text's bytes as numbers -/
def strNums (s : ByteArray) : List Int := s.data.toList.map fun b => ((b.toNat : Nat) : Int)
omit [Mo] in
theorem strNums_length (s : ByteArray) : (strNums s).length = s.size := by
  unfold strNums
  rw [List.length_map, Array.length_toList]; rfl
omit [Mo] in
theorem append_own_str {t u ty e : TypeId} {i : TypeInfo} (ht : P.underlying t = some (.slice e)) (hu : P.underlying u = some .string) (hi : P.info? e = some i) (hz : i.zero = some (.int .u8 0)) (hsize : i.size = 1) (hby : i.bytes = 1)
    {w : World} {v : Value} {n : Nat} {xs : List Value} (hown : w.ownsRow 0 e 1 v n xs) (s : ByteArray) (hm0 : 0 < s.size) (h63 : n + s.size ≤ maxLen) (hbytes : n + s.size ≤ 140737488355328) :
    ∃ g cap w', (Builtin.append_ #[t, u] ty #[v, .string s]).run P w = .ok (.slice (some ⟨g, 0, none⟩) (n + s.size) cap) w' ∧ w'.ownsRow 0 e 1 (.slice (some ⟨g, 0, none⟩) (n + s.size) cap) (n + s.size) (xs ++ Lib.strCells s) ∧ w.grownBy w' v.ownBlock ∧
      (v.ownBlock = some g ∨ g = w.heap.size) ∧ g < w'.heap.size ∧ w.drawn ≤ w'.drawn := by
  have hsmall : n + s.size ≤ 9223372036854775807 := by simp only [maxLen] at h63; omega
  have hxl : xs.length = n := by simpa using hown.1
  have hlen : (xs ++ Lib.strCells s).length = (n + s.size) * 1 := by rw [List.length_append, hxl, Lib.strCells_length, Nat.mul_one]
  have grown : ∀ (old : Nat), old < n + s.size → ∀ (row : Option Nat),
      (w.drew.alloc (.cells (xs.toArray ++ (Lib.strCells s).toArray ++ Builtin.zeroCells (Value.int .u8 0).cells (grownCap w (n + s.size) old e - (n + s.size))) e)).ownsRow 0 e 1
        (.slice (some ⟨w.heap.size, 0, none⟩) (n + s.size) (grownCap w (n + s.size) old e)) (n + s.size) (xs ++ Lib.strCells s) ∧
      w.grownBy (w.drew.alloc (.cells (xs.toArray ++ (Lib.strCells s).toArray ++ Builtin.zeroCells (Value.int .u8 0).cells (grownCap w (n + s.size) old e - (n + s.size))) e)) row := by
    intro old ho row
    have hge := grownCap_ge w (n + s.size) old e
    have hcm : grownCap w (n + s.size) old e ≤ maxLen := grownCap_le_maxLen w (n + s.size) old e h63
    refine ⟨⟨hlen, .inr ⟨w.heap.size, _, _, rfl, Nat.zero_le _, heap_alloc_new w.drew _, hge, hcm, ?_, ?_⟩⟩, ⟨rfl, rfl, rfl, by simp, fun k hk _ => heap_alloc_old w.drew _ hk⟩⟩
    · have hz1 : (Value.int IntKind.u8 0).cells.size = 1 := rfl
      simp only [Array.size_append, List.size_toArray, size_zeroCells, hz1, hxl, Lib.strCells_length]
      omega
    · simp only [Array.toList_append, List.append_assoc]
      rw [← List.append_assoc, ← hlen]
      exact List.take_left
  rcases hown.2 with ⟨rfl, rfl⟩ | ⟨g, cap, cur, rfl, hbg, hg, hnc, hcm, hcs, htake⟩
  · have hx : xs = [] := List.eq_nil_of_length_eq_zero hxl
    subst hx
    have hr := run_append_nil_string (P := P) w t u ty e i (.int .u8 0) ht hu hi hz s (by omega) (by omega) (by rw [hby]; omega)
    have hgr := grown 0 (by omega) (Value.ownBlock (.slice none 0 0))
    simp only [Nat.zero_add, List.nil_append, Array.empty_append] at hgr ⊢
    have e1 : (s.data.map fun b => Value.int .u8 b.toNat) = (Lib.strCells s).toArray := by
      apply Array.ext'
      simp [Lib.strCells]
    rw [e1] at hr
    exact ⟨_, _, _, hr, hgr.1, hgr.2, .inr rfl, by simp, Nat.le_succ _⟩
  · by_cases hroom : n + s.size ≤ cap
    · have hcs' : cur.size = cap := by simpa using hcs
      have hr := Lib.run_append_room_string (P := P) w t u ty e i ht hu hi hsize g n cap cur hg s hroom (by omega)
      refine ⟨g, cap, _, hr, ⟨hlen, .inr ⟨g, cap, _, rfl, hbg, setRow_heap w g cur _ e _ hg, hroom, hcm, ?_, ?_⟩⟩, ⟨rfl, rfl, rfl, by simp, fun k _ hk => setRow_other w g k _ (fun e => hk (by simp [Value.ownBlock, e]))⟩, .inl rfl, by simpa using (Array.getElem?_eq_some_iff.1 hg).1, Nat.le_refl _⟩
      · simp only [List.size_toArray, List.length_append, List.length_take, List.length_drop, Array.length_toList, Lib.strCells_length]
        omega
      · have ht' : cur.toList.take n = xs := by simpa using htake
        rw [ht', ← hlen]
        exact List.take_left
    · have holds : ∀ j u, xs[j]? = some u → w.cell? ((⟨g, 0, none⟩ : Addr).add j) = some u := hown.cells (g := g) rfl
      have hr := Lib.run_append_grow_string (P := P) w t u ty e i (.int .u8 0) ht hu hi hz ⟨g, 0, none⟩ n cap xs (by rw [hsize]; simpa using hxl) holds s (by omega) (by omega) (by rw [hby]; exact growslice_fits (by omega) (by omega))
      have hgr := grown cap (by omega) (Value.ownBlock (.slice (some ⟨g, 0, none⟩) n cap))
      exact ⟨_, _, _, hr, hgr.1, hgr.2, .inr rfl, by simp, Nat.le_succ _⟩
omit [Mo] in
theorem append_zero_str {t u e ty : TypeId} {i : TypeInfo} {w : World} {a : Option Addr} {n c : Nat} {s : ByteArray} (ht : P.underlying t = some (.slice e)) (hu : P.underlying u = some .string) (hi : P.info? e = some i) (hs : s.size = 0) (hn : n ≤ c) :
    (Builtin.append_ #[t, u] ty #[.slice a n c, .string s]).run P w = .ok (.slice a n c) w := by
  have hf := Lib.run_firstCells_string (P := P) w i.size s
  rw [hs] at hf
  have hn2 : Lib.strCells s = [] := List.eq_nil_of_length_eq_zero (by rw [Lib.strCells_length]; exact hs)
  rw [hn2] at hf
  cases a with
  | none => simp [Builtin.append_, run_underlying ht, run_underlying hu, sizeOf, typeInfo, hi, Builtin.lenOf, hs, hf, hn]
  | some a => simp [Builtin.append_, run_underlying ht, run_underlying hu, sizeOf, typeInfo, hi, Builtin.lenOf, hs, hf, hn, storeCells]
omit [Mo] in
theorem strRows_get {s : ByteArray} {F : Nat → Prop} {w : World} {i : Nat} {r : List T} (hi : ((strNums s).map byteRow.en)[i]? = some r) {j : Nat} {x : T} (hj : r[j]? = some x) : j = 0 ∧ ∃ v, (Lib.strCells s)[i]? = some v ∧ RelT w F x v := by
  have hi' : ((s.data.toList.map fun b => ((b.toNat : Nat) : Int)).map fun n : Int => [T.sc (.int .u8 n)])[i]? = some r := hi
  simp only [List.getElem?_map, Option.map_eq_some_iff] at hi'
  obtain ⟨n, ⟨b, hb, rfl⟩, rfl⟩ := hi'
  cases j with
  | zero =>
    cases hj
    exact ⟨rfl, _, by unfold Lib.strCells; rw [List.getElem?_map, hb]; rfl, .sc _ rfl⟩
  | succ j => simp at hj
/-- append(x, s...), s a text -/
theorem appS_ok (hg : Good P D) {o : Oper} {st : St} {x y : Operand} {t u e d : Nat} {nl : Nl} {rows : List (List T)} {oo : Option Nat} {s : ByteArray}
    (ho : o.op = .call ⟨.builtin .append, #[x, y], #[t, u]⟩) (hu : D.und t = some (.slice e)) (hs : D.und u = some .string) (he : D.und e = some (.int .u8)) (hz : D.zero e = some (.int .u8 0)) (hp : D.size e = 1) (hb : D.bytes e = 1)
    (hd : st.s d = none) (htg : tgtV st.s e 1 (ev noG st.t x) = some (nl, rows, oo)) (hy : ev noG st.t y = vS s) (hby : rows.length + s.size ≤ 140737488355328) :
    OkV P noG o st (.sl nl d) (upd (killS st.s oo) d (some (some (.ar e 1 (rows ++ (strNums s).map byteRow.en))))) := by
  intro B F loc a w hR
  have hS := hR.s
  obtain ⟨hu', _⟩ := hg.und t _ hu
  obtain ⟨hus, _⟩ := hg.und u _ hs
  obtain ⟨_, i, hi, hsz, hbt, hzi⟩ := hg.und e _ he
  obtain ⟨b, cap, cells, hv, hown, hrl, h1, hr, hne, hnn, hn0, hbo, hoo⟩ := (tgtV_spec hS htg (ev_rel hR x) (by decide)).out
  have hys : a.eval y = .string s := by
    have := ev_rel hR y
    rw [hy] at this
    exact relV_sc this
  have hcl : cells.length = rows.length := by have := hown.1; omega
  have hcat : ∀ (i : Nat) (r : List T), (rows ++ (strNums s).map byteRow.en)[i]? = some r → ∀ (j : Nat) (x : T), r[j]? = some x → ∃ v, (cells ++ Lib.strCells s)[i * 1 + j]? = some v ∧ RelT w F x v := by
    intro i r hi j x hj
    rw [List.getElem?_append] at hi
    split at hi
    · rename_i hlt
      have hjl : j < 1 := by have := (List.getElem?_eq_some_iff.1 hj).1; have := row_index hrl hi; omega
      obtain ⟨u, hu, hrel⟩ := hr i r hi j x hj
      exact ⟨u, by rw [List.getElem?_append, if_pos (by omega)]; exact hu, hrel⟩
    · rename_i hge
      obtain ⟨rfl, u, hu, hrel⟩ := strRows_get (w := w) (F := F) hi hj
      refine ⟨u, ?_, hrel⟩
      rw [List.getElem?_append, if_neg (by omega), ← hu]
      congr 1
      omega
  have hrl2 : ∀ r ∈ rows ++ (strNums s).map byteRow.en, r.length = 1 := fun r hr => (List.mem_append.1 hr).elim (hrl r) (fun h => by
    obtain ⟨n, _, rfl⟩ := List.mem_map.1 h; rfl)
  have h1' : ∀ u ∈ cells ++ Lib.strCells s, u.oneCell' = true := fun u hu => (List.mem_append.1 hu).elim (h1 u) (Lib.strCells_oneCell s u)
  have hob : (a.eval x).ownBlock = b := by rw [hv]; cases b <;> rfl
  have hll : (rows ++ (strNums s).map byteRow.en).length = rows.length + s.size := by rw [List.length_append]; congr 1; exact (List.length_map _).trans (strNums_length s)
  by_cases hm : s.size = 0
  · have hnil : strNums s = [] := List.eq_nil_of_length_eq_zero (by rw [strNums_length]; exact hm)
    have hcap : rows.length ≤ cap := by rw [hv] at hown; exact own_le (ownsR_of hown (hg.lt e _ he))
    have hrun : (Builtin.append_ #[t, u] o.type #[a.eval x, a.eval y]).run P w = .ok (a.eval x) w := by
      rw [hv, hys]; exact append_zero_str hu' hus hi hm hcap
    have e0 : rows ++ (strNums s).map byteRow.en = rows := by rw [hnil]; exact List.append_nil _
    rw [e0]
    have hx : ∀ loc', Same loc loc' → Kept w F w F → RelO w F loc' (some (.ar e 1 rows)) (.arr b rows.length cap 1) := by
      intro loc' _ _
      exact .ar e _ rows b cap cells (by decide) hrl (by rw [hv] at hown; exact ownsR_of hown (hg.lt e _ he)) h1 hr
    have hgb : w.grownBy w none := ⟨rfl, rfl, rfl, Nat.le_refl _, fun _ _ _ => rfl⟩
    obtain ⟨hS', hk, hsm⟩ := hS.replace (oo := oo) (row := none) (d := d) (x := .ar e 1 rows) (l := .arr b rows.length cap 1) hd hoo (tgtV_noMi htg) hgb (fun _ h => by cases h) (fun g hg => by
      obtain ⟨o', l', h1, h2, h3⟩ := hbo g hg
      exact ⟨.inl ⟨o', l', h1, h2, h3⟩, (hS.own o' l' g h2 h3).1⟩) hx
    refine ⟨F, _, w, a.eval x, _, call_append ho hrun, .inl rfl, hS', hk, hsm, ?_⟩
    rw [hv]
    exact .sl _ _ b _ cap 1 (upd_self _ _ _) hne hnn hn0
  · obtain ⟨g, cap', w', hrun, hown', hgb, hplace, hgs, hdr⟩ := append_own_str (P := P) (ty := o.type) hu' hus hi (hzi.trans hz) (hsz.trans hp) (hbt.trans hb) hown s (by omega) (Nat.le_trans (show rows.length + s.size ≤ 9223372036854775807 by omega) max_ok) hby
    have hx : ∀ loc', Same loc loc' → Kept w F w' F → RelO w' F loc' (some (.ar e 1 (rows ++ (strNums s).map byteRow.en))) (.arr (some g) (rows ++ (strNums s).map byteRow.en).length cap' 1) := by
      intro loc' _ hk
      refine .ar e _ _ (some g) cap' (cells ++ Lib.strCells s) (by decide) hrl2 (by rw [hll]; exact ownsR_of hown' (hg.lt e _ he)) h1' fun i r hi j x hj => ?_
      obtain ⟨u, hu, hrel⟩ := hcat i r hi j x hj
      exact ⟨u, hu, hrel.mono hk⟩
    obtain ⟨hS', hk, hsm⟩ := hS.replace (oo := oo) (row := b) (d := d) (x := .ar e 1 (rows ++ (strNums s).map byteRow.en)) (l := .arr (some g) (rows ++ (strNums s).map byteRow.en).length cap' 1) hd hoo (tgtV_noMi htg) (by rw [← hob]; exact hgb) hbo (fun g' hg' => by
      cases hg'
      refine ⟨?_, hgs⟩
      rcases hplace with h | h
      · rw [hob] at h; exact .inl (hbo g h)
      · exact .inr (by omega)) hx hdr
    refine ⟨F, _, w', _, _, call_append ho (by rw [hys]; exact hrun), .inl rfl, hS', hk, hsm, ?_⟩
    have := RelV.sl (w := w') (F := F) (loc := upd (killL loc oo) d (some (.arr (some g) (rows ++ (strNums s).map byteRow.en).length cap' 1))) nl d (some g) _ cap' 1 (upd_self _ _ _) (fun _ => rfl) (fun _ _ => by rw [hll]; omega) (by simp)
    rw [hll] at this
    simpa [hll] using this
def strNumsR (s : ByteArray) : List byteRow.den := strNums s
def xappendS (D : Dec) (g : XG) (dst : Option Nat) (t u : TypeId) (x : X) (s : ByteArray) : Out :=
  match dst, sliceT (D.und t) with
  | some d, some e => match g d with
    | none => cond (isU8T (D.und e) && isStrT (D.und u) && isZero8 (D.zero e) && Nat.beq (D.size e) 1 && Nat.beq (D.bytes e) 1) (cond (isNilX x)
        (.grd (decide (([] : List byteRow.den).length + s.size ≤ 140737488355328)) (.sl .n d) [(d, some (.ar e byteRow (([] : List byteRow.den) ++ strNumsR s)))])
        (match xtgt g e x with
          | some (nl, ⟨r, xs⟩, o) => match Row.eq? r byteRow with
            | some h => .grd (decide ((h.down ▸ xs : List byteRow.den).length + s.size ≤ 140737488355328)) (.sl nl d) [(d, some (.ar e byteRow ((h.down ▸ xs : List byteRow.den) ++ strNumsR s))), (o, none)]
            | none => .bad
          | none => .bad)) .bad
    | some _ => .bad
  | _, _ => .bad
theorem xappendS_spec (hg : Good P D) {g : XG} {o : Oper} {st : St} (ha : Agree g st.s) {t u : TypeId} {ox oy : Operand} {x : X} {s : ByteArray} (hop : o.op = .call ⟨.builtin .append, #[ox, oy], #[t, u]⟩) (hx : ev noG st.t ox = x.enc) (hy : ev noG st.t oy = (X.s s).enc) :
    OutOk P o st (xappendS D g o.dst t u x s) := by
  unfold xappendS
  split
  · rename_i d e hd he
    have hu := sliceT_spec he
    split
    · rename_i hn
      have hfree := ha.no d hn
      refine outok_cond (fun hok => ?_) (fun _ => trivial)
      simp only [Bool.and_eq_true] at hok
      obtain ⟨⟨⟨⟨k1, k2⟩, k3⟩, k4⟩, k5⟩ := hok
      have k1 := isU8T_spec k1
      have k2 := isStrT_spec k2
      have k3 := isZero8_spec k3
      have k4 : D.size e = 1 := Nat.eq_of_beq_eq_true k4
      have k5 : D.bytes e = 1 := Nat.eq_of_beq_eq_true k5
      refine outok_cond (fun hnx => ?_) (fun _ => ?_)
      · intro hq
        obtain rfl := isNilX_spec hnx
        show OkV P noG o st (.sl .n d) (upd st.s d (some (some (.ar e 1 ((([] : List byteRow.den) ++ strNumsR s).map byteRow.en)))))
        exact appS_ok (oo := none) (rows := []) hg hop hu k2 k1 k3 k4 k5 hfree (by rw [hx]; simp [tgtV, X.enc, plain]) hy (by simpa using of_decide_eq_true hq)
      · split
        · rename_i nl r xs n ht
          split
          · rename_i h _
            obtain ⟨h⟩ := h
            subst h
            intro hq
            have htg := xtgt_spec ha ht
            show OkV P noG o st (.sl nl d) (upd (upd st.s n (some none)) d (some (some (.ar e 1 ((xs ++ strNumsR s).map byteRow.en)))))
            rw [List.map_append]
            exact appS_ok (oo := some n) hg hop hu k2 k1 k3 k4 k5 hfree (by rw [hx]; exact htg) hy (by rw [List.length_map]; exact of_decide_eq_true hq)
          · trivial
        · trivial
    · trivial
  · trivial

/-! spelled-out slices -/
def xlit (g : XG) (r : Row) : Nat → List (Nat × X) → Option (List r.den)
  | _, [] => some []
  | k, (i, v) :: rest => cond (Nat.beq i k && xsolid g v) (match r.ofCells (xcells v), xlit g r (k + 1) rest with
    | some a, some az => some (a :: az)
    | _, _ => none) none

omit [Mo] in
theorem WeakTs.refl : ∀ (l : List T), WeakTs l l
  | [] => .nil
  | x :: l => .cons _ _ _ _ (.refl x) (WeakTs.refl l)
omit [Mo] in
theorem toTs_append : ∀ {a b : List V} {x y : List T}, toTs a = some x → toTs b = some y → toTs (a ++ b) = some (x ++ y)
  | [], b, x, y, h, k => by cases h; exact k
  | v :: a, b, x, y, h, k => by
    unfold toTs at h
    split at h
    · rename_i t ts h1 h2
      cases h
      simp [toTs, h1, toTs_append h2 k]
    · cases h

omit [Mo] in
theorem xlit_fill {g : XG} {s : Store} (ha : Agree g s) {r : Row} {sz : Nat} (hsz : r.len = sz) : ∀ (parts : List (Nat × X)) (k : Nat) (xs : List r.den) (cells : List V), xlit g r k parts = some xs → (k + parts.length) * sz ≤ cells.length →
    xs.length = parts.length ∧ ∃ tss : List (List T), tss.length = parts.length ∧ (∀ (i : Nat) (a : r.den), xs[i]? = some a → ∃ ts, tss[i]? = some ts ∧ WeakTs ts (r.en a)) ∧ (∀ ts ∈ tss, ts.length = sz) ∧ (∀ v ∈ tss.flatten.map V.t, oneV s v = true) ∧
      fillV s (fun i => some (i * sz, sz)) cells (parts.map fun p => (p.1, p.2.enc)) = some (cells.take (k * sz) ++ tss.flatten.map V.t ++ cells.drop ((k + parts.length) * sz))
  | [], k, xs, cells, h, _ => by
    cases h
    exact ⟨rfl, [], rfl, fun i a h => by simp at h, fun _ h => by simp at h, fun _ h => by simp at h, by simp [fillV]⟩
  | (i, v) :: rest, k, xs, cells, h, hc => by
    unfold xlit at h
    cases hb : (Nat.beq i k && xsolid g v) with
    | false => rw [hb] at h; cases h
    | true =>
      rw [hb] at h
      simp only [Bool.and_eq_true] at hb
      obtain ⟨hik, hsol⟩ := hb
      have hik' := Nat.eq_of_beq_eq_true hik
      subst hik'
      simp only [cond_true] at h
      split at h
      · rename_i a az h1 h2
        cases h
        obtain ⟨hso, hce⟩ := xsolid_spec ha hsol
        obtain ⟨ts, hts, hw⟩ := r.ofCells_en _ a h1
        rw [hce] at hts
        have hcv := toTs_spec hts
        have htl : ts.length = sz := by rw [hw.get.1, r.en_len, hsz]
        have hlen : (cellsV v.enc).length = sz := by rw [hcv, List.length_map, htl]
        simp only [List.length_cons] at hc
        have hmul : (i + (rest.length + 1)) * sz = i * sz + sz + rest.length * sz := by rw [Nat.add_mul, Nat.add_mul]; omega
        have hc1 : i * sz + sz ≤ cells.length := by omega
        obtain ⟨h3, tss, h4, h5, h6, h7, h8⟩ := xlit_fill ha hsz rest (i + 1) az (cells.take (i * sz) ++ cellsV v.enc ++ cells.drop (i * sz + sz)) h2 (by
          have : (i + 1 + rest.length) * sz = i * sz + sz + rest.length * sz := by rw [Nat.add_mul, Nat.add_mul]; omega
          simp only [List.length_append, List.length_take, List.length_drop, hlen]; omega)
        refine ⟨by simp [h3], ts :: tss, by simp [h4], fun j b hj => ?_, fun u hu => ?_, fun u hu => ?_, ?_⟩
        · cases j with
          | zero => cases hj; exact ⟨ts, rfl, hw⟩
          | succ j => exact h5 j b (by simpa using hj)
        · rcases List.mem_cons.1 hu with rfl | hu
          · exact htl
          · exact h6 u hu
        · rw [List.flatten_cons, List.map_append, List.mem_append] at hu
          rcases hu with hu | hu
          · rw [← hcv] at hu; exact solid_cells hso u hu
          · exact h7 u hu
        · simp only [List.map_cons, fillV, solid_part hso, hlen, Nat.beq_refl, Bool.true_and]
          rw [if_pos (by simpa using hc1)]
          rw [h8]
          congr 1
          have e1 : (i + 1) * sz = i * sz + sz := by rw [Nat.add_mul, Nat.one_mul]
          have e2 : (i + 1 + rest.length) * sz = i * sz + sz + rest.length * sz := by rw [Nat.add_mul, Nat.add_mul]; omega
          have t1 : (cells.take (i * sz) ++ cellsV v.enc).length = i * sz + sz := by rw [List.length_append, List.length_take, hlen]; omega
          rw [e1, List.take_left' t1, List.drop_append, List.drop_eq_nil_of_le (by omega), List.nil_append, t1, List.drop_drop, e2, List.length_cons, hmul, List.flatten_cons, List.map_append, ← hcv]
          simp only [List.append_assoc]
          congr 4
          omega
      · cases h

omit [Mo] in
theorem flatten_cut {sz : Nat} : ∀ (tss : List (List T)), (∀ ts ∈ tss, ts.length = sz) → ∀ (i : Nat) (ts : List T), tss[i]? = some ts → (tss.flatten.drop (i * sz)).take sz = ts
  | [], _, i, ts, h => by simp at h
  | t :: tss, hl, 0, ts, h => by
    cases h
    have := hl t (by simp)
    rw [Nat.zero_mul, List.drop_zero, List.flatten_cons]
    exact List.take_left' this
  | t :: tss, hl, i + 1, ts, h => by
    have ht := hl t (by simp)
    rw [List.flatten_cons, Nat.add_mul, Nat.one_mul, Nat.add_comm, ← List.drop_drop, List.drop_left' ht]
    exact flatten_cut tss (fun x hx => hl x (by simp [hx])) i ts (by simpa using h)
omit [Mo] in
theorem flatten_len {sz : Nat} : ∀ (tss : List (List T)), (∀ ts ∈ tss, ts.length = sz) → tss.flatten.length = tss.length * sz
  | [], _ => by simp
  | t :: tss, hl => by
    rw [List.flatten_cons, List.length_append, flatten_len tss (fun x hx => hl x (by simp [hx])), hl t (by simp), List.length_cons, Nat.add_mul]; omega

omit [Mo] in
theorem zeroRow_len {e : Nat} {z : List T} (h : zeroRow D e = some z) : z.length = D.size e := by
  unfold zeroRow at h
  split at h
  · rename_i v hv
    split at h
    · rename_i hb
      cases h
      simp only [Bool.and_eq_true] at hb
      have := Nat.eq_of_beq_eq_true hb.1.2
      simpa using this
    · cases h
  · cases h
omit [Mo] in
theorem xlit_rows {g : XG} {s : Store} (ha : Agree g s) {r : Row} {e len : Nat} (hsz : r.len = D.size e) {parts : List (Nat × X)} {xs : List r.den} (h : xlit g r 0 parts = some xs) (hlen : parts.length = len) {z : List T} (hz : zeroRow D e = some z) :
    ∃ rows, litRows D s e len (parts.map fun p => (p.1, p.2.enc)) = some rows ∧ rows.length = xs.length ∧ ∀ (i : Nat) (r' : List T), (xs.map r.en)[i]? = some r' → ∃ q, rows[i]? = some q ∧ WeakTs q r' := by
  have hfl := flat_length (zeroRow_len hz) len
  obtain ⟨h1, tss, h2, h3, h4, h5, h6⟩ := xlit_fill ha hsz parts 0 xs ((List.replicate len (z.map V.t)).flatten) h (by rw [hfl, Nat.zero_add, hlen]; exact Nat.le_refl _)
  have h7 : (List.replicate len (z.map V.t)).flatten.take (0 * D.size e) ++ tss.flatten.map V.t ++ (List.replicate len (z.map V.t)).flatten.drop ((0 + parts.length) * D.size e) = tss.flatten.map V.t := by
    rw [Nat.zero_mul, List.take_zero, List.nil_append, Nat.zero_add, hlen, ← hfl, List.drop_length, List.append_nil]
  rw [h7] at h6
  refine ⟨(List.range len).map fun i => (tss.flatten.drop (i * D.size e)).take (D.size e), ?_, by simp [h1, hlen], fun i r' hi => ?_⟩
  · unfold litRows
    rw [hz]
    simp only [h6]
    rw [List.all_eq_true.2 h5, toTs_map]
  · rw [List.getElem?_map] at hi
    obtain ⟨a, ha', rfl⟩ := Option.map_eq_some_iff.1 hi
    obtain ⟨ts, hts, hw⟩ := h3 i a ha'
    have hil : i < len := by have := (List.getElem?_eq_some_iff.1 ha').1; omega
    exact ⟨ts, by rw [List.getElem?_map, List.getElem?_range hil]; exact congrArg some (flatten_cut tss h4 i ts hts), hw⟩

def xbuildSlice (D : Dec) (g : XG) (rw? : Option Row) (dst : Option Nat) (t : TypeId) (len : Nat) (parts : List (Nat × X)) : Out :=
  match dst, sliceT (D.und t), rw? with
  | some d, some e, some r => match g d with
    | none => cond (D.has e && Nat.beq r.len (D.size e) && Nat.beq parts.length len && (zeroRow D e).isSome && Nat.ble (len * D.size e) 16777216) (match xlit g r 0 parts with
      | some xs => .ok (.sl .e d) [(d, some (.ar e r xs))]
      | none => .bad) .bad
    | some _ => .bad
  | _, _, _ => .bad
theorem xbuildSlice_spec (hg : Good P D) {g : XG} {o : Oper} {st : St} (ha : Agree g st.s) {t : TypeId} {len : Nat} {ops : Array (Nat × Operand)} {parts : List (Nat × X)} {rw? : Option Row} (hop : o.op = .buildSlice t len ops)
    (hp : (ops.toList.map fun p => (p.1, ev noG st.t p.2)) = parts.map fun p => (p.1, p.2.enc)) : OutOk P o st (xbuildSlice D g rw? o.dst t len parts) := by
  unfold xbuildSlice
  split
  · rename_i d e r hd he
    split
    · rename_i hn
      refine outok_cond (fun hc => ?_) (fun _ => trivial)
      simp only [Bool.and_eq_true] at hc
      obtain ⟨⟨⟨⟨h1, h2⟩, h3⟩, h4⟩, h5⟩ := hc
      split
      · rename_i xs hxs
        obtain ⟨z, hz⟩ := Option.isSome_iff_exists.1 h4
        have hlen : r.len = D.size e := Nat.eq_of_beq_eq_true h2
        obtain ⟨rows, k1, k2, k3⟩ := xlit_rows ha hlen hxs (Nat.eq_of_beq_eq_true h3) hz
        have := bsP_ok (st := st) (d := d) hg hop (sliceT_spec he) h1 (ha.no d hn) (by rw [hp]; exact k1) h5
        have := this.weakAr (n := d) (rows' := xs.map r.en) (upd_self _ _ _) (by simp [k2]) k3
        show OkV P noG o st (.sl .e d) (upd st.s d (some (some (.ar e r.len (xs.map r.en)))))
        have hu : ∀ (y z : Option (Option O)), upd (upd st.s d y) d z = upd st.s d z := by
          intro y z; funext m; by_cases hm : m = d
          · subst hm; simp [upd_self]
          · simp [upd_ne _ _ hm]
        rw [hu] at this
        rw [hlen]; exact this
      · trivial
    · trivial
  · trivial

/-! make([]T, n) -/
def sameTmp : Operand → Operand → Bool
  | .tmp i, .tmp j => Nat.beq i j
  | .const (.int k a), .const (.int k' b) => decide (k = k' ∧ a = b)
  | _, _ => false
def xmakeSlice (D : Dec) (g : XG) (rw? : Option Row) (dst : Option Nat) (t : TypeId) (ox oy : Operand) (x : X) : Out :=
  match dst, sliceT (D.und t), rw? with
  | some d, some e, some r => match g d, x with
    | none, .i _ n => match D.zero e with
      | some z => match r.ofCells (z.cells.toList.map constX) with
        | some a => cond (sameTmp ox oy && D.has e && (zeroRow D e).isSome && Nat.beq r.len (D.size e)) (.grd (decide (0 ≤ n ∧ n ≤ 9223372036854775807 ∧ D.bytes e * n.toNat ≤ 281474976710656)) (.sl .e d) [(d, some (.ar e r (List.replicate n.toNat a)))]) .bad
        | none => .bad
      | none => .bad
    | _, _ => .bad
  | _, _, _ => .bad
omit [Mo] in
theorem sameTmp_spec {ox oy : Operand} (h : sameTmp ox oy = true) {st : St} {k : IntKind} {n : Int} (hx : ev noG st.t ox = vI k n) : ev noG st.t oy = vI k n := by
  unfold sameTmp at h
  split at h
  · rw [← Nat.eq_of_beq_eq_true h]; exact hx
  · rename_i k1 a k2 b
    have hab := of_decide_eq_true h
    rw [← hab.1, ← hab.2]; exact hx
  · cases h
theorem xmakeSlice_spec (hg : Good P D) {g : XG} {o : Oper} {st : St} (ha : Agree g st.s) {t : TypeId} {ox oy : Operand} {x : X} {rw? : Option Row} (hop : o.op = .makeSlice t ox oy) (hx : ev noG st.t ox = x.enc) :
    OutOk P o st (xmakeSlice D g rw? o.dst t ox oy x) := by
  unfold xmakeSlice
  split
  · rename_i d e r hd he
    split
    · rename_i k n hn
      split
      · rename_i z hz
        split
        · rename_i a hra
          refine outok_cond (fun hc => ?_) (fun _ => trivial)
          simp only [Bool.and_eq_true] at hc
          obtain ⟨⟨⟨h1, h2⟩, h3⟩, h4⟩ := hc
          intro hq
          obtain ⟨q1, q2, q3⟩ := of_decide_eq_true hq
          obtain ⟨row, hrow⟩ := Option.isSome_iff_exists.1 h3
          obtain ⟨de, hde⟩ := has_some h2
          have hlen : r.len = D.size e := Nat.eq_of_beq_eq_true h4
          have := makeSlice_ok (st := st) (d := d) hg hop (sliceT_spec he) hde (ha.no d hn) hx (sameTmp_spec h1 hx) hrow q1 q2 q3
          have hw : WeakTs row (r.en a) := by
            obtain ⟨ts, hts, hw⟩ := r.ofCells_en _ a hra
            unfold zeroRow at hrow
            rw [hz] at hrow
            simp only at hrow
            split at hrow
            · rename_i hb
              cases hrow
              simp only [Bool.and_eq_true] at hb
              have hpl : z.cells.toList.all plain = true := by simpa using hb.1.1
              have h5 : (z.cells.toList.map constX).map X.enc = (z.cells.toList.map T.sc).map V.t := by
                have := ofVals_const hpl
                unfold ofVals at this
                rw [if_pos hpl] at this
                simp only [Option.some.injEq] at this
                rw [← this, List.map_map]; rfl
              rw [h5, toTs_map] at hts
              cases hts; exact hw
            · cases hrow
          have := this.weakAr (n := d) (rows' := (List.replicate n.toNat a).map r.en) (upd_self _ _ _) (by simp) (fun i r' hi => by
            rw [List.map_replicate] at hi
            obtain ⟨hi1, hi2⟩ := List.getElem?_eq_some_iff.1 hi
            rw [List.getElem_replicate] at hi2
            refine ⟨row, ?_, hi2 ▸ hw⟩
            rw [List.getElem?_replicate, if_pos (by simpa using hi1)])
          show OkV P noG o st (.sl .e d) (upd st.s d (some (some (.ar e r.len ((List.replicate n.toNat a).map r.en)))))
          have hu : ∀ (y z : Option (Option O)), upd (upd st.s d y) d z = upd st.s d z := by
            intro y z; funext m; by_cases hm : m = d
            · subst hm; simp [upd_self]
            · simp [upd_ne _ _ hm]
          rw [hu] at this
          rw [hlen]; exact this
        · trivial
      · trivial
    · trivial
  · trivial

/-- a slice of bytes az a text -/
def xbytesStr (D : Dec) (g : XG) (src dst : TypeId) (x : X) : Out :=
  match sliceT (D.und src) with
  | some e => cond (isU8T (D.und e) && isStrT (D.und dst)) (cond (isNilX x) (.ok (.s (strOfNums [])) []) (match xsrc g x with
    | some ⟨r, xs⟩ => match Row.eq? r byteRow with
      | some h => .ok (.s (strOfNums (h.down ▸ xs : List byteRow.den))) []
      | none => .bad
    | none => .bad)) .bad
  | none => .bad
theorem xbytesStr_spec (hg : Good P D) {g : XG} {o : Oper} {st : St} (ha : Agree g st.s) {src dst : TypeId} {ox : Operand} {x : X} (hop : o.op = .convert src dst ox) (hx : ev noG st.t ox = x.enc) : OutOk P o st (xbytesStr D g src dst x) := by
  unfold xbytesStr
  split
  · rename_i e he
    refine outok_cond (fun hc => ?_) (fun _ => trivial)
    simp only [Bool.and_eq_true] at hc
    refine outok_cond (fun hn => ?_) (fun _ => ?_)
    · obtain rfl := isNilX_spec hn
      exact bytesStr_ok (xs := []) hg hop (sliceT_spec he) (isU8T_spec hc.1) (isStrT_spec hc.2) (by rw [hx]; simp [srcV, X.enc, plain])
    · split
      · rename_i r xs hs
        split
        · rename_i h _
          obtain ⟨h⟩ := h
          subst h
          exact bytesStr_ok (xs := xs) hg hop (sliceT_spec he) (isU8T_spec hc.1) (isStrT_spec hc.2) (by rw [hx]; exact xsrc_spec ha hs)
        · trivial
      · trivial
  · trivial

/-- a text as bytes: a new row, with a mark behind it -/
def xstrBytes (D : Dec) (g : XG) (dst : Option Nat) (ts : TypeId) (e : Nat) (s : ByteArray) : Out :=
  match dst with
  | some d => match g d with
    | none => cond (isStrT (D.und ts) && isU8T (D.und e)) (.grd (decide (s.size ≤ 9223372036854775807)) (.sl .e d) [(d, some (.ar (e + 1000000) byteRow (strNumsR s)))]) .bad
    | some _ => .bad
  | none => .bad
theorem strBytes_ok (hg : Good P D) {o : Oper} {st : St} {x : Operand} {ts td e d : Nat} {s : ByteArray} (hop : o.op = .convert ts td x) (hs : D.und ts = some .string) (hd' : D.und td = some (.slice e)) (he : D.und e = some (.int .u8)) (hd : st.s d = none) (hx : ev noG st.t x = vS s) (hm : s.size ≤ 9223372036854775807) :
    OkV P noG o st (.sl .e d) (upd st.s d (some (some (.ar (e + 1000000) 1 ((strNums s).map byteRow.en))))) := by
  intro B F loc a w hR
  have hS := hR.s
  have hlt := hg.lt e _ he
  have hv : a.eval x = .string s := by
    have := ev_rel hR x
    rw [hx] at this
    exact relV_sc this
  have hrun := Lib.run_convert_string_bytes (P := P) w ts td e s (hg.und ts _ hs).1 (hg.und td _ hd').1 (hg.und e _ he).1
  have hge := grownCap_ge w s.size 0 e
  have hcm := grownCap_le_maxLen w s.size 0 e (Nat.le_trans hm max_ok)
  have hcs : (Lib.bytesCells w e s).size = grownCap w s.size 0 e := by
    unfold Lib.bytesCells
    rw [Array.size_append, Array.size_map, Array.size_replicate]
    show s.data.size + (grownCap w s.size 0 e - s.size) = _
    have : s.data.size = s.size := rfl
    omega
  have hsl : (Lib.strCells s).length = s.size := by unfold Lib.strCells; rw [List.length_map]; rfl
  have htk : (Lib.bytesCells w e s).toList.take (s.size * 1) = Lib.strCells s := by
    unfold Lib.bytesCells
    rw [Array.toList_append, Array.toList_map, Nat.mul_one]
    show List.take s.size (Lib.strCells s ++ _) = _
    rw [← hsl, List.take_left]
  have hll : ((strNums s).map byteRow.en).length = s.size := (List.length_map _).trans (strNums_length s)
  have hrl : ∀ r ∈ (strNums s).map byteRow.en, r.length = 1 := fun r hr => by
    obtain ⟨n, _, rfl⟩ := List.mem_map.1 hr; rfl
  have hgb : w.grownBy (Lib.bytesWorld w e s) none := ⟨rfl, rfl, rfl, by rw [Lib.bytesWorld_size]; omega, fun k hk _ => Lib.bytesWorld_at_old w e s k hk⟩
  obtain ⟨hS', hk, hsm⟩ := hS.replace (oo := none) (row := none) (d := d) (x := .ar (e + 1000000) 1 ((strNums s).map byteRow.en)) (l := .arr (some w.heap.size) s.size (grownCap w s.size 0 e) 1) hd (by simp) (by simp) hgb (by simp) (fun g hg => by
    cases hg; exact ⟨.inr (Nat.le_refl _), by rw [Lib.bytesWorld_size]; omega⟩) (fun loc' _ hk => by
    have := RelO.ar (w := Lib.bytesWorld w e s) (F := F) (loc := loc') (e + 1000000) 1 ((strNums s).map byteRow.en) (some w.heap.size) (grownCap w s.size 0 e) (Lib.strCells s) (by decide) hrl (by
      rw [hll]
      exact ownsR_in (by rw [hsl, Nat.mul_one]) (Lib.bytesWorld_at_new w e s) (.inr ⟨by omega, by omega, fun _ => by rw [hcs]; omega⟩) hge hcm (by rw [hcs, Nat.mul_one]) htk) (Lib.strCells_oneCell s) (fun i r hi j x hj => by
      obtain ⟨rfl, u, hu, hrel⟩ := strRows_get (w := Lib.bytesWorld w e s) (F := F) hi hj
      exact ⟨u, by rw [Nat.mul_one, Nat.add_zero]; exact hu, hrel⟩)
    rw [hll] at this
    exact this) (by simp [Lib.bytesWorld, World.freeze])
  refine ⟨F, _, Lib.bytesWorld w e s, .slice (some ⟨w.heap.size, 0, none⟩) s.size (grownCap w s.size 0 e), _, ?_, .inl rfl, hS', hk, hsm, ?_⟩
  · simp only [execOp, hop]
    rw [hv]
    simp [hrun]
  · exact RelV.sl .e d (some w.heap.size) _ _ 1 (upd_self _ _ _) (fun _ => rfl) (fun h => by cases h) (by simp)
theorem xstrBytes_spec (hg : Good P D) {g : XG} {o : Oper} {st : St} (ha : Agree g st.s) {ts td e : TypeId} {ox : Operand} {s : ByteArray} (hop : o.op = .convert ts td ox) (hd' : D.und td = some (.slice e)) (hx : ev noG st.t ox = (X.s s).enc) : OutOk P o st (xstrBytes D g o.dst ts e s) := by
  unfold xstrBytes
  split
  · rename_i d hd
    split
    · rename_i hn
      refine outok_cond (fun hc => ?_) (fun _ => trivial)
      simp only [Bool.and_eq_true] at hc
      intro hq
      exact strBytes_ok hg hop (isStrT_spec hc.1) hd' (isU8T_spec hc.2) (ha.no d hn) hx (of_decide_eq_true hq)
    · trivial
  · trivial

/-! rows written over: clear -/
theorem RelS.writeRows {B : Base} {w : World} {F : Nat → Prop} {loc : Nat → Option Loc} {s : Store} (hS : RelS noG B w F loc s) {o e sz g cap off : Nat} (he1 : e < 1000000) {rows new : List (List T)} {cells news : List Value} {cur : Array Value}
    (hlo : loc o = some (.arr (some g) rows.length cap sz)) (hz : 0 < sz) (hszz : ∀ r ∈ rows, r.length = sz) (hg : w.heap[g]? = some (.cells cur e (0, 0))) (hnc : rows.length ≤ cap) (hcm : cap ≤ maxLen) (hcs : cur.size = cap * sz)
    (htk : cur.toList.take (rows.length * sz) = cells) (h1c : ∀ u ∈ cells, u.oneCell' = true) (hrr : ∀ (i : Nat) (r : List T), rows[i]? = some r → ∀ (j : Nat) (x : T), r[j]? = some x → ∃ v, cells[i * sz + j]? = some v ∧ RelT w F x v)
    (hoff : off + new.length ≤ rows.length) (hnl : ∀ r ∈ new, r.length = sz) (hl : news.length = new.length * sz) (h1 : ∀ u ∈ news, u.oneCell' = true)
    (hnr : ∀ (i : Nat) (r : List T), new[i]? = some r → ∀ (j : Nat) (x : T), r[j]? = some x → ∃ v, news[i * sz + j]? = some v ∧ RelT w F x v) :
    RelS noG B (w.setRow g (cur.toList.take (off * sz) ++ news ++ cur.toList.drop (off * sz + news.length)).toArray) F loc (upd s o (some (some (.ar e sz (rows.take off ++ new ++ rows.drop (off + new.length)))))) ∧
      Kept w F (w.setRow g (cur.toList.take (off * sz) ++ news ++ cur.toList.drop (off * sz + news.length)).toArray) F := by
  have hcap : rows.length * sz ≤ cur.size := by rw [hcs]; exact Nat.mul_le_mul_right _ hnc
  have hin : off * sz + news.length ≤ rows.length * sz := by rw [hl, ← Nat.add_mul]; exact Nat.mul_le_mul_right _ hoff
  have hlens : (rows.take off ++ new ++ rows.drop (off + new.length)).length = rows.length := by simp; omega
  have hfull : (cur.toList.take (off * sz) ++ news ++ cur.toList.drop (off * sz + news.length)).length = cur.size := by simp; omega
  have hnew : ∀ k, k < rows.length * sz → (cur.toList.take (off * sz) ++ news ++ cur.toList.drop (off * sz + news.length))[k]? = if off * sz ≤ k ∧ k < off * sz + news.length then news[k - off * sz]? else cells[k]? := by
    intro k hk
    have ht2 : (cur.toList.take (off * sz)).length = off * sz := by rw [List.length_take]; simp; omega
    have hck : cells[k]? = cur.toList[k]? := by rw [← htk, List.getElem?_take, if_pos hk]
    rw [List.append_assoc, List.getElem?_append, ht2]
    by_cases c1 : k < off * sz
    · rw [if_pos c1, if_neg (by omega), List.getElem?_take, if_pos c1, hck]
    · rw [if_neg c1, List.getElem?_append]
      by_cases c2 : k < off * sz + news.length
      · rw [if_pos (by omega), if_pos (by omega)]
      · rw [if_neg (by omega), if_neg (by omega), List.getElem?_drop, hck]; congr 1; omega
  have hk : Kept w F (w.setRow g (cur.toList.take (off * sz) ++ news ++ cur.toList.drop (off * sz + news.length)).toArray) F := fun k hF => ⟨hF, setRow_other w g k _ (fun e => (hS.own o _ g hlo rfl).2.1 (e ▸ hF))⟩
  refine hS.turn hlo rfl setRow_turn.1 rfl rfl rfl setRow_turn.2 ?_ (fun m h => by
    obtain ⟨l, h1, h2⟩ := hS.obs o _ h
    rw [hlo] at h1
    cases h1; cases h2)
  rw [← hlens]
  have hrl2 : ∀ r ∈ rows.take off ++ new ++ rows.drop (off + new.length), r.length = sz := by
    intro r hr
    rcases List.mem_append.1 hr with h | h
    · rcases List.mem_append.1 h with h | h
      · exact hszz r (List.mem_of_mem_take h)
      · exact hnl r h
    · exact hszz r (List.mem_of_mem_drop h)
  refine .ar e sz _ (some g) cap ((cur.toList.take (off * sz) ++ news ++ cur.toList.drop (off * sz + news.length)).take (rows.length * sz)) hz hrl2 ?_ ?_ ?_
  · rw [hlens]
    exact ownsR_of ⟨by rw [List.length_take, hfull]; omega, .inr ⟨g, cap, _, rfl, Nat.zero_le _, setRow_heap w g cur _ e (0, 0) hg, hnc, hcm, by simpa [hcs] using hfull, rfl⟩⟩ he1
  · intro u hu
    obtain ⟨k, hk'⟩ := List.getElem?_of_mem hu
    rw [List.getElem?_take] at hk'
    split at hk'
    · rename_i hlt
      rw [hnew k hlt] at hk'
      split at hk'
      · exact h1 u (List.mem_of_getElem? hk')
      · exact h1c u (List.mem_of_getElem? hk')
    · cases hk'
  · intro i r hi j x hj
    have hil : i < rows.length := by have := (List.getElem?_eq_some_iff.1 hi).1; omega
    have hjl : j < sz := by have := (List.getElem?_eq_some_iff.1 hj).1; have := row_index hrl2 hi; omega
    have key := row_lt hil hjl
    rw [List.getElem?_take, if_pos key, hnew _ key]
    have ht1 : (rows.take off).length = off := by rw [List.length_take]; omega
    rw [List.append_assoc, List.getElem?_append, ht1] at hi
    split at hi
    · rename_i hlt
      have h2 := row_lt hlt hjl
      rw [if_neg (by omega)]
      rw [List.getElem?_take, if_pos hlt] at hi
      obtain ⟨u, hu, hrel⟩ := hrr i r hi j x hj
      exact ⟨u, hu, hrel.mono hk⟩
    · rename_i hge
      rw [List.getElem?_append] at hi
      have h3 : off * sz ≤ i * sz := Nat.mul_le_mul_right _ (by omega)
      split at hi
      · rename_i hlt
        have h2 := row_lt hlt hjl
        rw [Nat.sub_mul] at h2
        rw [if_pos (by rw [hl]; omega)]
        obtain ⟨u, hu, hrel⟩ := hnr _ r hi j x hj
        refine ⟨u, ?_, hrel.mono hk⟩
        rw [← hu, Nat.sub_mul]
        congr 1
        omega
      · rename_i hge2
        have h4 : (off + new.length) * sz ≤ i * sz := Nat.mul_le_mul_right _ (by omega)
        rw [Nat.add_mul] at h4
        rw [if_neg (by rw [hl]; omega)]
        rw [List.getElem?_drop, show off + new.length + (i - off - new.length) = i by omega] at hi
        obtain ⟨u, hu, hrel⟩ := hrr i r hi j x hj
        exact ⟨u, hu, hrel.mono hk⟩
omit [Mo] in
theorem zeroCells_get {z : Array Value} {n i j : Nat} (hj : j < z.size) (hi : i < n) : (Builtin.zeroCells z n).toList[i * z.size + j]? = z[j]? := by
  have h1 := row_lt hi hj
  have h2 := div_row (i := i) hj
  unfold Builtin.zeroCells
  rw [Array.getElem?_toList, Array.getElem?_map, Array.getElem?_range, if_pos h1, Option.map_some, h2.2, getElem!_pos z j hj, Array.getElem?_eq_getElem hj]
omit [Mo] in
theorem call_clear {ρ : Operand → Value} {o : Oper} {x : Operand} {ts : Array TypeId} {z : Value} {w w' : World} (ho : o.op = .call ⟨.builtin .clear, #[x], ts⟩) (h : (Builtin.clear_ ts o.type #[ρ x]).run P w = .ok z w') : (execOp ρ o).run P w = .ok (.value z) w' := by
  simp [execOp, ho, resolve, invoke, builtin, h]
omit [Mo] in
theorem relV_unit {w : World} {F : Nat → Prop} {loc : Nat → Option Loc} : RelV w F loc vU (.tuple #[]) := .tp [] [] (fun _ => .nilIface) rfl (fun j hj => absurd hj (by simp)) (fun j x hj => by simp at hj)
/-- clear(x), x an owned row or a piece of it -/
theorem clear_ok (hg : Good P D) {o : Oper} {st : St} {x : Operand} {t e e' ob off len : Nat} {rows : List (List T)} {row : List T} (ho : o.op = .call ⟨.builtin .clear, #[x], #[t]⟩) (hu : D.und t = some (.slice e)) (hd : D.has e = true) (hz : zeroRow D e = some row)
    (he' : e' < 1000000) (hob : get st.s ob = some (.ar e' (D.size e) rows)) (hx : (∃ nl, ev noG st.t x = .sl nl ob ∧ off = 0 ∧ len = rows.length) ∨ ev noG st.t x = .sw ob off len) :
    OkV P noG o st vU (upd st.s ob (some (some (.ar e' (D.size e) (rows.take off ++ List.replicate len row ++ rows.drop (off + len)))))) := by
  intro B F loc a w hR
  have hS := hR.s
  obtain ⟨de, hde⟩ := has_some hd
  obtain ⟨z, hze, hzs, hp, hrl, hrr0⟩ := zeroRow_spec (w := w) (F := F) hz
  obtain ⟨hu', _⟩ := hg.und t _ hu
  obtain ⟨_, i, hi, hsz, hbt, hzi⟩ := hg.und e _ hde
  obtain ⟨b, cap, cells, hl, _, hszz, hownR, h1c, hrr⟩ := hS.row hob
  have hown := ownsR_row hownR he'
  have hob' : st.s ob = some (some (.ar e' (D.size e) rows)) := get_some hob
  have hv : ∃ ad c, a.eval x = .slice ad len c ∧ off + len ≤ rows.length ∧ (0 < len → ∃ g, b = some g ∧ ad = some ⟨g, off * D.size e, none⟩) := by
    have hr := ev_rel hR x
    rcases hx with ⟨nl, hx, rfl, rfl⟩ | hx
    · rw [hx] at hr
      obtain ⟨h1, _, _, h4⟩ := relV_sl hr hl
      refine ⟨_, _, h1, by omega, fun h => ?_⟩
      cases b with
      | none => have := (h4 rfl).1; omega
      | some g => exact ⟨g, rfl, by simp⟩
    · rw [hx] at hr
      obtain ⟨ad, h1, h2, h3, _, _⟩ := relV_sw hr hl
      exact ⟨ad, _, h1, h2, h3⟩
  obtain ⟨ad, c, hv, hle, hpos⟩ := hv
  cases len with
  | zero =>
    have e0 : rows.take off ++ List.replicate 0 row ++ rows.drop (off + 0) = rows := by simp
    have e1 : upd st.s ob (some (some (.ar e' (D.size e) rows))) = st.s := by
      funext k
      by_cases hk : k = ob
      · subst hk; rw [upd_self, hob']
      · rw [upd_ne _ _ hk]
    rw [e0, e1]
    refine ⟨F, loc, w, .tuple #[], _, call_clear ho ?_, .inl rfl, hS, Kept.refl _ _, Same.refl _, relV_unit⟩
    rw [hv]
    cases ad <;> simp [Builtin.clear_, run_underlying hu']
  | succ n =>
    obtain ⟨g, rfl, rfl⟩ := hpos (by omega)
    obtain ⟨cur, hgc, hnc, hcm, hcs, htk⟩ : ∃ cur, w.heap[g]? = some (.cells cur e' (0, 0)) ∧ rows.length ≤ cap ∧ cap ≤ maxLen ∧ cur.size = cap * D.size e ∧ cur.toList.take (rows.length * D.size e) = cells := by
      rcases hown.2 with ⟨h, _⟩ | ⟨g', cap', cur, hv, _, h2, h3, h4, h5, h6⟩
      · cases h
      · cases hv; exact ⟨cur, h2, h3, h4, h5, h6⟩
    have hnews : (Builtin.zeroCells z.cells (n + 1)).toList.length = (n + 1) * D.size e := by rw [Array.length_toList, size_zeroCells, hzs]
    have hget : ∀ i j, i < n + 1 → j < D.size e → (Builtin.zeroCells z.cells (n + 1)).toList[i * D.size e + j]? = z.cells[j]? := fun i j hi hj => by
      have := zeroCells_get (z := z.cells) (n := n + 1) (i := i) (j := j) (by omega) hi
      rwa [hzs] at this
    have hone : ∀ u ∈ (Builtin.zeroCells z.cells (n + 1)).toList, u.oneCell' = true := by
      intro u hu
      obtain ⟨q, hq⟩ := List.getElem?_of_mem hu
      have hql := (List.getElem?_eq_some_iff.1 hq).1
      rw [hnews] at hql
      have hi' : q / D.size e < n + 1 := (Nat.div_lt_iff_lt_mul hp).2 hql
      have hj' : q % D.size e < D.size e := Nat.mod_lt _ hp
      have := hget _ _ hi' hj'
      rw [Nat.mul_comm, Nat.div_add_mod, hq] at this
      obtain ⟨v, hv1, hv2, _⟩ := hrr0 (q % D.size e) row[q % D.size e] (List.getElem?_eq_getElem (by omega))
      rw [hv1] at this
      cases this
      exact hv2
    have hfit : off * D.size e + (Builtin.zeroCells z.cells (n + 1)).toList.length ≤ cur.size := by
      rw [hnews, ← Nat.add_mul, hcs]
      exact Nat.mul_le_mul_right _ (by omega)
    have hst := run_storeCells_at P g (off * D.size e) e' (Builtin.zeroCells z.cells (n + 1)).toList 0 cur w hgc (by simpa using hfit) hone
    simp only [Nat.add_zero] at hst
    obtain ⟨h1, hk⟩ := hS.writeRows (o := ob) (e := e') (new := List.replicate (n + 1) row) (off := off) he' hl hp hszz hgc hnc hcm hcs htk h1c hrr (by rw [List.length_replicate]; exact hle) (fun r hr => by rw [(List.mem_replicate.1 hr).2]; exact hrl) (by rw [hnews, List.length_replicate]) hone
      (fun i r hi j x hj => by
        obtain ⟨hi1, hi2⟩ := List.getElem?_eq_some_iff.1 hi
        rw [List.getElem_replicate] at hi2
        subst hi2
        rw [List.length_replicate] at hi1
        obtain ⟨v, hv1, _, hv3⟩ := hrr0 j x hj
        exact ⟨v, by rw [hget i j hi1 (by have := (List.getElem?_eq_some_iff.1 hj).1; omega)]; exact hv1, hv3⟩)
    rw [List.length_replicate] at h1
    refine ⟨F, loc, _, .tuple #[], _, call_clear ho ?_, .inl rfl, h1, hk, Same.refl _, relV_unit⟩
    rw [hv]
    have hzv : (zeroValue e).run P w = .ok z w := by simp [zeroValue, typeInfo, hi, hzi.trans hze]
    simp [Builtin.clear_, run_underlying hu', hzv, hst]
def xclear (D : Dec) (g : XG) (t : TypeId) (x : X) : Out :=
  match sliceT (D.und t) with
  | some e => match D.zero e with
    | some z => match x with
      | .sl _ o => match gx g o with
        | some (.ar e' r xs) => match r.ofCells (z.cells.toList.map constX) with
          | some a => cond (D.has e && (zeroRow D e).isSome && Nat.beq r.len (D.size e) && Nat.blt e' 1000000) (.ok (.tp []) [(o, some (.ar e' r (List.replicate xs.length a)))]) .bad
          | none => .bad
        | _ => .bad
      | .sw o off len => match gx g o with
        | some (.ar e' r xs) => match r.ofCells (z.cells.toList.map constX) with
          | some a => cond (D.has e && (zeroRow D e).isSome && Nat.beq r.len (D.size e) && Nat.blt e' 1000000) (.ok (.tp []) [(o, some (.ar e' r (xs.take off ++ List.replicate len a ++ xs.drop (off + len))))]) .bad
          | none => .bad
        | _ => .bad
      | _ => .bad
    | none => .bad
  | none => .bad
omit [Mo] in
theorem zero_weak {e : Nat} {z : Value} {row : List T} {r : Row} {a : r.den} (hz : D.zero e = some z) (hrow : zeroRow D e = some row) (hra : r.ofCells (z.cells.toList.map constX) = some a) : WeakTs row (r.en a) := by
  obtain ⟨ts, hts, hw⟩ := r.ofCells_en _ a hra
  unfold zeroRow at hrow
  rw [hz] at hrow
  simp only at hrow
  split at hrow
  · rename_i hb
    cases hrow
    simp only [Bool.and_eq_true] at hb
    have hpl : z.cells.toList.all plain = true := by simpa using hb.1.1
    have h5 : (z.cells.toList.map constX).map X.enc = (z.cells.toList.map T.sc).map V.t := by
      have := ofVals_const hpl
      unfold ofVals at this
      rw [if_pos hpl] at this
      simp only [Option.some.injEq] at this
      rw [← this, List.map_map]; rfl
    rw [h5, toTs_map] at hts
    cases hts; exact hw
  · cases hrow
theorem xclear_spec (hg : Good P D) {g : XG} {o : Oper} {st : St} (ha : Agree g st.s) {t : TypeId} {ox : Operand} {x : X} (hop : o.op = .call ⟨.builtin .clear, #[ox], #[t]⟩) (hx : ev noG st.t ox = x.enc) : OutOk P o st (xclear D g t x) := by
  unfold xclear
  have hu : ∀ (n : Nat) (y z : Option (Option O)), upd (upd st.s n y) n z = upd st.s n z := by
    intro n y z; funext m; by_cases hm : m = n
    · subst hm; simp [upd_self]
    · simp [upd_ne _ _ hm]
  split
  · rename_i e he
    split
    · rename_i z hz
      split
      · rename_i nl ob
        split
        · rename_i e' r xs hgo
          split
          · rename_i a hra
            refine outok_cond (fun hc => ?_) (fun _ => trivial)
            simp only [Bool.and_eq_true] at hc
            obtain ⟨⟨⟨h1, h2⟩, h3⟩, h4⟩ := hc
            have h4' : e' < 1000000 := by simpa using h4
            obtain ⟨row, hrow⟩ := Option.isSome_iff_exists.1 h2
            have hlen : r.len = D.size e := Nat.eq_of_beq_eq_true h3
            have hob : get st.s ob = some (.ar e' (D.size e) (xs.map r.en)) := by rw [← hlen]; exact ha.get hgo
            have := clear_ok (off := 0) (len := (xs.map r.en).length) hg hop (sliceT_spec he) h1 hrow h4' hob (.inl ⟨nl, hx, rfl, rfl⟩)
            have := this.weakAr (n := ob) (rows' := (List.replicate xs.length a).map r.en) (upd_self _ _ _) (by simp) (fun i r' hi => by
              rw [List.map_replicate] at hi
              obtain ⟨hi1, hi2⟩ := List.getElem?_eq_some_iff.1 hi
              rw [List.getElem_replicate] at hi2
              refine ⟨row, ?_, hi2 ▸ zero_weak hz hrow hra⟩
              rw [List.take_zero, List.nil_append, Nat.zero_add, List.drop_length, List.append_nil, List.getElem?_replicate, if_pos (by simpa using hi1)])
            rw [hu, ← hlen] at this
            exact this
          · trivial
        · trivial
      · rename_i ob off len
        split
        · rename_i e' r xs hgo
          split
          · rename_i a hra
            refine outok_cond (fun hc => ?_) (fun _ => trivial)
            simp only [Bool.and_eq_true] at hc
            obtain ⟨⟨⟨h1, h2⟩, h3⟩, h4⟩ := hc
            have h4' : e' < 1000000 := by simpa using h4
            obtain ⟨row, hrow⟩ := Option.isSome_iff_exists.1 h2
            have hlen : r.len = D.size e := Nat.eq_of_beq_eq_true h3
            have hob : get st.s ob = some (.ar e' (D.size e) (xs.map r.en)) := by rw [← hlen]; exact ha.get hgo
            have := clear_ok (off := off) (len := len) hg hop (sliceT_spec he) h1 hrow h4' hob (.inr hx)
            have := this.weakAr (n := ob) (rows' := (xs.take off ++ List.replicate len a ++ xs.drop (off + len)).map r.en) (upd_self _ _ _) (by simp) (fun i r' hi => by
              rw [List.map_append, List.map_append, List.map_take, List.map_drop, List.map_replicate] at hi
              rw [List.append_assoc, List.getElem?_append] at hi ⊢
              split at hi
              · rename_i hlt
                rw [if_pos hlt]
                exact ⟨r', hi, WeakTs.refl _⟩
              · rename_i hge
                rw [if_neg hge]
                rw [List.getElem?_append] at hi ⊢
                rw [List.length_replicate] at hi ⊢
                split at hi
                · rename_i hlt
                  rw [if_pos hlt]
                  rw [List.getElem?_replicate, if_pos hlt] at hi ⊢
                  cases hi
                  exact ⟨row, rfl, zero_weak hz hrow hra⟩
                · rename_i hge2
                  rw [if_neg hge2]
                  exact ⟨r', hi, WeakTs.refl _⟩)
            rw [hu, ← hlen] at this
            exact this
          · trivial
        · trivial
      · trivial
    · trivial
  · trivial

/-! the rest -/
def xpick (q : Bool) (a b : X) : X :=
  match a, b with
  | .b p, .b r => .b (cond q p r)
  | a, b => cond q a b
omit [Mo] in
theorem xpick_enc (q : Bool) (a b : X) : (xpick q a b).enc = cond q a.enc b.enc := by
  unfold xpick
  split
  · cases q <;> rfl
  · cases q <;> rfl

/-- a slice of which it isn't known whether it is nil, held against nil -/
def xnilq (D : Dec) (g : XG) (op : BinOp) (t : TypeId) (x y : X) : Out :=
  cond (isNilX y && (sliceT (D.und t)).isSome) (match op with
    | .eql => (match x with
      | .fz .u _ xs => .nilq xs.isEmpty (.b true) (.b false)
      | .sl .u o => (match gx g o with | some (.ar _ _ xs) => .nilq xs.isEmpty (.b true) (.b false) | _ => .bad)
      | .sw o _ len => cond (isAr (gx g o)) (.nilq (Nat.beq len 0) (.b true) (.b false)) .bad
      | _ => .bad)
    | .neq => (match x with
      | .fz .u _ xs => .nilq xs.isEmpty (.b false) (.b true)
      | .sl .u o => (match gx g o with | some (.ar _ _ xs) => .nilq xs.isEmpty (.b false) (.b true) | _ => .bad)
      | .sw o _ len => cond (isAr (gx g o)) (.nilq (Nat.beq len 0) (.b false) (.b true)) .bad
      | _ => .bad)
    | _ => .bad) .bad
omit [Mo] in
theorem slNe_run {t e : TypeId} {w : World} {ox oy : Operand} {ad : Option Addr} {len cap : Nat} (hu : P.underlying t = some (.slice e)) :
    ((do eqGuard .neq t ox oy (.slice ad len cap) (.slice none 0 0); binOp .neq t (.slice ad len cap) (.slice none 0 0) : Sem Value)).run P w = .ok (.bool (!isNil (.slice ad len cap))) w := by
  have := equal_nil (w := w) (P := P) (t := t) (x := .slice ad len cap) (c := .slice none 0 0) hu rfl
  have hgd : (eqGuard .neq t ox oy (.slice ad len cap) (.slice none 0 0)).run P w = .ok () w := guard_plain (by simp) (by simp)
  rw [Sem.run_bind, hgd]
  simp only [Result.andThen_ok, binOp]
  rw [Sem.run_bind, this]; rfl
theorem nilq_ok (hg : Good P D) {o : Oper} {st : St} {op : BinOp} {t q : TypeId} {ox oy : Operand} {x : V} {c p : Bool} (hop : o.op = .binOp op t ox oy q) (hp : (op = .eql ∧ p = true) ∨ (op = .neq ∧ p = false)) (hs : (sliceT (D.und t)).isSome = true)
    (hx : ev noG st.t ox = x) (hy : ev noG st.t oy = .t (.sc (.slice none 0 0)))
    (hsem : ∀ (B : Base) (F : Nat → Prop) (loc : Nat → Option Loc) (w : World) (tmps : Array Value), Rel noG B F loc st tmps w → ∀ v, RelV w F loc x v → (∃ a n k, v = .slice a n k) ∧ (isNil v = true → c = true)) : OkD P o st c (vB p) (vB !p) := by
  intro B F loc a w hR
  obtain ⟨e, he⟩ := Option.isSome_iff_exists.1 hs
  have hu := (hg.und t _ (sliceT_spec he)).1
  have hvx := ev_rel hR ox
  have hvy := ev_rel hR oy
  rw [hx] at hvx
  rw [hy] at hvy
  obtain ⟨⟨ad, n, k, hv⟩, hn⟩ := hsem B F loc w _ hR _ hvx
  have hv2 := relV_sc hvy
  have hb : ∀ b, RelV w F loc (vB b) (.bool b) := fun b => .t _ _ (.sc _ rfl)
  rcases hp with ⟨rfl, rfl⟩ | ⟨rfl, rfl⟩
  · refine ⟨.bool (isNil (.slice ad n k)), ?_, ?_⟩
    · simp only [execOp, hop]
      rw [hv, hv2]
      have h := slEq_run (w := w) (ox := ox) (oy := oy) (ad := ad) (len := n) (cap := k) hu
      rw [Sem.run_bind, h]
      rfl
    · cases hnil : isNil (.slice ad n k) with
      | true => exact .inl ⟨hn (by rw [hv]; exact hnil), hb _⟩
      | false => exact .inr (hb _)
  · refine ⟨.bool (!isNil (.slice ad n k)), ?_, ?_⟩
    · simp only [execOp, hop]
      rw [hv, hv2]
      have h := slNe_run (w := w) (ox := ox) (oy := oy) (ad := ad) (len := n) (cap := k) hu
      rw [Sem.run_bind, h]
      rfl
    · cases hnil : isNil (.slice ad n k) with
      | true => exact .inl ⟨hn (by rw [hv]; exact hnil), hb _⟩
      | false => exact .inr (hb _)
theorem xnilq_spec (hg : Good P D) {g : XG} {o : Oper} {st : St} (ha : Agree g st.s) {op : BinOp} {t q : TypeId} {ox oy : Operand} {x y : X} (hop : o.op = .binOp op t ox oy q) (hx : ev noG st.t ox = x.enc) (hy : ev noG st.t oy = y.enc) :
    OutOk P o st (xnilq D g op t x y) := by
  unfold xnilq
  refine outok_cond (fun hc => ?_) (fun _ => trivial)
  simp only [Bool.and_eq_true] at hc
  obtain rfl := isNilX_spec hc.1
  have hy' : ev noG st.t oy = .t (.sc (.slice none 0 0)) := by rw [hy]; simp [X.enc, plain]
  have fz : ∀ {r : Row} {xs : List r.den}, ∀ (B : Base) (F : Nat → Prop) (loc : Nat → Option Loc) (w : World) (tmps : Array Value), Rel noG B F loc st tmps w → ∀ v, RelV w F loc (X.enc (.fz .u r xs)) v → (∃ a n k, v = .slice a n k) ∧ (isNil v = true → xs.isEmpty = true) := by
    intro r xs B F loc w tmps _ v hv
    cases hv with
    | gone _ o _ hx _ => cases hx
    | t _ _ h =>
      obtain ⟨h1, _, _, h4⟩ := relT_fz_nil h
      refine ⟨h1, fun hn => ?_⟩
      cases xs with
      | nil => rfl
      | cons x xs => rw [h4 (by simp)] at hn; cases hn
  have sl : ∀ {n : Nat} {e : TypeId} {r : Row} {xs : List r.den}, gx g n = some (.ar e r xs) → ∀ (B : Base) (F : Nat → Prop) (loc : Nat → Option Loc) (w : World) (tmps : Array Value), Rel noG B F loc st tmps w → ∀ v, RelV w F loc (X.enc (.sl .u n)) v → (∃ a n k, v = .slice a n k) ∧ (isNil v = true → xs.isEmpty = true) := by
    intro n e r xs hgx B F loc w tmps hR v hv
    obtain ⟨b, cap, cells, hl, _⟩ := hR.s.row (ha.get hgx)
    obtain ⟨rfl, _, _, h0⟩ := relV_sl hv hl
    refine ⟨⟨_, _, _, rfl⟩, fun hn => ?_⟩
    cases b with
    | none => have := (h0 rfl).1; cases xs with | nil => rfl | cons => simp at this
    | some b => cases hn
  have sw : ∀ {n off len : Nat}, isAr (gx g n) = true → ∀ (B : Base) (F : Nat → Prop) (loc : Nat → Option Loc) (w : World) (tmps : Array Value), Rel noG B F loc st tmps w → ∀ v, RelV w F loc (X.enc (.sw n off len)) v → (∃ a n k, v = .slice a n k) ∧ (isNil v = true → Nat.beq len 0 = true) := by
    intro n off len h B F loc w tmps hR v hv
    obtain ⟨e, sz, rows, hgx⟩ := isAr_spec ha h
    obtain ⟨b, cap, cells, hl, _⟩ := hR.s.row hgx
    obtain ⟨a, rfl, hle, h1, _⟩ := relV_sw hv hl
    refine ⟨⟨_, _, _, rfl⟩, fun hn => ?_⟩
    cases len with
    | zero => rfl
    | succ m =>
      obtain ⟨gg, _, rfl⟩ := h1 (by omega)
      cases hn
  split
  · split
    · exact nilq_ok hg hop (.inl ⟨rfl, rfl⟩) hc.2 hx hy' fz
    · split
      · rename_i hgx; exact nilq_ok hg hop (.inl ⟨rfl, rfl⟩) hc.2 hx hy' (sl hgx)
      · trivial
    · exact outok_cond (fun h => nilq_ok hg hop (.inl ⟨rfl, rfl⟩) hc.2 hx hy' (sw h)) (fun _ => trivial)
    · trivial
  · split
    · exact nilq_ok hg hop (.inr ⟨rfl, rfl⟩) hc.2 hx hy' fz
    · split
      · rename_i hgx; exact nilq_ok hg hop (.inr ⟨rfl, rfl⟩) hc.2 hx hy' (sl hgx)
      · trivial
    · exact outok_cond (fun h => nilq_ok hg hop (.inr ⟨rfl, rfl⟩) hc.2 hx hy' (sw h)) (fun _ => trivial)
    · trivial
  · trivial
/-! structs held against each other -/
def xeqF (D : Dec) (xs ys : List X) : List Field → Option Bool
  | [] => some true
  | f :: fs => cond (f.name == "_") none (match D.und f.type, xs[f.offset]?, ys[f.offset]? with
    | some (.int _), some (.i k a), some (.i k' b) => if k = k' then (match xeqF D xs ys fs with | some q => some ((a == b) && q) | none => none) else none
    | some .bool, some (.b a), some (.b b) => (match xeqF D xs ys fs with | some q => some ((a == b) && q) | none => none)
    | some .string, some (.s a), some (.s b) => (match xeqF D xs ys fs with | some q => some ((a.toList == b.toList) && q) | none => none)
    | _, _, _ => none)
def isAgX : X → Bool | .ag _ => true | _ => false
def xeqS (D : Dec) (op : BinOp) (t : TypeId) (x y : X) : Out :=
  match D.und t, x, y with
  | some (.struct fs), .ag xs, .ag ys => cond (D.peq t) (match op, xeqF D xs ys fs.toList with
    | .eql, some q => okB q
    | .neq, some q => okB (!q)
    | _, _ => .bad) .bad
  | _, _, _ => .bad
omit [Mo] in
theorem eqFields_cons {w : World} {n : Nat} {xs ys : Array Value} {f : Field} {fs : List Field} {a b : Value} {c q : Bool} (hn : ¬ f.name = "_") (ha : (part f.type xs f.offset).run P w = .ok a w) (hb : (part f.type ys f.offset).run P w = .ok b w)
    (hc : (Op.equalIn n f.type a b).run P w = .ok c w) (hq : (Op.eqFields n xs ys fs).run P w = .ok q w) : (Op.eqFields n xs ys (f :: fs)).run P w = .ok (c && q) w := by
  rw [Op.eqFields, if_pos hn]
  simp only [Sem.run_bind, ha, hb, hc, Result.andThen_ok]
  cases c
  · simp
  · simp [hq]
omit [Mo] in
theorem xeqF_run (hg : Good P D) {w : World} {F : Nat → Prop} {loc : Nat → Option Loc} {n : Nat} {xs ys : List X} {vs ws : List Value} {val wal : Nat → Value}
    (hl : (xs.map X.enc).length = vs.length) (hv : ∀ j, j < (xs.map X.enc).length → vs[j]? = some (val j)) (hr : ∀ (j : Nat) (x : V), (xs.map X.enc)[j]? = some x → RelV w F loc x (val j))
    (hl' : (ys.map X.enc).length = ws.length) (hv' : ∀ j, j < (ys.map X.enc).length → ws[j]? = some (wal j)) (hr' : ∀ (j : Nat) (x : V), (ys.map X.enc)[j]? = some x → RelV w F loc x (wal j)) :
    ∀ (fs : List Field) (q : Bool), xeqF D xs ys fs = some q → (Op.eqFields (n + 1) vs.toArray ws.toArray fs).run P w = .ok q w
  | [], q, h => by cases h; rfl
  | f :: fs, q, h => by
    unfold xeqF at h
    cases hn : (f.name == "_") with
    | true => rw [hn] at h; cases h
    | false =>
      rw [hn] at h
      simp only [cond_false] at h
      have hn' : ¬ f.name = "_" := by simpa using hn
      have go : ∀ {d : TypeDesc} {x y : X} {v u : Value}, D.und f.type = some d → d.isRow = false → xs[f.offset]? = some x → ys[f.offset]? = some y → x.enc = .t (.sc v) → y.enc = .t (.sc u) →
          (part f.type vs.toArray f.offset).run P w = .ok v w ∧ (part f.type ws.toArray f.offset).run P w = .ok u w := by
        intro d x y v u hu hd hx hy ex ey
        constructor
        · obtain ⟨z, hz, hr2⟩ := part_run (F := F) (loc := loc) hg (t := f.type) (cells := xs.map X.enc) (off := f.offset) (v := x.enc) (by simp [readV, hu, hd, hx]) hl hv hr
          rw [ex] at hr2; rw [relV_sc hr2] at hz; exact hz
        · obtain ⟨z, hz, hr2⟩ := part_run (F := F) (loc := loc) hg (t := f.type) (cells := ys.map X.enc) (off := f.offset) (v := y.enc) (by simp [readV, hu, hd, hy]) hl' hv' hr'
          rw [ey] at hr2; rw [relV_sc hr2] at hz; exact hz
      split at h
      · rename_i k0 k a k' b hu hx hy
        split at h
        · rename_i hk
          subst hk
          split at h
          · rename_i q' hq
            cases h
            obtain ⟨h1, h2⟩ := go hu rfl hx hy rfl rfl
            exact eqFields_cons hn' h1 h2 (run_equalIn_int w n f.type k k0 a b (hg.und _ _ hu).1) (xeqF_run hg hl hv hr hl' hv' hr' fs q' hq)
          · cases h
        · cases h
      · rename_i a b hu hx hy
        split at h
        · rename_i q' hq
          cases h
          obtain ⟨h1, h2⟩ := go hu rfl hx hy rfl rfl
          exact eqFields_cons hn' h1 h2 (equalIn_bool n (hg.und _ _ hu).1) (xeqF_run hg hl hv hr hl' hv' hr' fs q' hq)
        · cases h
      · rename_i a b hu hx hy
        split at h
        · rename_i q' hq
          cases h
          obtain ⟨h1, h2⟩ := go hu rfl hx hy rfl rfl
          exact eqFields_cons hn' h1 h2 (run_equalIn_string w n f.type a b (hg.und _ _ hu).1) (xeqF_run hg hl hv hr hl' hv' hr' fs q' hq)
        · cases h
      · cases h
omit [Mo] in
theorem xeqS_run (hg : Good P D) {w : World} {F : Nat → Prop} {loc : Nat → Option Loc} {t : TypeId} {ox oy : Operand} {xs ys : List X} {fs : Array Field} {a b : Value} {q : Bool} (hu : D.und t = some (.struct fs)) (hp : D.peq t = true) (hq : xeqF D xs ys fs.toList = some q)
    (ha : RelV w F loc (X.enc (.ag xs)) a) (hb : RelV w F loc (X.enc (.ag ys)) b) :
    ((do eqGuard .eql t ox oy a b; binOp .eql t a b : Sem Value)).run P w = .ok (.bool q) w ∧ ((do eqGuard .neq t ox oy a b; binOp .neq t a b : Sem Value)).run P w = .ok (.bool !q) w := by
  rw [X.enc, encL_map] at ha hb
  obtain ⟨vs, val, rfl, hl, hv, hr⟩ := relV_ag ha
  obtain ⟨ws, wal, rfl, hl', hv', hr'⟩ := relV_ag hb
  obtain ⟨h1, h2⟩ := hg.peq t hp
  have hu' := (hg.und t _ hu).1
  have hf : P.fieldsOf t = fs := by simp [Program.fieldsOf, hu']
  have he := run_equalIn_agg w 9999 t vs.toArray ws.toArray (by rw [hf]; exact hu') h1
  rw [hf, xeqF_run (n := 9998) hg hl hv hr hl' hv' hr' _ _ hq] at he
  constructor
  · rw [Sem.run_bind, run_eqGuard_agg w .eql t ox oy _ _ h2]
    simp only [Result.andThen_ok]
    rw [run_eql_struct, he]; rfl
  · rw [Sem.run_bind, run_eqGuard_agg w .neq t ox oy _ _ h2]
    simp only [Result.andThen_ok]
    rw [run_neq_struct, he]; rfl
theorem xeqS_spec (hg : Good P D) {o : Oper} {st : St} {op : BinOp} {t q : TypeId} {ox oy : Operand} {x y : X} (hop : o.op = .binOp op t ox oy q) (hx : ev noG st.t ox = x.enc) (hy : ev noG st.t oy = y.enc) :
    OutOk P o st (xeqS D op t x y) := by
  unfold xeqS
  split
  · rename_i fs xs ys hu
    refine outok_cond (fun hp => ?_) (fun _ => trivial)
    split
    · rename_i r hq
      refine OkV.pure fun B F loc a w hR => ?_
      have hvx := ev_rel hR ox
      have hvy := ev_rel hR oy
      rw [hx] at hvx
      rw [hy] at hvy
      refine ⟨.bool r, ?_, .t _ _ (.sc _ rfl)⟩
      simp only [execOp, hop]
      rw [Sem.run_bind, (xeqS_run hg hu hp hq hvx hvy).1]; rfl
    · rename_i r hq
      refine OkV.pure fun B F loc a w hR => ?_
      have hvx := ev_rel hR ox
      have hvy := ev_rel hR oy
      rw [hx] at hvx
      rw [hy] at hvy
      refine ⟨.bool !r, ?_, .t _ _ (.sc _ rfl)⟩
      simp only [execOp, hop]
      rw [Sem.run_bind, (xeqS_run hg hu hp hq hvx hvy).2]; rfl
    · trivial
  · trivial
/-! maps -/
def keyX : (kt : KTy) → X → Option kt.den
  | .s, .s b => some b
  | .i k, .i k' n => if k' = k then some n else none
  | _, _ => none
omit [Mo] in
theorem keyX_enc {kt : KTy} {x : X} {k : kt.den} (h : keyX kt x = some k) : x.enc = .t (.sc (kt.val k)) := by
  unfold keyX at h
  split at h
  · cases h; rfl
  · split at h
    · rename_i e; cases h; subst e; rfl
    · cases h
  · cases h
omit [Mo] in
theorem key_is : ∀ (kt : KTy) (k : kt.den), Go.MapKept.IsKey kt.desc (kt.val k)
  | .s, _ => trivial
  | .i _, _ => rfl
omit [Mo] in
theorem keq_val : ∀ (kt : KTy) (a b : kt.den), keq (kt.val a) (kt.val b) = kt.keq a b
  | .s, _, _ => rfl
  | .i _, _, _ => rfl
omit [Mo] in
theorem plain_key : ∀ (kt : KTy) (k : kt.den), plain (kt.val k) = true
  | .s, _ => rfl
  | .i _, _ => rfl
def xkey : (kt : KTy) → kt.den → X
  | .s, b => .s b
  | .i k, n => .i k n
omit [Mo] in
theorem xkey_enc : ∀ (kt : KTy) (k : kt.den), (xkey kt k).enc = .t (.sc (kt.val k))
  | .s, _ => rfl
  | .i _, _ => rfl
omit [Mo] in
theorem mget_en (t : MT) (k : t.kt.den) : ∀ (es : List (t.kt.den × t.r.den)), mget keq (t.en es) (t.kt.val k) = (mget t.kt.keq es k).map t.r.en
  | [] => rfl
  | x :: es => by
    have ih := mget_en t k es
    unfold MT.en at ih ⊢
    simp only [List.map_cons, mget, keq_val]
    cases t.kt.keq x.1 k
    · exact ih
    · rfl
omit [Mo] in
theorem mset_en (t : MT) (k : t.kt.den) (y : t.r.den) : ∀ (es : List (t.kt.den × t.r.den)), t.en (mset t.kt.keq es k y) = mset keq (t.en es) (t.kt.val k) (t.r.en y)
  | [] => rfl
  | x :: es => by
    have ih := mset_en t k y es
    unfold MT.en at ih ⊢
    simp only [List.map_cons, mset, keq_val]
    cases t.kt.keq x.1 k
    · simp only [cond_false, List.map_cons, ih]
    · rfl
omit [Mo] in
theorem minsI_perm {α : Type} (k : Int) (v : α) : ∀ (es : List (Int × α)), (minsI k v es).Perm ((k, v) :: es)
  | [] => List.Perm.refl _
  | x :: l => by
    unfold minsI
    cases decide (k < x.1) with
    | true => exact List.Perm.refl _
    | false => exact (List.Perm.cons x (minsI_perm k v l)).trans (List.Perm.swap _ _ _)
omit [Mo] in
theorem mset_none {κ α : Type} {eq : κ → κ → Bool} {k : κ} (v : α) : ∀ {es : List (κ × α)}, mget eq es k = none → mset eq es k v = es ++ [(k, v)]
  | [], _ => rfl
  | x :: l, h => by
    unfold mget at h
    unfold mset
    cases hq : eq x.1 k with
    | true => rw [hq] at h; cases h
    | false => rw [hq] at h; rw [cond_false, mset_none v h]; rfl
omit [Mo] in
theorem put_perm : ∀ (t : MT) (es : t.den) (k : t.kt.den) (y : t.r.den), (mset t.kt.keq es k y).Perm (t.put es k y)
  | ⟨.s, _, _⟩, es, k, y => List.Perm.refl _
  | ⟨.i _, _, _⟩, es, k, y => by
    show (mset iEq es k y).Perm (mputI es k y)
    unfold mputI
    cases hg : mget iEq es k with
    | some _ => exact List.Perm.refl _
    | none =>
      rw [mset_none y hg]
      exact (List.perm_append_comm (l₁ := es) (l₂ := [(k, y)])).trans (minsI_perm k y es).symm
omit [Mo] in
theorem put_en (t : MT) (k : t.kt.den) (y : t.r.den) (es : t.den) : (mset keq (t.en es) (t.kt.val k) (t.r.en y)).Perm (t.en (t.put es k y)) := by
  rw [← mset_en t k y es]
  unfold MT.en
  exact (put_perm t es k y).map _
omit [Mo] in
theorem mdel_en (t : MT) (k : t.kt.den) : ∀ (es : List (t.kt.den × t.r.den)), t.en (mdel t.kt.keq es k) = mdel keq (t.en es) (t.kt.val k)
  | [] => rfl
  | x :: es => by
    have ih := mdel_en t k es
    unfold MT.en at ih ⊢
    simp only [List.map_cons, mdel, keq_val]
    cases t.kt.keq x.1 k
    · simp only [cond_false, List.map_cons, ih]
    · rfl
def mapT : Option TypeDesc → Option (TypeId × TypeId) | some (.map k e) => some (k, e) | _ => none
omit [Mo] in
theorem mapT_spec {o : Option TypeDesc} {k e : TypeId} (h : mapT o = some (k, e)) : o = some (.map k e) := by
  unfold mapT at h
  split at h
  · cases h; rfl
  · cases h
def ktOf : Option TypeDesc → Option KTy | some .string => some .s | some (.int k) => some (.i k) | _ => none
def ktIs (k : KTy) (o : Option TypeDesc) : Bool := match ktOf o with | some k' => decide (k' = k) | none => false
omit [Mo] in
theorem ktIs_spec {k : KTy} {o : Option TypeDesc} (h : ktIs k o = true) : o = some k.desc := by
  unfold ktIs at h
  split at h
  · rename_i k' hk
    have := of_decide_eq_true h
    subst this
    unfold ktOf at hk
    split at hk
    · cases hk; rfl
    · cases hk; rfl
    · cases hk
  · cases h
def isRowT : Option TypeDesc → Bool | some d => d.isRow | none => false
/-- a map's value, typed -/
def xval (t : MT) (a : t.r.den) : X := cond t.ag (.ag (t.r.cells a)) (match t.r.cells a with | [x] => x | _ => .dead)
omit [Mo] in
theorem relV_t {w : World} {F : Nat → Prop} {loc : Nat → Option Loc} {x : T} {v : Value} (h : RelV w F loc (.t x) v) : RelT w F x v := by
  cases h with
  | gone _ o _ hx _ => cases hx
  | t _ _ h => exact h
omit [Mo] in
theorem xval_rel {w : World} {F : Nat → Prop} {loc : Nat → Option Loc} {t : MT} {a : t.r.den} {v : Value} (h : MapV w F t.ag (t.r.en a) v) : RelV w F loc (xval t a).enc v := by
  unfold MapV at h
  unfold xval
  have hc := t.r.cells_enc a
  split at h
  · rename_i e
    rw [e]
    obtain ⟨cs, rfl, hl, hr⟩ := h
    simp only [cond_true, X.enc, encL_map]
    rw [hc]
    have := RelV.ag (w := w) (F := F) (loc := loc) ((t.r.en a).map V.t) cs.toList (fun j => cs.toList.getD j undef) (by simpa using hl.symm) (fun j hj => by
      have hj' : j < cs.size := by rw [hl]; simpa using hj
      simp [List.getD, hj']) (fun j x hj => by
      rw [List.getElem?_map] at hj
      obtain ⟨y, hy, rfl⟩ := Option.map_eq_some_iff.1 hj
      obtain ⟨u, hu, _, hrel⟩ := hr j y hy
      have : cs.toList.getD j undef = u := by simp [List.getD, hu]
      rw [this]
      exact .t _ _ hrel)
    simpa using this
  · rename_i e
    have e' : t.ag = false := by rwa [Bool.not_eq_true] at e
    rw [e', cond_false]
    obtain ⟨x, hx, hrel⟩ := h
    rw [hx] at hc
    cases hcs : t.r.cells a with
    | nil => rw [hcs] at hc; simp at hc
    | cons y l =>
      cases l with
      | nil =>
        rw [hcs] at hc
        simp only [List.map_cons, List.map_nil, List.cons.injEq, and_true] at hc
        simp only []
        rw [hc]
        exact .t _ _ hrel
      | cons z l => rw [hcs] at hc; simp at hc
theorem mapV_of {B : Base} {w : World} {F : Nat → Prop} {loc : Nat → Option Loc} {s : Store} (hS : RelS noG B w F loc s) {g : XG} (ha : Agree g s) {x : X} {v : Value} {r : Row} {y : r.den} (hs : xsolid g x = true) (hv : RelV w F loc x.enc v) (hy : r.ofCells (xcells x) = some y) : MapV w F (isAgX x) (r.en y) v := by
  obtain ⟨h1, h2⟩ := xsolid_spec ha hs
  obtain ⟨ts, hts, hw⟩ := r.ofCells_en _ y hy
  rw [h2] at hts
  have hcs := toTs_spec hts
  cases x with
  | ag cs =>
    show MapV w F true (r.en y) v
    unfold MapV
    rw [if_pos rfl]
    obtain ⟨hl, hr⟩ := box_cells hS h1 hv
    obtain ⟨vs, val, rfl, _, _, _⟩ := relV_ag (by simpa only [X.enc] using hv)
    refine ⟨vs.toArray, rfl, ?_, fun j z hj => ?_⟩
    · rw [← hw.get.1]
      have := congrArg List.length hcs
      rw [List.length_map] at this
      rw [← this, hl]; rfl
    · obtain ⟨x', hx', hwk⟩ := hw.get.2 j z hj
      obtain ⟨u, hu, hone, hrel⟩ := hr j (.t x') (by rw [hcs, List.getElem?_map, hx']; rfl)
      exact ⟨u, hu, hone, hwk.rel (relV_t hrel)⟩
  | _ =>
    show MapV w F false (r.en y) v
    unfold MapV
    rw [if_neg (by decide)]
    rw [← h2] at hcs
    simp only [xcells, List.map_cons, List.map_nil] at hcs
    cases ts with
    | nil => cases hcs
    | cons t0 ts =>
      cases ts with
      | nil =>
        simp only [List.map_cons, List.map_nil, List.cons.injEq, and_true] at hcs
        rw [hcs] at hv
        generalize r.en y = l at hw ⊢
        cases hw with
        | cons _ z _ zs hwk hws =>
          cases hws
          exact ⟨z, rfl, hwk.rel (relV_t hv)⟩
      | cons t1 ts => simp at hcs
def xmakeMap (D : Dec) (g : XG) (rw? : Option Row) (dst : Option Nat) (t : TypeId) : Out :=
  match dst, mapT (D.und t), rw? with
  | some d, some (kt, et), some r => match g d, ktOf (D.und kt) with
    | none, some K => .ok (.mp d) [(d, some (.mp ⟨K, isRowT (D.und et), r⟩ []))]
    | _, _ => .bad
  | _, _, _ => .bad
theorem xmakeMap_spec {g : XG} {o : Oper} {st : St} (ha : Agree g st.s) {t : TypeId} {rw? : Option Row} (hop : o.op = .makeMap t none) : OutOk P o st (xmakeMap D g rw? o.dst t) := by
  unfold xmakeMap
  split
  · rename_i d kt et r hd hm
    split
    · rename_i K hn hk
      have hfree := ha.no d hn
      intro B F loc a w hR
      refine ⟨F, upd loc d (some (.blk w.heap.size)), w.alloc (.map #[] 0), .map (some w.heap.size), _, ?_, .inl rfl, hR.s.mapNew hfree K.desc (isRowT (D.und et)), kept_alloc hR.s _, Same.upd (loc_none hR.s hfree), .mp _ _ (upd_self _ _ _)⟩
      simp only [execOp, hop]
      show ((do pure (Next.value (← Instr.makeMap t none)) : Sem Next)).run P w = _
      rw [Sem.run_bind, map_new_run]; rfl
    · trivial
  · trivial
def xmapUpdate (D : Dec) (g : XG) (t : TypeId) (m k x : X) : Out :=
  match m with
  | .mp o => match gx g o with
    | some (.mp T es) => match mapT (D.und t), keyX T.kt k, T.r.ofCells (xcells x) with
      | some (kt, _), some key, some y => cond (ktIs T.kt (D.und kt) && xsolid g x && (isAgX x == T.ag)) (.ok (.tp []) [(o, some (.mp T (T.put es key y)))]) .bad
      | _, _, _ => .bad
    | _ => .bad
  | _ => .bad
theorem xmapUpdate_spec (hg : Good P D) {g : XG} {o : Oper} {st : St} (ha : Agree g st.s) {t : TypeId} {om ok ox : Operand} {m k x : X} (hop : o.op = .mapUpdate t om ok ox) (hm : ev noG st.t om = m.enc) (hk : ev noG st.t ok = k.enc) (hx : ev noG st.t ox = x.enc) :
    OutOk P o st (xmapUpdate D g t m k x) := by
  unfold xmapUpdate
  split
  · rename_i n
    split
    · rename_i T es hgx
      split
      · rename_i kt et key y hmt hkey hy
        refine outok_cond (fun hc => ?_) (fun _ => trivial)
        simp only [Bool.and_eq_true, beq_iff_eq] at hc
        obtain ⟨⟨h1, h2⟩, h3⟩ := hc
        intro B F loc a w hR
        have hs := ha.is _ _ (gx_some hgx)
        obtain ⟨l, hl, hrel⟩ := hR.s.obs _ _ hs
        have hv := ev_rel hR ox
        rw [hx] at hv
        have hvk := ev_rel hR ok
        rw [hk, keyX_enc hkey] at hvk
        have hvm := ev_rel hR om
        rw [hm] at hvm
        cases hrel with
        | mp _ _ _ b en clock vs hb hmo =>
          have hmv := mapV_of hR.s ha h2 hv hy
          rw [h3] at hmv
          obtain ⟨w', hrun, hS', hk'⟩ := hR.s.mapSet (P := P) hl hs (hg.und t _ (mapT_spec hmt)).1 (hg.und kt _ (ktIs_spec h1)).1 (key_is T.kt key) hmv (put_en T key y es)
          refine ⟨F, loc, w', undef, .skip, ?_, .inr ⟨rfl, rfl⟩, hS', hk', Same.refl _, .tp [] [] (fun _ => undef) rfl (fun j hj => by simp at hj) (fun j x hj => by simp [encL] at hj)⟩
          have e1 := relV_mp hvm hl
          have e2 := relV_sc hvk
          simp only [execOp, hop]
          rw [e1, e2]
          simp [hrun]
      · trivial
    · trivial
  · trivial
def xmapDelete (D : Dec) (g : XG) (t t2 : TypeId) (m k : X) : Out :=
  match m with
  | .mp o => match gx g o with
    | some (.mp T es) => match mapT (D.und t), keyX T.kt k with
      | some (kt, _), some key => cond (ktIs T.kt (D.und kt) && Nat.beq kt t2) (.ok (.tp []) [(o, some (.mp T (mdel T.kt.keq es key)))]) .bad
      | _, _ => .bad
    | _ => .bad
  | _ => .bad
theorem xmapDelete_spec (hg : Good P D) {g : XG} {o : Oper} {st : St} (ha : Agree g st.s) {t t2 : TypeId} {om ok : Operand} {m k : X} (hop : o.op = .call ⟨.builtin .delete, #[om, ok], #[t, t2]⟩) (hm : ev noG st.t om = m.enc) (hk : ev noG st.t ok = k.enc) :
    OutOk P o st (xmapDelete D g t t2 m k) := by
  unfold xmapDelete
  split
  · rename_i n
    split
    · rename_i T es hgx
      split
      · rename_i kt et key hmt hkey
        refine outok_cond (fun hc => ?_) (fun _ => trivial)
        simp only [Bool.and_eq_true] at hc
        obtain ⟨h1, h2⟩ := hc
        have e0 := Nat.eq_of_beq_eq_true h2
        subst e0
        intro B F loc a w hR
        have hs := ha.is _ _ (gx_some hgx)
        obtain ⟨l, hl, hrel⟩ := hR.s.obs _ _ hs
        have hvk := ev_rel hR ok
        rw [hk, keyX_enc hkey] at hvk
        have hvm := ev_rel hR om
        rw [hm] at hvm
        cases hrel with
        | mp _ _ _ b en clock vs hb hmo =>
          obtain ⟨w', hrun, hS', hk'⟩ := hR.s.mapDel (P := P) hl hs o.type (hg.und t _ (mapT_spec hmt)).1 (hg.und kt _ (ktIs_spec h1)).1 (key_is T.kt key)
          rw [show mdel keq (T.en es) (T.kt.val key) = T.en (mdel T.kt.keq es key) from (mdel_en T key es).symm] at hS'
          refine ⟨F, loc, w', .tuple #[], _, ?_, .inl rfl, hS', hk', Same.refl _, relV_unit⟩
          have e1 := relV_mp hvm hl
          have e2 := relV_sc hvk
          simp only [execOp, hop]
          rw [← e1, ← e2] at hrun
          simp [resolve, invoke, builtin, hrun]
      · trivial
    · trivial
  · trivial
/-! maps of few entries, of pointers -/
def isI64 (k : IntKind) : Bool := decide (k = .i64)
def msB (D : Dec) (t : TypeId) : Bool := match mapT (D.und t) with
  | some (kt, et) => (match D.und kt, D.zero et with
    | some (.int k), some (.pointer none) => isI64 k && D.has et
    | _, _ => false)
  | none => false
omit [Mo] in
theorem msB_spec {t : TypeId} (h : msB D t = true) : ∃ kt et, D.und t = some (.map kt et) ∧ D.und kt = some (.int .i64) ∧ D.zero et = some (.pointer none) ∧ D.has et = true := by
  unfold msB at h
  split at h
  · rename_i kt et hm
    split at h
    · rename_i k hk hz
      rw [Bool.and_eq_true] at h
      have := of_decide_eq_true h.1
      subst this
      exact ⟨kt, et, mapT_spec hm, hk, hz, h.2⟩
    · cases h
  · cases h
def xmakeMs (D : Dec) (g : XG) (dst : Option Nat) (t : TypeId) : Out :=
  match dst with
  | some d => match g d with
    | none => cond (msB D t) (.ok (.mp d) [(d, some (.bx 3000000 []))]) .bad
    | some _ => .bad
  | none => .bad
theorem xmakeMs_spec {g : XG} {o : Oper} {st : St} (ha : Agree g st.s) {t : TypeId} (hop : o.op = .makeMap t none) : OutOk P o st (xmakeMs D g o.dst t) := by
  unfold xmakeMs
  split
  · rename_i d hd
    split
    · rename_i hn
      refine outok_cond (fun _ => ?_) (fun _ => trivial)
      have hfree := ha.no d hn
      intro B F loc a w hR
      refine ⟨F, upd loc d (some (.blk w.heap.size)), w.alloc (.map #[] 0), .map (some w.heap.size), _, ?_, .inl rfl, hR.s.alloc hfree relO_newMs, kept_alloc hR.s _, Same.upd (loc_none hR.s hfree), .mp _ _ (upd_self _ _ _)⟩
      simp only [execOp, hop]
      show ((do pure (Next.value (← Instr.makeMap t none)) : Sem Next)).run P w = _
      rw [Sem.run_bind, map_new_run]; rfl
    · trivial
  · trivial
def xmsPut (D : Dec) (g : XG) (t : TypeId) (o : Nat) (e : TypeId) (cells : List X) (k x : X) : Out :=
  cond (!(Nat.blt e 3000000) && msB D t && xone g x) (match k with
    | .i kk n => cond (isI64 kk) (match cells with
      | [] => .ok (.tp []) [(o, some (.bx e [.i .i64 n, x]))]
      | [.i k1 n1, x1] => cond (isI64 k1) (.cs (n1 == n) (.tp []) [(o, some (.bx e [.i .i64 n, x]))] (.tp []) [(o, some (.bx e [.i .i64 n1, x1, .i .i64 n, x]))]) .bad
      | _ => .bad) .bad
    | _ => .bad) .bad
omit [Mo] in
theorem isI64_spec {k : IntKind} (h : isI64 k = true) : k = .i64 := of_decide_eq_true h
omit [Mo] in
theorem relV_int0 {w : World} {F : Nat → Prop} {loc : Nat → Option Loc} {k : IntKind} {n : Int} {v : Value} (h : RelV w F loc (X.enc (.i k n)) v) : v = .int k n := relV_sc h
theorem ms_put (hg : Good P D) {o : Oper} {st : St} {t : TypeId} {om ok ox : Operand} {q : Nat} {e : TypeId} {xs xs' : List V} {n : Int} {x : X} (hop : o.op = .mapUpdate t om ok ox) (hm : ev noG st.t om = .mp q) (hk : ev noG st.t ok = X.enc (.i .i64 n)) (hx : ev noG st.t ox = x.enc)
    (hq : st.s q = some (some (.bx e xs))) (he : Nat.blt e 3000000 = false) (ht : msB D t = true) (h1 : oneV st.s x.enc = true)
    (hput : ∀ (w : World) (F : Nat → Prop) (loc : Nat → Option Loc) (vs : List (Value × Value)) (v : Value), MsR w F loc xs vs → RelV w F loc x.enc v → v.oneCell' = true → MsR w F loc xs' (mset keq vs (.int .i64 n) v)) :
    OkV P noG o st vU (upd st.s q (some (some (.bx e xs')))) := by
  obtain ⟨kt, et, hmt, hkt, _, _⟩ := msB_spec ht
  intro B F loc a w hR
  have hv := ev_rel hR ox
  rw [hx] at hv
  have hvk := ev_rel hR ok
  rw [hk] at hvk
  have hvm := ev_rel hR om
  rw [hm] at hvm
  obtain ⟨b, en, clock, vs, hl, hb, hs, hen, hks, hr⟩ := hR.s.msAt hq he
  have hv1 := oneV_spec hR.s h1 hv
  have e1 := relV_mp hvm hl
  have e2 := relV_int0 hvk
  obtain ⟨es', clock', hrun, g2, g3, g4⟩ := map_update_run (P := P) (hg.und t _ hmt).1 (hg.und kt _ hkt).1 hb hs hen hks (k := .int .i64 n) rfl (a.eval ox)
  obtain ⟨hS', hk'⟩ := hR.s.msTurn hl hq he hb g2 g3 g4 (hput _ _ _ _ _ hr hv hv1)
  refine ⟨F, loc, _, undef, .skip, ?_, .inr ⟨rfl, rfl⟩, hS', hk', Same.refl _, .tp [] [] (fun _ => undef) rfl (fun j hj => by simp at hj) (fun j x hj => by simp at hj)⟩
  simp only [execOp, hop]
  rw [e1, e2]
  simp [hrun]
theorem xmsPut_spec (hg : Good P D) {g : XG} {o : Oper} {st : St} (ha : Agree g st.s) {t : TypeId} {om ok ox : Operand} {q : Nat} {e : TypeId} {cells : List X} {k x : X} (hop : o.op = .mapUpdate t om ok ox) (hm : ev noG st.t om = .mp q) (hk : ev noG st.t ok = k.enc) (hx : ev noG st.t ox = x.enc)
    (hq : gx g q = some (.bx e cells)) : OutOk P o st (xmsPut D g t q e cells k x) := by
  unfold xmsPut
  refine outok_cond (fun hc => ?_) (fun _ => trivial)
  simp only [Bool.and_eq_true, Bool.not_eq_true'] at hc
  obtain ⟨⟨he, ht⟩, h1⟩ := hc
  have h1' := xone_spec ha h1
  have hs := ha.is _ _ (gx_some hq)
  split
  · rename_i kk n
    refine outok_cond (fun hkk => ?_) (fun _ => trivial)
    have := isI64_spec hkk
    subst this
    split
    · refine ms_put hg hop hm hk hx hs he ht h1' fun w F loc vs v hr hv hv1 => ?_
      have := MsR.nil hr
      subst this
      exact MsR.none.cons (.t _ _ (.sc _ rfl)) rfl hv hv1
    · rename_i k1 n1 x1
      refine outok_cond (fun hk1 => ?_) (fun _ => trivial)
      have := isI64_spec hk1
      subst this
      refine ⟨fun hn => ?_, fun hn => ?_⟩
      · refine ms_put hg hop hm hk hx hs he ht h1' fun w F loc vs v hr hv hv1 => ?_
        obtain ⟨ka, va, rfl, g1, g2, g3, g4⟩ := MsR.two hr
        have := relV_int0 g1
        subst this
        have e : mset keq [((Value.int .i64 n1), va)] (.int .i64 n) v = [((Value.int .i64 n), v)] := by
          show cond (n1 == n) _ _ = _
          rw [hn]; rfl
        rw [e]
        exact MsR.none.cons (.t _ _ (.sc _ rfl)) rfl hv hv1
      · refine ms_put hg hop hm hk hx hs he ht h1' fun w F loc vs v hr hv hv1 => ?_
        obtain ⟨ka, va, rfl, g1, g2, g3, g4⟩ := MsR.two hr
        have := relV_int0 g1
        subst this
        have e : mset keq [((Value.int .i64 n1), va)] (.int .i64 n) v = [((Value.int .i64 n1), va), ((Value.int .i64 n), v)] := by
          show cond (n1 == n) _ _ = _
          rw [hn]; rfl
        rw [e]
        exact (MsR.none.cons (.t _ _ (.sc _ rfl)) rfl hv hv1).cons g1 g2 g3 g4
    · trivial
  · trivial
def xmsDel (D : Dec) (t t2 : TypeId) (o : Nat) (e : TypeId) (cells : List X) (k : X) : Out :=
  cond (!(Nat.blt e 3000000) && msB D t && (match mapT (D.und t) with | some (kt, _) => Nat.beq kt t2 | none => false)) (match k with
    | .i kk n => cond (isI64 kk) (match cells with
      | [] => .ok (.tp []) [(o, some (.bx e []))]
      | [.i k1 n1, x1] => cond (isI64 k1) (.cs (n1 == n) (.tp []) [(o, some (.bx e []))] (.tp []) [(o, some (.bx e [.i .i64 n1, x1]))]) .bad
      | _ => .bad) .bad
    | _ => .bad) .bad
theorem ms_del (hg : Good P D) {o : Oper} {st : St} {t t2 : TypeId} {om ok : Operand} {q : Nat} {e : TypeId} {xs xs' : List V} {n : Int} (hop : o.op = .call ⟨.builtin .delete, #[om, ok], #[t, t2]⟩) (hm : ev noG st.t om = .mp q) (hk : ev noG st.t ok = X.enc (.i .i64 n))
    (hq : st.s q = some (some (.bx e xs))) (he : Nat.blt e 3000000 = false) (ht : msB D t = true) (h2 : (match mapT (D.und t) with | some (kt, _) => Nat.beq kt t2 | none => false) = true)
    (hdel : ∀ (w : World) (F : Nat → Prop) (loc : Nat → Option Loc) (vs : List (Value × Value)), MsR w F loc xs vs → MsR w F loc xs' (mdel keq vs (.int .i64 n))) :
    OkV P noG o st vU (upd st.s q (some (some (.bx e xs')))) := by
  obtain ⟨kt, et, hmt, hkt, _, _⟩ := msB_spec ht
  have h2' : kt = t2 := by
    rw [hmt] at h2
    exact Nat.eq_of_beq_eq_true h2
  subst h2'
  intro B F loc a w hR
  have hvk := ev_rel hR ok
  rw [hk] at hvk
  have hvm := ev_rel hR om
  rw [hm] at hvm
  obtain ⟨b, en, clock, vs, hl, hb, hs, hen, hks, hr⟩ := hR.s.msAt hq he
  have e1 := relV_mp hvm hl
  have e2 := relV_int0 hvk
  obtain ⟨es', clock', hrun, g2, g3, g4⟩ := map_delete_run (P := P) o.type (hg.und t _ hmt).1 (hg.und kt _ hkt).1 hb hs hen hks (k := .int .i64 n) rfl
  obtain ⟨hS', hk'⟩ := hR.s.msTurn hl hq he hb g2 g3 g4 (hdel _ _ _ _ hr)
  refine ⟨F, loc, _, .tuple #[], _, ?_, .inl rfl, hS', hk', Same.refl _, relV_unit⟩
  simp only [execOp, hop]
  rw [← e1, ← e2] at hrun
  simp [resolve, invoke, builtin, hrun]
theorem xmsDel_spec (hg : Good P D) {g : XG} {o : Oper} {st : St} (ha : Agree g st.s) {t t2 : TypeId} {om ok : Operand} {q : Nat} {e : TypeId} {cells : List X} {k : X} (hop : o.op = .call ⟨.builtin .delete, #[om, ok], #[t, t2]⟩) (hm : ev noG st.t om = .mp q) (hk : ev noG st.t ok = k.enc)
    (hq : gx g q = some (.bx e cells)) : OutOk P o st (xmsDel D t t2 q e cells k) := by
  unfold xmsDel
  refine outok_cond (fun hc => ?_) (fun _ => trivial)
  rw [Bool.and_eq_true, Bool.and_eq_true, Bool.not_eq_true'] at hc
  obtain ⟨⟨he, ht⟩, h2⟩ := hc
  have hs := ha.is _ _ (gx_some hq)
  split
  · rename_i kk n
    refine outok_cond (fun hkk => ?_) (fun _ => trivial)
    have := isI64_spec hkk
    subst this
    split
    · refine ms_del hg hop hm hk hs he ht h2 fun w F loc vs hr => ?_
      have := MsR.nil hr
      subst this
      exact MsR.none
    · rename_i k1 n1 x1
      refine outok_cond (fun hk1 => ?_) (fun _ => trivial)
      have := isI64_spec hk1
      subst this
      refine ⟨fun hn => ?_, fun hn => ?_⟩
      · refine ms_del hg hop hm hk hs he ht h2 fun w F loc vs hr => ?_
        obtain ⟨ka, va, rfl, g1, g2, g3, g4⟩ := MsR.two hr
        have := relV_int0 g1
        subst this
        have e : mdel keq [((Value.int .i64 n1), va)] (.int .i64 n) = [] := by
          show cond (n1 == n) _ _ = _
          rw [hn]; rfl
        rw [e]
        exact MsR.none
      · refine ms_del hg hop hm hk hs he ht h2 fun w F loc vs hr => ?_
        obtain ⟨ka, va, rfl, g1, g2, g3, g4⟩ := MsR.two hr
        have := relV_int0 g1
        subst this
        have e : mdel keq [((Value.int .i64 n1), va)] (.int .i64 n) = [((Value.int .i64 n1), va)] := by
          show cond (n1 == n) _ _ = _
          rw [hn]; rfl
        rw [e]
        exact MsR.none.cons g1 g2 g3 g4
    · trivial
  · trivial
def xmsNone (c : Bool) : X := cond c (.tp [.c (.pointer none), .b false]) (.c (.pointer none))
def xmsSome (c : Bool) (x : X) : X := cond c (.tp [x, .b true]) x
def xmsGet (D : Dec) (t : TypeId) (e : TypeId) (cells : List X) (k : X) (c : Bool) : Out :=
  cond (!(Nat.blt e 3000000) && msB D t) (match k with
    | .i kk n => cond (isI64 kk) (match cells with
      | [] => .ok (xmsNone c) []
      | [.i k1 n1, x1] => cond (isI64 k1) (.cs (n1 == n) (xmsSome c x1) [] (xmsNone c) []) .bad
      | _ => .bad) .bad
    | _ => .bad) .bad
omit [Mo] in
theorem ms_two {w : World} {F : Nat → Prop} {loc : Nat → Option Loc} {x : X} {v : Value} {q : Bool} (h : RelV w F loc x.enc v) (c : Bool) : RelV w F loc (X.enc (cond c (.tp [x, .b q]) x)) (if c then .tuple #[v, .bool q] else v) := by
  cases c with
  | false => exact h
  | true =>
    refine .tp _ [v, .bool q] (fun j => [v, Value.bool q].getD j undef) rfl (fun j hj => ?_) (fun j y hj => ?_)
    · match j, hj with
      | 0, _ => rfl
      | 1, _ => rfl
      | j + 2, hj => exact absurd (show j + 2 < 2 from hj) (by omega)
    · match j, hj with
      | 0, hj => cases hj; exact h
      | 1, hj => cases hj; exact .t _ _ (.sc _ rfl)
      | j + 2, hj => simp [encL] at hj
theorem ms_get (hg : Good P D) {o : Oper} {st : St} {t : TypeId} {om ok : Operand} {q : Nat} {e : TypeId} {xs : List V} {n : Int} {c : Bool} {y : V} (hop : o.op = .lookup t om ok c) (hm : ev noG st.t om = .mp q) (hk : ev noG st.t ok = X.enc (.i .i64 n))
    (hq : st.s q = some (some (.bx e xs))) (he : Nat.blt e 3000000 = false) (ht : msB D t = true)
    (hget : ∀ (w : World) (F : Nat → Prop) (loc : Nat → Option Loc) (vs : List (Value × Value)), MsR w F loc xs vs → RelV w F loc y (if c then .tuple #[(mget keq vs (.int .i64 n)).getD (.pointer none), .bool (mget keq vs (.int .i64 n)).isSome] else (mget keq vs (.int .i64 n)).getD (.pointer none))) :
    OkV P noG o st y st.s := by
  obtain ⟨kt, et, hmt, hkt, hz, hhas⟩ := msB_spec ht
  obtain ⟨de, hde⟩ := has_some hhas
  obtain ⟨_, i, hi, hsz, hbt, hzi⟩ := hg.und et _ hde
  refine OkV.pure fun B F loc a w hR => ?_
  have hvk := ev_rel hR ok
  rw [hk] at hvk
  have hvm := ev_rel hR om
  rw [hm] at hvm
  obtain ⟨b, en, clock, vs, hl, hb, hs, hen, hks, hr⟩ := hR.s.msAt hq he
  have e1 := relV_mp hvm hl
  have e2 := relV_int0 hvk
  have hzv : (zeroValue et).run P w = .ok (.pointer none) w := by simp [zeroValue, typeInfo, hi, hzi.trans hz]
  have hrun := map_lookup_run (P := P) c (hg.und t _ hmt).1 (hg.und kt _ hkt).1 hzv hb hen hks (k := .int .i64 n) rfl
  refine ⟨_, ?_, hget w F loc vs hr⟩
  simp only [execOp, hop]
  rw [e1, e2]
  simp [hrun]
theorem xmsGet_spec (hg : Good P D) {g : XG} {o : Oper} {st : St} (ha : Agree g st.s) {t : TypeId} {om ok : Operand} {q : Nat} {e : TypeId} {cells : List X} {k : X} {c : Bool} (hop : o.op = .lookup t om ok c) (hm : ev noG st.t om = .mp q) (hk : ev noG st.t ok = k.enc)
    (hq : gx g q = some (.bx e cells)) : OutOk P o st (xmsGet D t e cells k c) := by
  unfold xmsGet
  refine outok_cond (fun hc => ?_) (fun _ => trivial)
  simp only [Bool.and_eq_true, Bool.not_eq_true'] at hc
  obtain ⟨he, ht⟩ := hc
  have hs := ha.is _ _ (gx_some hq)
  split
  · rename_i kk n
    refine outok_cond (fun hkk => ?_) (fun _ => trivial)
    have := isI64_spec hkk
    subst this
    split
    · refine ms_get hg hop hm hk hs he ht fun w F loc vs hr => ?_
      have := MsR.nil hr
      subst this
      exact ms_two (x := .c (.pointer none)) (q := false) (.t _ _ (.sc _ rfl)) c
    · rename_i k1 n1 x1
      refine outok_cond (fun hk1 => ?_) (fun _ => trivial)
      have := isI64_spec hk1
      subst this
      refine ⟨fun hn => ?_, fun hn => ?_⟩
      · refine ms_get hg hop hm hk hs he ht fun w F loc vs hr => ?_
        obtain ⟨ka, va, rfl, g1, g2, g3, g4⟩ := MsR.two hr
        have := relV_int0 g1
        subst this
        have e : mget keq [((Value.int .i64 n1), va)] (.int .i64 n) = some va := by
          show cond (n1 == n) _ _ = _
          rw [hn]; rfl
        rw [e]
        exact ms_two (q := true) g3 c
      · refine ms_get hg hop hm hk hs he ht fun w F loc vs hr => ?_
        obtain ⟨ka, va, rfl, g1, g2, g3, g4⟩ := MsR.two hr
        have := relV_int0 g1
        subst this
        have e : mget keq [((Value.int .i64 n1), va)] (.int .i64 n) = none := by
          show cond (n1 == n) _ _ = _
          rw [hn]; rfl
        rw [e]
        exact ms_two (x := .c (.pointer none)) (q := false) (.t _ _ (.sc _ rfl)) c
    · trivial
  · trivial
/-- a map of few entries -/
def msOf (g : XG) : X → Option (Nat × TypeId × List X)
  | .mp o => match gx g o with
    | some (.bx e cells) => some (o, e, cells)
    | _ => none
  | _ => none
omit [Mo] in
theorem msOf_spec {g : XG} {m : X} {o : Nat} {e : TypeId} {cells : List X} (h : msOf g m = some (o, e, cells)) : m = .mp o ∧ gx g o = some (.bx e cells) := by
  unfold msOf at h
  split at h
  · split at h
    · rename_i hg; cases h; exact ⟨rfl, hg⟩
    · cases h
  · cases h
def xmapOf : Option XO → Option ((T : MT) × T.den)
  | some (.mp T es) => some ⟨T, es⟩
  | some (.mq T es _ _ _) => some ⟨T, es⟩
  | _ => none
omit [Mo] in
theorem xmapOf_spec {g : XG} {s : Store} (ha : Agree g s) {o : Nat} {T : MT} {es : T.den} (h : xmapOf (gx g o) = some ⟨T, es⟩) : mapOf (get s o) = some (T.kt.desc, T.ag, T.en es) := by
  unfold xmapOf at h
  split at h
  · rename_i hg; cases h; rw [ha.get hg]; rfl
  · rename_i hg; cases h; rw [ha.get hg]; rfl
  · cases h
def zeroOk (ag : Bool) : Value → Bool
  | .agg cs => ag && cs.toList.all plain
  | v => !ag && plain v
def xmapLookup (D : Dec) (g : XG) (t : TypeId) (m k : X) (c : Bool) : Out :=
  match m with
  | .mp o => match xmapOf (gx g o) with
    | some ⟨T, es⟩ => match mapT (D.und t), keyX T.kt k with
      | some (kt, et), some key => match D.zero et with
        | some z => match T.r.ofCells (z.cells.toList.map constX) with
          | some zr => cond (ktIs T.kt (D.und kt) && D.has et && zeroOk T.ag z)
              (.bnd (T.r.den × Bool) (some ((mget T.kt.keq es key).getD zr, (mget T.kt.keq es key).isSome)) fun a => (cond c (.tp [xval T a.1, .b a.2]) (xval T a.1), [])) .bad
          | none => .bad
        | none => .bad
      | _, _ => .bad
    | none => .bad
  | _ => .bad
omit [Mo] in
theorem zero_mapV {w : World} {F : Nat → Prop} {ag : Bool} {r : Row} {z : Value} {zr : r.den} (h : zeroOk ag z = true) (hz : r.ofCells (z.cells.toList.map constX) = some zr) : MapV w F ag (r.en zr) z := by
  obtain ⟨ts, hts, hw⟩ := r.ofCells_en _ zr hz
  unfold MapV
  have hpl : ∀ (cs : List Value), cs.all plain = true → (cs.map constX).map X.enc = (cs.map T.sc).map V.t := by
    intro cs hc
    rw [List.map_map, List.map_map]
    refine List.map_congr_left fun v hv => ?_
    exact constX_plain (List.all_eq_true.1 hc v hv)
  have single : zeroOk ag z = true → (∀ cs, z ≠ .agg cs) → ag = false ∧ plain z = true ∧ z.cells.toList = [z] := by
    intro h hn
    unfold zeroOk at h
    split at h
    · exact absurd rfl (hn _)
    · simp only [Bool.and_eq_true, Bool.not_eq_true'] at h
      refine ⟨h.1, h.2, ?_⟩
      cases z <;> first | rfl | exact absurd rfl (hn _)
  by_cases hc : ∃ cs, z = .agg cs
  · obtain ⟨cs, rfl⟩ := hc
    simp only [zeroOk, Bool.and_eq_true] at h
    rw [if_pos h.1]
    rw [show (Value.agg cs).cells = cs from rfl, hpl _ h.2, toTs_map] at hts
    cases hts
    refine ⟨cs, rfl, ?_, fun j x hj => ?_⟩
    · rw [← hw.get.1]; simp
    · obtain ⟨x', hx', hwk⟩ := hw.get.2 j x hj
      rw [List.getElem?_map] at hx'
      obtain ⟨u, hu, rfl⟩ := Option.map_eq_some_iff.1 hx'
      have hp : plain u = true := List.all_eq_true.1 h.2 u (List.mem_of_getElem? hu)
      exact ⟨u, by rw [← Array.getElem?_toList]; exact hu, plain_one hp, hwk.rel (.sc _ hp)⟩
  · obtain ⟨h1, h2, h3⟩ := single h fun cs e => hc ⟨cs, e⟩
    rw [h1, if_neg (by decide)]
    rw [h3, hpl [z] (by simp [h2]), toTs_map] at hts
    cases hts
    generalize r.en zr = l at hw ⊢
    cases hw with
    | cons _ q _ qs hwk hws =>
      cases hws
      exact ⟨q, rfl, hwk.rel (.sc _ h2)⟩
theorem xmapLookup_spec (hg : Good P D) {g : XG} {o : Oper} {st : St} (ha : Agree g st.s) {t : TypeId} {om ok : Operand} {m k : X} {c : Bool} (hop : o.op = .lookup t om ok c) (hm : ev noG st.t om = m.enc) (hk : ev noG st.t ok = k.enc) :
    OutOk P o st (xmapLookup D g t m k c) := by
  unfold xmapLookup
  split
  · rename_i n
    split
    · rename_i T es hgx
      split
      · rename_i kt et key hmt hkey
        split
        · rename_i z hz
          split
          · rename_i zr hzr
            refine outok_cond (fun hc => ?_) (fun _ => trivial)
            simp only [Bool.and_eq_true] at hc
            obtain ⟨⟨h1, h2⟩, h3⟩ := hc
            obtain ⟨de, hde⟩ := has_some h2
            obtain ⟨_, i, hi, hsz, hbt, hzi⟩ := hg.und et _ hde
            intro a0 ha0
            cases ha0
            refine OkV.pure fun B F loc a w hR => ?_
            have hvk := ev_rel hR ok
            rw [hk, keyX_enc hkey] at hvk
            have hvm := ev_rel hR om
            rw [hm] at hvm
            obtain ⟨b, en, clock, vs, hl, hb, hmo⟩ := hR.s.mapAt (xmapOf_spec ha hgx)
            have hzv : (zeroValue et).run P w = .ok z w := by simp [zeroValue, typeInfo, hi, hzi.trans hz]
            obtain ⟨v, hrun, hmv⟩ := hmo.look (P := P) hb c (hg.und t _ (mapT_spec hmt)).1 (hg.und kt _ (ktIs_spec h1)).1 hzv (zero_mapV (F := F) h3 hzr) (key_is T.kt key)
            have e1 := relV_mp hvm hl
            have e2 := relV_sc hvk
            rw [show mget keq (T.en es) (T.kt.val key) = (mget T.kt.keq es key).map T.r.en from mget_en T key es] at hrun hmv
            have hd : (((mget T.kt.keq es key).map T.r.en).getD (T.r.en zr)) = T.r.en ((mget T.kt.keq es key).getD zr) := by cases mget T.kt.keq es key <;> rfl
            rw [hd] at hmv
            rw [Option.isSome_map] at hrun
            have hxv := xval_rel (loc := loc) hmv
            cases c with
            | true =>
              refine ⟨.tuple #[v, .bool (mget T.kt.keq es key).isSome], ?_, ?_⟩
              · simp only [execOp, hop]
                rw [e1, e2]
                simp [hrun]
              · refine .tp _ [v, .bool (mget T.kt.keq es key).isSome] (fun j => [v, Value.bool (mget T.kt.keq es key).isSome].getD j undef) rfl (fun j hj => ?_) (fun j y hj => ?_)
                · match j, hj with
                  | 0, _ => rfl
                  | 1, _ => rfl
                  | j + 2, hj => exact absurd (show j + 2 < 2 from hj) (by omega)
                · match j, hj with
                  | 0, hj => cases hj; exact hxv
                  | 1, hj => cases hj; exact .t _ _ (.sc _ rfl)
                  | j + 2, hj => simp [encL] at hj
            | false =>
              refine ⟨v, ?_, hxv⟩
              simp only [execOp, hop]
              rw [e1, e2]
              simp [hrun]
          · trivial
        · trivial
      · trivial
    · trivial
  · trivial
def xmapLen (D : Dec) (g : XG) (t : TypeId) (x : X) : Out :=
  match x with
  | .mp o => match xmapOf (gx g o) with
    | some ⟨T, es⟩ => cond (mapT (D.und t)).isSome (okI .i64 (List.length (α := T.kt.den × T.r.den) es)) .bad
    | none => .bad
  | _ => .bad
theorem xmapLen_spec (hg : Good P D) {g : XG} {o : Oper} {st : St} (ha : Agree g st.s) {t : TypeId} {ox : Operand} {x : X} (hop : o.op = .call ⟨.builtin .len, #[ox], #[t]⟩) (hx : ev noG st.t ox = x.enc) : OutOk P o st (xmapLen D g t x) := by
  unfold xmapLen
  split
  · rename_i n
    split
    · rename_i T es hgx
      refine outok_cond (fun hc => ?_) (fun _ => trivial)
      obtain ⟨⟨kt, et⟩, hmt⟩ := Option.isSome_iff_exists.1 hc
      refine OkV.pure fun B F loc a w hR => ?_
      have hvm := ev_rel hR ox
      rw [hx] at hvm
      obtain ⟨b, en, clock, vs, hl, hb, hmo⟩ := hR.s.mapAt (xmapOf_spec ha hgx)
      have e1 := relV_mp hvm hl
      have hsz : en.size = List.length (α := T.kt.den × T.r.den) es := by
        obtain ⟨v0, hpv, hen⟩ := hmo.ents
        rw [hen.size, hpv.length_eq, hmo.al.1]
        unfold MT.en
        rw [List.length_map]
      refine ⟨goInt en.size, call_len hop ?_, by rw [hsz]; exact .t _ _ (.sc _ rfl)⟩
      rw [e1]
      simp [Builtin.len_, run_underlying (hg.und t _ (mapT_spec hmt)).1, Go.MapKept.run_getObj_map hb]
    · trivial
  · trivial
def xrangeM (D : Dec) (g : XG) (dst : Option Nat) (t : TypeId) (x : X) : Out :=
  match dst, x with
  | some d, .mp o => match g d, gx g o with
    | none, some (.mp T es) => cond (mapT (D.und t)).isSome (.ok (.it d) [(d, some (.mi o)), (o, some (.mq T es d es []))]) .bad
    | _, _ => .bad
  | _, _ => .bad
theorem xrangeM_spec (hg : Good P D) {g : XG} {o : Oper} {st : St} (ha : Agree g st.s) {t : TypeId} {ox : Operand} {x : X} (hop : o.op = .range t ox) (hx : ev noG st.t ox = x.enc) : OutOk P o st (xrangeM D g o.dst t x) := by
  unfold xrangeM
  split
  · rename_i d n hd
    split
    · rename_i T es hn hgx
      refine outok_cond (fun hc => ?_) (fun _ => trivial)
      obtain ⟨⟨kt, et⟩, hmt⟩ := Option.isSome_iff_exists.1 hc
      have hfree := ha.no d hn
      have hs := ha.is _ _ (gx_some hgx)
      intro B F loc a w hR
      have hvm := ev_rel hR ox
      rw [hx] at hvm
      obtain ⟨b, hl, hrun, hS⟩ := hR.s.mapRange (P := P) hs hfree (hg.und t _ (mapT_spec hmt)).1
      have e1 := relV_mp hvm hl
      refine ⟨F, _, _, .pointer (some ⟨w.heap.size, 0, none⟩), _, ?_, .inl rfl, hS, kept_alloc hR.s _, Same.upd (loc_none hR.s hfree), .it _ _ (upd_self _ _ _)⟩
      simp only [execOp, hop]
      rw [e1]
      simp [hrun]
    · trivial
  · trivial
def xnextM (g : XG) (x : X) : Out :=
  match x with
  | .it i => match gx g i with
    | some (.mi m) => match gx g m with
      | some (.mq T es i' rest _) => cond (Nat.beq i' i) (.any (T.kt.den × T.r.den) (.tp [.b false]) [(m, some (.mp T es))] rest
          fun j a => (.tp [.b true, xkey T.kt a.1, xval T a.2], [(m, some (.mq T es i (List.eraseIdx (α := T.kt.den × T.r.den) rest j) [a]))])) .bad
      | _ => .bad
    | _ => .bad
  | _ => .bad
theorem xnextM_spec {g : XG} {o : Oper} {st : St} (ha : Agree g st.s) {ox : Operand} {x : X} (hop : o.op = .next ox false) (hx : ev noG st.t ox = x.enc) : OutOk P o st (xnextM g x) := by
  unfold xnextM
  split
  · rename_i i
    split
    · rename_i m hgi
      split
      · rename_i T es i' rest cu hgm
        refine outok_cond (fun hc => ?_) (fun _ => trivial)
        have e0 := Nat.eq_of_beq_eq_true hc
        subst e0
        have hsi := ha.is _ _ (gx_some hgi)
        have hsm := ha.is _ _ (gx_some hgm)
        constructor
        · intro hr
          intro B F loc a w hR
          have hv := ev_rel hR ox
          rw [hx] at hv
          rcases hR.s.mapNext (P := P) hsm hsi o.type hv with ⟨_, hrun, hS⟩ | ⟨j, k, r, v1, w1, hj, _⟩
          · refine ⟨F, loc, w, .tuple #[.bool false], _, ?_, .inl rfl, hS, Kept.refl _ _, Same.refl _, ?_⟩
            · simp only [execOp, hop]
              simp [hrun]
            · refine .tp _ [.bool false] (fun j => [Value.bool false].getD j undef) rfl (fun j hj => ?_) (fun j y hj => ?_)
              · match j, hj with
                | 0, _ => rfl
                | j + 1, hj => exact absurd (show j + 1 < 1 from hj) (by omega)
              · match j, hj with
                | 0, hj => cases hj; exact .t _ _ (.sc _ rfl)
                | j + 1, hj => simp [encL] at hj
          · subst hr; simp [MT.en] at hj
        · intro hr
          intro B F loc a w hR
          have hv := ev_rel hR ox
          rw [hx] at hv
          rcases hR.s.mapNext (P := P) hsm hsi o.type hv with ⟨h0, _⟩ | ⟨j, k, r, v1, w1, hj, hrun, hmv, hk, hS, hkp⟩
          · unfold MT.en at h0; exact absurd (List.map_eq_nil_iff.1 h0) hr
          · have hj' := hj
            unfold MT.en at hj'
            rw [List.getElem?_map] at hj'
            obtain ⟨a1, ha1, he⟩ := Option.map_eq_some_iff.1 hj'
            obtain ⟨rfl, rfl⟩ := Prod.mk.inj he
            have em : ∀ {α β : Type} (g : α → β) (l : List α) (i : Nat), (l.eraseIdx i).map g = (l.map g).eraseIdx i := by
              intro α β g l
              induction l with
              | nil => intro i; rfl
              | cons x l ih => intro i; cases i with
                | zero => rfl
                | succ i => simp only [List.eraseIdx_cons_succ, List.map_cons, ih]
            refine ⟨_, _, ⟨j, a1, ha1, rfl, rfl⟩, F, loc, w1, .tuple #[.bool true, T.kt.val a1.1, v1], _, ?_, .inl rfl, ?_, hkp, Same.refl _, ?_⟩
            · simp only [execOp, hop]
              simp [hrun]
            · show RelS noG B w1 F loc (upd st.s m (some (some (.mq T.kt.desc T.ag (T.en es) i' (T.en (List.eraseIdx (α := T.kt.den × T.r.den) rest j)) (T.en [a1])))))
              have e3 : T.en (List.eraseIdx (α := T.kt.den × T.r.den) rest j) = (T.en rest).eraseIdx j := by unfold MT.en; exact em _ _ _
              rw [e3]
              exact hS
            · refine .tp _ [.bool true, T.kt.val a1.1, v1] (fun j => [Value.bool true, T.kt.val a1.1, v1].getD j undef) rfl (fun j hj => ?_) (fun j y hj => ?_)
              · match j, hj with
                | 0, _ => rfl
                | 1, _ => rfl
                | 2, _ => rfl
                | j + 3, hj => exact absurd (show j + 3 < 3 from hj) (by omega)
              · match j, hj with
                | 0, hj => cases hj; exact .t _ _ (.sc _ rfl)
                | 1, hj =>
                  cases hj
                  show RelV w1 F loc (xkey T.kt a1.1).enc (T.kt.val a1.1)
                  rw [xkey_enc]
                  exact .t _ _ (.sc _ (plain_key _ _))
                | 2, hj => cases hj; exact xval_rel hmv
                | j + 3, hj => simp [encL] at hj
      · trivial
    · trivial
  · trivial
def xentry (g : XG) (x : X) : Out :=
  match x with
  | .it i => match gx g i with
    | some (.mi m) => match gx g m with
      | some (.mq T _ i' _ cu) => match (cu : List (T.kt.den × T.r.den)) with
        | [a] => cond (Nat.beq i' i) (.ok (.tp [xkey T.kt a.1, xval T a.2]) []) .bad
        | _ => .bad
      | _ => .bad
    | _ => .bad
  | _ => .bad
theorem xentry_spec {g : XG} {o : Oper} {st : St} (ha : Agree g st.s) {ox : Operand} {x : X} (hop : o.op = .entry ox) (hx : ev noG st.t ox = x.enc) : OutOk P o st (xentry g x) := by
  unfold xentry
  split
  · rename_i i
    split
    · rename_i m hgi
      split
      · rename_i T es i' rest cu hgm
        split
        · rename_i q a0
          refine outok_cond (fun hc => ?_) (fun _ => trivial)
          have e0 := Nat.eq_of_beq_eq_true hc
          subst e0
          have hsi := ha.is _ _ (gx_some hgi)
          have hsm := ha.is _ _ (gx_some hgm)
          refine OkV.pure fun B F loc a w hR => ?_
          have hv := ev_rel hR ox
          rw [hx] at hv
          obtain ⟨v1, hrun, hmv⟩ := hR.s.mapEntry (P := P) (k := T.kt.val a0.1) (r := T.r.en a0.2) (cu := _) hsm hsi rfl hv
          refine ⟨.tuple #[T.kt.val a0.1, v1], ?_, ?_⟩
          · simp only [execOp, hop]
            simp [hrun]
          · refine .tp _ [T.kt.val a0.1, v1] (fun j => [T.kt.val a0.1, v1].getD j undef) rfl (fun j hj => ?_) (fun j y hj => ?_)
            · match j, hj with
              | 0, _ => rfl
              | 1, _ => rfl
              | j + 2, hj => exact absurd (show j + 2 < 2 from hj) (by omega)
            · match j, hj with
              | 0, hj =>
                cases hj
                show RelV w F loc (xkey T.kt a0.1).enc (T.kt.val a0.1)
                rw [xkey_enc]
                exact .t _ _ (.sc _ (plain_key _ _))
              | 1, hj => cases hj; exact xval_rel hmv
              | j + 2, hj => simp [encL] at hj
        · trivial
      · trivial
    · trivial
  · trivial
/-! ranges over texts -/
def xrange (D : Dec) (g : XG) (dst : Option Nat) (t : TypeId) (x : X) : Out :=
  match dst, x with
  | some d, .s s => match g d with
    | none => cond (isStrT (D.und t)) (.ok (.it d) [(d, some (.si s 0))]) .bad
    | some _ => .bad
  | _, _ => .bad
def xnext (g : XG) (str : Bool) (x : X) : Out :=
  match str, x with
  | true, .it o => match gx g o with
    | some (.si s pos) => .cs (decide (pos < s.size)) (.tp [.b true, .i .i64 (pos : Int), .i .i32 ((Utf8.decode s pos).1 : Int)]) [(o, some (.si s (pos + (Utf8.decode s pos).2)))] (.tp [.b false]) []
    | _ => .bad
  | _, _ => .bad
theorem xrange_spec (hg : Good P D) {g : XG} {o : Oper} {st : St} (ha : Agree g st.s) {t : TypeId} {ox : Operand} {x : X} (hop : o.op = .range t ox) (hx : ev noG st.t ox = x.enc) : OutOk P o st (xrange D g o.dst t x) := by
  unfold xrange
  split
  · rename_i d s hd
    split
    · rename_i hn
      refine outok_cond (fun hs => ?_) (fun _ => trivial)
      have hfree := ha.no d hn
      have hu := (hg.und t _ (isStrT_spec hs)).1
      intro B F loc a w hR
      have hv := ev_rel hR ox
      rw [hx] at hv
      have hv2 := relV_sc hv
      refine ⟨F, upd loc d (some (.blk w.heap.size)), w.alloc (.stringIter s 0), .pointer (some ⟨w.heap.size, 0, none⟩), _, ?_, .inl rfl, hR.s.alloc hfree (.si s 0 _ (heap_alloc_new w _)), kept_alloc hR.s _, Same.upd (loc_none hR.s hfree), .it _ _ (upd_self _ _ _)⟩
      simp only [execOp, hop]
      rw [hv2]
      simp [run_range_string (P := P) w t s hu, World.iter]
    · trivial
  · trivial
omit [Mo] in
theorem relV_it {w : World} {F : Nat → Prop} {loc : Nat → Option Loc} {o : Nat} {v : Value} {b : Nat} (h : RelV w F loc (.it o) v) (hl : loc o = some (.blk b)) : v = .pointer (some ⟨b, 0, none⟩) := by
  cases h with
  | gone _ o' _ hx ho => cases hx; rw [hl] at ho; cases ho
  | it _ b' ho => rw [hl] at ho; cases ho; rfl
omit [Mo] in
theorem next_go {w : World} {b pos : Nat} {s : ByteArray} {ty : TypeId} (hb : w.heap[b]? = some (.stringIter s pos)) (h : pos < s.size) :
    (Instr.next (.pointer (some ⟨b, 0, none⟩)) true ty).run P w = .ok (.tuple #[.bool true, .int .i64 pos, .int .i32 (Utf8.decode s pos).1]) { w with heap := w.heap.setIfInBounds b (.stringIter s (pos + (Utf8.decode s pos).2)) } := by
  simp [Instr.next, getObj, setObj, Sem.run, hb, h, goInt]
omit [Mo] in
theorem next_end {w : World} {b pos : Nat} {s : ByteArray} {ty : TypeId} (hb : w.heap[b]? = some (.stringIter s pos)) (h : ¬ pos < s.size) :
    (Instr.next (.pointer (some ⟨b, 0, none⟩)) true ty).run P w = .ok (.tuple #[.bool false]) w := by
  simp [Instr.next, getObj, Sem.run, hb, h]
theorem xnext_spec {g : XG} {o : Oper} {st : St} (ha : Agree g st.s) {str : Bool} {ox : Operand} {x : X} (hop : o.op = .next ox str) (hx : ev noG st.t ox = x.enc) : OutOk P o st (xnext g str x) := by
  unfold xnext
  split
  · rename_i n
    split
    · rename_i s pos hgx
      have hs := ha.is _ _ (gx_some hgx)
      constructor
      · intro hc B F loc a w hR
        have hlt : pos < s.size := of_decide_eq_true hc
        obtain ⟨l, hl, hr⟩ := hR.s.obs _ _ hs
        cases hr with
        | si _ _ b hb =>
          have hv := ev_rel hR ox
          rw [hx] at hv
          have hv2 := relV_it hv hl
          have hbs : b < w.heap.size := (hR.s.own _ _ b hl rfl).1
          obtain ⟨hS, hk⟩ := hR.s.turn (w' := { w with heap := w.heap.setIfInBounds b (.stringIter s (pos + (Utf8.decode s pos).2)) }) (x := .si s (pos + (Utf8.decode s pos).2)) hl rfl (by simp) rfl rfl rfl (fun k hk => by simp [Array.getElem?_setIfInBounds, Ne.symm hk]) (.si _ _ b (by simp [Array.getElem?_setIfInBounds, hbs])) (fun m h => by rw [hs] at h; cases h)
          refine ⟨F, loc, _, .tuple #[.bool true, .int .i64 pos, .int .i32 (Utf8.decode s pos).1], _, ?_, .inl rfl, hS, hk, Same.refl _, ?_⟩
          · simp only [execOp, hop]
            rw [hv2, Sem.run_bind, next_go hb hlt]; rfl
          · refine .tp _ [.bool true, .int .i64 pos, .int .i32 (Utf8.decode s pos).1] (fun j => [Value.bool true, .int .i64 pos, .int .i32 (Utf8.decode s pos).1].getD j undef) rfl (fun j hj => ?_) (fun j y hj => ?_)
            · match j, hj with
              | 0, _ => rfl
              | 1, _ => rfl
              | 2, _ => rfl
              | j + 3, hj => exact absurd (show j + 3 < 3 from hj) (by omega)
            · match j, hj with
              | 0, hj => cases hj; exact .t _ _ (.sc _ rfl)
              | 1, hj => cases hj; exact .t _ _ (.sc _ rfl)
              | 2, hj => cases hj; exact .t _ _ (.sc _ rfl)
              | j + 3, hj => simp [encL] at hj
      · intro hc B F loc a w hR
        have hlt : ¬ pos < s.size := of_decide_eq_false hc
        obtain ⟨l, hl, hr⟩ := hR.s.obs _ _ hs
        cases hr with
        | si _ _ b hb =>
          have hv := ev_rel hR ox
          rw [hx] at hv
          have hv2 := relV_it hv hl
          refine ⟨F, loc, w, .tuple #[.bool false], _, ?_, .inl rfl, hR.s, Kept.refl _ _, Same.refl _, ?_⟩
          · simp only [execOp, hop]
            rw [hv2, Sem.run_bind, next_end hb hlt]; rfl
          · refine .tp _ [.bool false] (fun j => [Value.bool false].getD j undef) rfl (fun j hj => ?_) (fun j y hj => ?_)
            · match j, hj with
              | 0, _ => rfl
              | j + 1, hj => exact absurd (show j + 1 < 1 from hj) (by omega)
            · match j, hj with
              | 0, hj => cases hj; exact .t _ _ (.sc _ rfl)
              | j + 1, hj => simp [encL] at hj
    · trivial
  · trivial
/-! an element of a package variable's array -/
def xga (D : Dec) (t : TypeId) (gl : Nat) (i : X) : Out :=
  match lkG gTab gl, D.und t, i with
  | some ⟨r, xs⟩, some (.array len e), .i _ n => cond (Nat.beq r.len (D.size e) && Nat.beq xs.length len && D.has e) (.bnd r.den (ix xs n) fun a => (.pf r a 0, [])) .bad
  | _, _, _ => .bad
omit [Mo] in
theorem flat_get {α : Type} {f : α → List T} {m : Nat} : ∀ {xs : List α} {n : Nat} {a : α}, (∀ x ∈ xs, (f x).length = m) → xs[n]? = some a → ∀ j, j < m → ((xs.map f).flatten)[n * m + j]? = (f a)[j]? ∧ n * m + j < ((xs.map f).flatten).length
  | [], n, a, _, h, _, _ => by simp at h
  | x :: xs, 0, a, hm, h, j, hj => by
    simp only [List.getElem?_cons_zero, Option.some.injEq] at h
    subst h
    have hl := hm x (by simp)
    simp only [List.map_cons, List.flatten_cons, Nat.zero_mul, Nat.zero_add, List.length_append]
    exact ⟨List.getElem?_append_left (by omega), by omega⟩
  | x :: xs, n + 1, a, hm, h, j, hj => by
    have hl := hm x (by simp)
    have ih := flat_get (xs := xs) (n := n) (a := a) (fun y hy => hm y (by simp [hy])) (by simpa using h) j hj
    simp only [List.map_cons, List.flatten_cons, List.length_append]
    have e : (n + 1) * m + j = (f x).length + (n * m + j) := by rw [hl, Nat.add_mul]; omega
    rw [e]
    exact ⟨by rw [List.getElem?_append_right (by omega), Nat.add_sub_cancel_left]; exact ih.1, by omega⟩
theorem xga_spec (hg : Good P D) {o : Oper} {st : St} {t : TypeId} {gl : Nat} {oi : Operand} {i : X} (hop : o.op = .indexAddr t (.global gl) oi) (hi : ev noG st.t oi = i.enc) : OutOk P o st (xga D t gl i) := by
  unfold xga
  split
  · rename_i r xs len e k n hgl hu
    refine outok_cond (fun hc => ?_) (fun _ => trivial)
    simp only [Bool.and_eq_true] at hc
    obtain ⟨⟨h1, h2⟩, h3⟩ := hc
    have hr := Nat.eq_of_beq_eq_true h1
    have hlen := Nat.eq_of_beq_eq_true h2
    obtain ⟨d, hd⟩ := has_some h3
    intro a ha
    obtain ⟨hn0, hget⟩ := ix_out ha
    have hlt : n.toNat < xs.length := (List.getElem?_eq_some_iff.1 hget).1
    refine OkV.pure fun B F loc ac w hR => ?_
    have hG : noG gl = some (xs.map r.en).flatten := by unfold noG; rw [hgl]
    obtain ⟨hF, val, hcell, hrel⟩ := hR.s.glob gl _ hG
    have hv := relV_sc (show RelV w F loc (.t (.sc (.int k n))) (ac.eval oi) by have := ev_rel hR oi; rw [hi] at this; exact this)
    have hfl := fun j (hj : j < r.len) => flat_get (f := r.en) (m := r.len) (xs := xs) (fun x _ => r.en_len x) hget j hj
    refine ⟨.pointer (some ⟨gl, n.toNat * r.len, none⟩), ?_, ?_⟩
    · simp only [execOp, hop]
      rw [hv]
      show ((do pure (Next.value (← Instr.indexAt t (.pointer (some ⟨gl, 0, none⟩)) (.int k n))) : Sem Next)).run P w = _
      simp [Instr.indexAt, asIntOf, run_underlying (hg.und t _ hu).1 w, hn0, show n < (len : Int) by omega, size_run hg hd, Instr.sureAddr, Addr.add, hr]
      intro h; exact h.symm
    · have := RelV.pf (w := w) (F := F) (loc := loc) (r.en a) 0 gl (n.toNat * r.len) (fun j => val (n.toNat * r.len + j)) hF (fun j hj => hcell _ (hfl j (by rw [r.en_len] at hj; exact hj)).2) (fun j x hj => hrel _ x (by
        have hj' : j < r.len := by have := (List.getElem?_eq_some_iff.1 hj).1; rw [r.en_len] at this; exact this
        rw [(hfl j hj').1]; exact hj))
      rw [show gl = gl from rfl] at this
      show RelV w F loc (V.pf (r.en a) 0) _
      simpa using this
  · trivial
def isNilqX (y : X) (x : X) : Bool := match x with | .fz .u _ _ => isNilX y | .sl .u _ => isNilX y | .sw _ _ _ => isNilX y | _ => false

/-- an operation, typed; rows: of which row the elements of a slice are -/
def xop (D : Dec) (rows : Nat → Option Row) (g : XG) (e : Operand → X) (o : Oper) : Out :=
  match o.op with
  | .move x => .ok (e x) []
  | .assign x => .ok (e x) []
  | .pick c a b => (match e c with | .b q => .ok (xpick q (e a) (e b)) [] | _ => .bad)
  | .extract x i => (match e x with | .tp l => (match l[i]? with | some v => .ok v [] | none => .bad) | _ => .bad)
  | .binOp op t x y _ => cond (isNilqX (e y) (e x)) (xnilq D g op t (e x) (e y)) (cond (isAgX (e x)) (xeqS D op t (e x) (e y)) (noB (xbin D g op t x y (e x) (e y))))
  | .unOp op _ x => noB (xun op (e x))
  | .range t x => (match mapT (D.und t) with | some _ => xrangeM D g o.dst t (e x) | none => xrange D g o.dst t (e x))
  | .next x true => xnext g true (e x)
  | .next x false => xnextM g (e x)
  | .entry x => xentry g (e x)
  | .makeMap t none => (match rows t with | some r => xmakeMap D g (some r) o.dst t | none => xmakeMs D g o.dst t)
  | .mapUpdate t m k x => (match msOf g (e m) with | some (q, t', cells) => xmsPut D g t q t' cells (e k) (e x) | none => xmapUpdate D g t (e m) (e k) (e x))
  | .lookup t m k c => (match msOf g (e m) with | some (_, t', cells) => xmsGet D t t' cells (e k) c | none => xmapLookup D g t (e m) (e k) c)
  | .call ⟨.builtin .delete, ⟨[m, k]⟩, ⟨[t, t2]⟩⟩ => (match msOf g (e m) with | some (q, t', cells) => xmsDel D t t2 q t' cells (e k) | none => xmapDelete D g t t2 (e m) (e k))
  | .convert src dst x => (match sliceT (D.und src) with
    | some _ => xbytesStr D g src dst (e x)
    | none => (match sliceT (D.und dst), e x with
      | some el, .s s => xstrBytes D g o.dst src el s
      | _, _ => noB (xconv D src dst (e x))))
  | .nilCheck x => (match xkd (e x), xnil g (e x) with | .ptr, some false => .ok (e x) [] | _, _ => .bad)
  | .fieldAddr t x f => noB (xfieldAddr D g t (e x) f)
  | .indexAddr t (.global gl) i => xga D t gl (e i)
  | .indexAddr t x i => xindexAddr D g t (e x) (e i)
  | .field t x f => noB (xfield D t (e x) f)
  | .index t x i => xindex D t (e x) (e i)
  | .build t parts => xbuild D g t (parts.toList.map fun p => (p.1, e p.2))
  | .buildSlice t len parts => xbuildSlice D g (rows t) o.dst t len (parts.toList.map fun p => (p.1, e p.2))
  | .makeSlice t x y => xmakeSlice D g (rows t) o.dst t x y (e x)
  | .load t x => xload D g t (e x)
  | .store t p x => xstore D g t (e p) (e x)
  | .slice t x lo hi none => xslice D g t (e x) (lo.map e) (hi.map e)
  | .box t x => xbox g o.dst t (e x)
  | .alloc t => (match xzero D t with | some z => xbox g o.dst t z | none => .bad)
  | .makeFunc (.func f) first caps => cond first.isEmpty (.ok (.fn f (caps.toList.map e)) []) .bad
  | .makeInterface t x => cond (D.has t && !(isIfcT (D.und t))) (.ok (.ifc t (e x)) []) .bad
  | .typeAssert x _ t true => xassert D (e x) t
  | .call ⟨.builtin .len, ⟨[x]⟩, ⟨[t]⟩⟩ => (match mapT (D.und t) with | some _ => xmapLen D g t (e x) | none => xlen D g t (e x))
  | .call ⟨.builtin .clear, ⟨[x]⟩, ⟨[t]⟩⟩ => xclear D g t (e x)
  | .call ⟨.builtin .max, ⟨[x, y]⟩, _⟩ => xmm mx (e x) (e y)
  | .call ⟨.builtin .min, ⟨[x, y]⟩, _⟩ => xmm mn (e x) (e y)
  | .call ⟨.builtin .append, ⟨[x, y]⟩, ⟨[t, t']⟩⟩ => cond (Nat.beq t' t) (xappend D g o.dst t (e x) (e y)) (match e y with | .s s => xappendS D g o.dst t t' (e x) s | _ => .bad)
  | _ => .bad

theorem xop_spec (hg : Good P D) {rows : Nat → Option Row} {g : XG} {o : Oper} {st : St} {e : Operand → X} (ha : Agree g st.s) (he : ∀ x ∈ o.op.operands.toList, ev noG st.t x = (e x).enc) : OutOk P o st (xop D rows g e o) := by
  have pure : ∀ {v : X}, coreV D o.op (ev noG st.t) st.s = some v.enc → OutOk P o st (.ok v []) := fun h => core_ok hg rfl h
  unfold xop
  split
  · rename_i x hop
    have hx := he x (by rw [hop]; simp [Op.operands])
    exact pure (by rw [hop]; show some (ev noG st.t x) = _; rw [hx])
  · rename_i x hop
    have hx := he x (by rw [hop]; simp [Op.operands])
    exact pure (by rw [hop]; show some (ev noG st.t x) = _; rw [hx])
  · rename_i c a b hop
    have hc := he c (by rw [hop]; simp [Op.operands])
    have hxa := he a (by rw [hop]; simp [Op.operands])
    have hxb := he b (by rw [hop]; simp [Op.operands])
    split
    · rename_i q hq
      refine pure ?_
      rw [hop]
      show (match ev noG st.t c with | .t (.sc (.bool q)) => some (pickV q (ev noG st.t a) (ev noG st.t b)) | _ => none) = _
      rw [hc, hq, hxa, hxb]
      show some (pickV q (e a).enc (e b).enc) = _
      rw [pickV_cond, xpick_enc]
    · trivial
  · rename_i x i hop
    have hx := he x (by rw [hop]; simp [Op.operands])
    split
    · rename_i l hl
      split
      · rename_i v hv
        refine pure ?_
        rw [hop]
        show (match ev noG st.t x with | .tp vs => vs[i]? | _ => none) = _
        rw [hx, hl]
        show (encL l)[i]? = _
        rw [encL_map, List.getElem?_map, hv]; rfl
      · trivial
    · trivial
  · rename_i op t x y q hop
    have hx := he x (by rw [hop]; simp [Op.operands])
    have hy := he y (by rw [hop]; simp [Op.operands])
    exact outok_cond (fun _ => xnilq_spec hg ha hop hx hy) (fun _ => outok_cond (fun _ => xeqS_spec hg hop hx hy) (fun _ => OutL.ok hg hop (xbin_spec ha hx hy).l))
  · rename_i op t x hop
    have hx := he x (by rw [hop]; simp [Op.operands])
    exact OutL.ok hg hop (xun_spec hx).l
  · rename_i t x hop
    split
    · exact xrangeM_spec hg ha hop (he x (by rw [hop]; simp [Op.operands]))
    · exact xrange_spec hg ha hop (he x (by rw [hop]; simp [Op.operands]))
  · rename_i x hop
    exact xnext_spec ha hop (he x (by rw [hop]; simp [Op.operands]))
  · rename_i x hop
    exact xnextM_spec ha hop (he x (by rw [hop]; simp [Op.operands]))
  · rename_i x hop
    exact xentry_spec ha hop (he x (by rw [hop]; simp [Op.operands]))
  · rename_i t hop
    split
    · exact xmakeMap_spec ha hop
    · exact xmakeMs_spec ha hop
  · rename_i t m k x hop
    have hm := he m (by rw [hop]; simp [Op.operands])
    have hk := he k (by rw [hop]; simp [Op.operands])
    have hx := he x (by rw [hop]; simp [Op.operands])
    split
    · rename_i q t' cells hq
      obtain ⟨e1, e2⟩ := msOf_spec hq
      exact xmsPut_spec hg ha hop (hm.trans (by rw [e1]; rfl)) hk hx e2
    · exact xmapUpdate_spec hg ha hop hm hk hx
  · rename_i t m k c hop
    have hm := he m (by rw [hop]; simp [Op.operands])
    have hk := he k (by rw [hop]; simp [Op.operands])
    split
    · rename_i q t' cells hq
      obtain ⟨e1, e2⟩ := msOf_spec hq
      exact xmsGet_spec hg ha hop (hm.trans (by rw [e1]; rfl)) hk e2
    · exact xmapLookup_spec hg ha hop hm hk
  · rename_i m k t t2 hop
    have hm := he m (by rw [hop]; simp [Op.operands, Call.operands])
    have hk := he k (by rw [hop]; simp [Op.operands, Call.operands])
    split
    · rename_i q t' cells hq
      obtain ⟨e1, e2⟩ := msOf_spec hq
      exact xmsDel_spec hg ha hop (hm.trans (by rw [e1]; rfl)) hk e2
    · exact xmapDelete_spec hg ha hop hm hk
  · rename_i src dst x hop
    have hx := he x (by rw [hop]; simp [Op.operands])
    split
    · exact xbytesStr_spec hg ha hop hx
    · split
      · rename_i el s hde hes
        exact xstrBytes_spec hg ha hop (sliceT_spec hde) (by rw [hx, hes])
      · exact OutL.ok hg hop (xconv_spec hx).l
  · rename_i x hop
    have hx := he x (by rw [hop]; simp [Op.operands])
    split
    · rename_i hk hn
      refine pure ?_
      rw [hop]
      show (match kd (ev noG st.t x), nilQ st.s (ev noG st.t x) with | .ptr, some false => some (ev noG st.t x) | _, _ => none) = _
      rw [hx, xkd_spec, hk, xnil_spec ha hn]
    · trivial
  · rename_i t x f hop
    exact OutL.ok hg hop (xfieldAddr_spec ha (he x (by rw [hop]; simp [Op.operands]))).l
  · rename_i t gl i hop
    exact xga_spec hg hop (he i (by rw [hop]; simp [Op.operands]))
  · rename_i t x i hng hop
    exact xindexAddr_spec hg ha hop (he x (by rw [hop]; simp [Op.operands])) (he i (by rw [hop]; simp [Op.operands]))
  · rename_i t x f hop
    exact OutL.ok hg hop (xfield_spec (he x (by rw [hop]; simp [Op.operands]))).l
  · rename_i t x i hop
    exact xindex_spec hg hop (he x (by rw [hop]; simp [Op.operands])) (he i (by rw [hop]; simp [Op.operands]))
  · rename_i t parts hop
    refine xbuild_spec hg ha hop ?_
    rw [List.map_map]
    refine List.map_congr_left fun p hp => ?_
    show (p.1, ev noG st.t p.2) = (p.1, (e p.2).enc)
    rw [he p.2 (by rw [hop]; simp only [Op.operands, List.toList_toArray, List.mem_map]; exact ⟨p, hp, rfl⟩)]
  · rename_i t len parts hop
    refine xbuildSlice_spec hg ha hop ?_
    rw [List.map_map]
    refine List.map_congr_left fun p hp => ?_
    show (p.1, ev noG st.t p.2) = (p.1, (e p.2).enc)
    rw [he p.2 (by rw [hop]; simp only [Op.operands, List.toList_toArray, List.mem_map]; exact ⟨p, hp, rfl⟩)]
  · rename_i t x y hop
    exact xmakeSlice_spec hg ha hop (he x (by rw [hop]; simp [Op.operands]))
  · rename_i t x hop
    exact OutL.ok hg hop (xload_spec ha (he x (by rw [hop]; simp [Op.operands])))
  · rename_i t p x hop
    exact xstore_spec hg ha hop (he p (by rw [hop]; simp [Op.operands])) (he x (by rw [hop]; simp [Op.operands]))
  · rename_i t x lo hi hop
    have hm : ∀ (y : Option Operand), (∀ z, y = some z → z ∈ o.op.operands.toList) → y.map (ev noG st.t) = (y.map e).map X.enc := by
      intro y hy
      cases y with
      | none => rfl
      | some z => simp [he z (hy z rfl)]
    exact xslice_spec hg ha hop (he x (by rw [hop]; simp [Op.operands])) (hm lo (by rintro z rfl; rw [hop]; simp [Op.operands])) (hm hi (by rintro z rfl; rw [hop]; simp [Op.operands]))
  · rename_i t x hop
    exact xbox_spec hg ha (.inl ⟨x, hop, he x (by rw [hop]; simp [Op.operands])⟩)
  · rename_i t hop
    split
    · rename_i z hz
      exact xbox_spec hg ha (.inr ⟨hop, xzero_spec hz⟩)
    · trivial
  · rename_i f first caps hop
    refine outok_cond (fun hf => ?_) (fun _ => trivial)
    refine pure ?_
    rw [hop]
    show (if first.isEmpty then some (V.fn f (caps.toList.map (ev noG st.t))) else none) = _
    rw [if_pos hf]
    show _ = some (V.fn f (encL (caps.toList.map e)))
    rw [encL_map, List.map_map]
    congr 2
    refine List.map_congr_left fun p hp => ?_
    exact he p (by rw [hop]; simp only [Op.operands, Array.toList_append, List.mem_append]; exact .inr hp)
  · rename_i t x hop
    refine outok_cond (fun hf => ?_) (fun _ => trivial)
    simp only [Bool.and_eq_true, Bool.not_eq_true'] at hf
    obtain ⟨d, hd⟩ := has_some hf.1
    have hx := he x (by rw [hop]; simp [Op.operands])
    refine pure ?_
    rw [hop]
    show (match D.und t with | some (.interface _) => none | some _ => some (V.ifc t (ev noG st.t x)) | none => none) = _
    have hni := hf.2
    rw [hd] at hni ⊢
    rw [hx]
    cases d <;> first | (simp [isIfcT] at hni; done) | rfl
  · rename_i x xt t hop
    exact xassert_spec hg hop (he x (by rw [hop]; simp [Op.operands]))
  · rename_i x t hop
    split
    · exact xmapLen_spec hg ha hop (he x (by rw [hop]; simp [Op.operands, Call.operands]))
    · exact xlen_spec hg ha hop (he x (by rw [hop]; simp [Op.operands, Call.operands]))
  · rename_i x t hop
    exact xclear_spec hg ha hop (he x (by rw [hop]; simp [Op.operands, Call.operands]))
  · rename_i x y ts hop
    exact xmax_spec hg hop (he x (by rw [hop]; simp [Op.operands, Call.operands])) (he y (by rw [hop]; simp [Op.operands, Call.operands]))
  · rename_i x y ts hop
    exact xmin_spec hg hop (he x (by rw [hop]; simp [Op.operands, Call.operands])) (he y (by rw [hop]; simp [Op.operands, Call.operands]))
  · rename_i x y t t' hop
    have hy := he y (by rw [hop]; simp [Op.operands, Call.operands])
    refine outok_cond (fun hf => ?_) (fun _ => ?_)
    · have := Nat.eq_of_beq_eq_true hf
      subst this
      exact xappend_spec hg ha hop (he x (by rw [hop]; simp [Op.operands, Call.operands])) hy
    · split
      · rename_i s hs
        exact xappendS_spec hg ha hop (he x (by rw [hop]; simp [Op.operands, Call.operands])) (by rw [hy, hs])
      · trivial
  · trivial
end Go.Proofs.YtobfoiomjfdjjaaDoor.Mc

/- THE MACHINE (49): typed states turned: names, freezing, nil. -/
namespace Go.Proofs.YtobfoiomjfdjjaaDoor.Mc
open Go.RowKit
variable [Mo]
variable {P : Program} {D : Dec}

mutual
def X.ren (f : Nat → Option Nat) : X → X
  | .sl nl o => match f o with | some o' => .sl nl o' | none => .dead
  | .sw o off len => match f o with | some o' => .sw o' off len | none => .dead
  | .pt o off => match f o with | some o' => .pt o' off | none => .dead
  | .pe o i off => match f o with | some o' => .pe o' i off | none => .dead
  | .mp o => match f o with | some o' => .mp o' | none => .dead
  | .it o => match f o with | some o' => .it o' | none => .dead
  | .sp o => match f o with | some o' => .sp o' | none => .dead
  | .fn g caps => .fn g (xrenL f caps)
  | .ag cs => .ag (xrenL f cs)
  | .tp cs => .tp (xrenL f cs)
  | .ifc t x => .ifc t (X.ren f x)
  | x => x
def xrenL (f : Nat → Option Nat) : List X → List X
  | [] => []
  | x :: xs => X.ren f x :: xrenL f xs
end
omit [Mo] in
mutual
theorem X.ren_enc (f : Nat → Option Nat) : ∀ (x : X), (x.ren f).enc = x.enc.ren f
  | .sl nl o => by simp only [X.ren, X.enc, V.ren]; cases f o <;> rfl
  | .sw o off len => by simp only [X.ren, X.enc, V.ren]; cases f o <;> rfl
  | .pt o off => by simp only [X.ren, X.enc, V.ren]; cases f o <;> rfl
  | .pe o i off => by simp only [X.ren, X.enc, V.ren]; cases f o <;> rfl
  | .mp o => by simp only [X.ren, X.enc, V.ren]; cases f o <;> rfl
  | .it o => by simp only [X.ren, X.enc, V.ren]; cases f o <;> rfl
  | .sp o => by simp only [X.ren, X.enc, V.ren]; cases f o <;> rfl
  | .fn g caps => by simp only [X.ren, X.enc, V.ren, xrenL_enc f caps]
  | .ag cs => by simp only [X.ren, X.enc, V.ren, xrenL_enc f cs]
  | .tp cs => by simp only [X.ren, X.enc, V.ren, xrenL_enc f cs]
  | .ifc t x => by simp only [X.ren, X.enc, V.ren, X.ren_enc f x]
  | .c v => by
    show X.enc (.c v) = V.ren f (X.enc (.c v))
    simp only [X.enc]
    cases plain v <;> rfl
  | .i k n => rfl
  | .b q => rfl
  | .s s => rfl
  | .fz nl r xs => rfl
  | .pf r x off => rfl
  | .dead => rfl
theorem xrenL_enc (f : Nat → Option Nat) : ∀ (xs : List X), encL (xrenL f xs) = renL f (encL xs)
  | [] => rfl
  | x :: xs => by simp only [xrenL, encL, renL, X.ren_enc f x, xrenL_enc f xs]
end

mutual
/-- of all names that it bears -/
def X.allN (p : Nat → Bool) : X → Bool
  | .sl _ o => p o
  | .sw o _ _ => p o
  | .pt o _ => p o
  | .pe o _ _ => p o
  | .mp o => p o
  | .it o => p o
  | .sp o => p o
  | .fn _ caps => allNL p caps
  | .ag cs => allNL p cs
  | .tp cs => allNL p cs
  | .ifc _ x => X.allN p x
  | _ => true
def allNL (p : Nat → Bool) : List X → Bool
  | [] => true
  | x :: xs => X.allN p x && allNL p xs
end
def fixB (f : Nat → Option Nat) (n : Nat) : Bool := match f n with | some m => Nat.beq m n | none => false
omit [Mo] in
theorem fixB_eq {f : Nat → Option Nat} {n : Nat} (h : fixB f n = true) : f n = some n := by
  unfold fixB at h
  split at h
  · rename_i m hm; rw [hm, Nat.eq_of_beq_eq_true h]
  · cases h
omit [Mo] in
mutual
theorem X.ren_fix (f : Nat → Option Nat) : ∀ (x : X), x.allN (fixB f) = true → x.ren f = x
  | .sl nl o, h => by simp only [X.ren, fixB_eq h]
  | .sw o off len, h => by simp only [X.ren, fixB_eq h]
  | .pt o off, h => by simp only [X.ren, fixB_eq h]
  | .pe o i off, h => by simp only [X.ren, fixB_eq h]
  | .mp o, h => by simp only [X.ren, fixB_eq h]
  | .it o, h => by simp only [X.ren, fixB_eq h]
  | .sp o, h => by simp only [X.ren, fixB_eq h]
  | .fn g caps, h => by simp only [X.ren, xrenL_fix f caps h]
  | .ag cs, h => by simp only [X.ren, xrenL_fix f cs h]
  | .tp cs, h => by simp only [X.ren, xrenL_fix f cs h]
  | .ifc t x, h => by simp only [X.ren, X.ren_fix f x h]
  | .c v, _ => rfl
  | .i k n, _ => rfl
  | .b q, _ => rfl
  | .s s, _ => rfl
  | .fz nl r xs, _ => rfl
  | .pf r x off, _ => rfl
  | .dead, _ => rfl
theorem xrenL_fix (f : Nat → Option Nat) : ∀ (xs : List X), allNL (fixB f) xs = true → xrenL f xs = xs
  | [], _ => rfl
  | x :: xs, h => by
    simp only [allNL, Bool.and_eq_true] at h
    simp only [xrenL, X.ren_fix f x h.1, xrenL_fix f xs h.2]
end

def XO.ren (f : Nat → Option Nat) : XO → XO
  | .bx e cells => .bx e (xrenL f cells)
  | .mq t es i rest cu => match f i with | some i' => .mq t es i' rest cu | none => .mp t es
  | .mi m => match f m with | some m' => .mi m' | none => .mi m
  | x => x
omit [Mo] in
theorem XO.ren_enc (f : Nat → Option Nat) (x : XO) : (x.ren f).enc = O.ren f x.enc := by
  cases x with
  | bx e cells => simp only [XO.ren, XO.enc, O.ren, xrenL_enc]
  | mq t es i rest cu => simp only [XO.ren, XO.enc, O.ren]; cases f i <;> rfl
  | mi m => simp only [XO.ren, XO.enc, O.ren]; cases f m <;> rfl
  | _ => rfl
def XO.allN (p : Nat → Bool) : XO → Bool
  | .bx _ cells => allNL p cells
  | .mq _ _ i _ _ => p i
  | .mi m => p m
  | _ => true
omit [Mo] in
theorem XO.ren_fix (f : Nat → Option Nat) (x : XO) (h : x.allN (fixB f) = true) : x.ren f = x := by
  cases x with
  | bx e cells => simp only [XO.ren, xrenL_fix f cells h]
  | mq t es i rest cu => simp only [XO.ren, fixB_eq (show fixB f i = true from h)]
  | mi m => simp only [XO.ren, fixB_eq (show fixB f m = true from h)]
  | _ => rfl
def oAll (p : Nat → Bool) : Option XO → Bool | some x => x.allN p | none => true

/-! other names -/
def idL (s : XS) : Ren := s.map fun p => (p.1, p.1)
def lkE (E : XE) (st : XSt) (i : Nat) : X := match lk (st.t ++ E.t) i with | some x => x | none => .dead
/-- only some slots, only some objects, under other names -/
def xnorm (E : XE) (keep : List Nat) (ρ : Ren) (st : XSt) : Option XSt :=
  let ρ' := idL E.s ++ ρ
  cond (okRen ρ' && E.a.all (fun o => fixB (ren ρ') o) && ρ'.all (fun p => Nat.beq p.1 p.2 || Nat.blt p.2 1000000)
      && E.t.all (fun p => (lk st.t p.1).isNone && p.2.allN (fixB (ren ρ'))) && E.s.all (fun p => (lk st.s p.1).isNone && oAll (fixB (ren ρ')) p.2) && ρ.all (fun p => (lk st.s p.1).isSome))
    (some ⟨keep.map fun i => (i, (lkE E st i).ren (ren ρ')), ρ.map fun p => (p.2, match lk st.s p.1 with | some x => x.map (XO.ren (ren ρ')) | none => none)⟩) none

omit [Mo] in
theorem keepT_mem (f : V → V) (t : Nat → V) : ∀ (is : List Nat) (i : Nat), keepT f t is i = if i ∈ is then f (t i) else .dead
  | [], i => by simp [keepT, deadT]
  | j :: is, i => by
    rw [keepT]
    by_cases h : i = j
    · subst h; rw [upd_self]; simp
    · rw [upd_ne _ _ h, keepT_mem f t is i]; simp [h]
omit [Mo] in
theorem lk_mem {α : Type} : ∀ {l : List (Nat × α)} {n : Nat} {a : α}, lk l n = some a → (n, a) ∈ l
  | (i, b) :: l, n, a, h => by
    rw [lk] at h
    cases hb : Nat.beq i n with
    | true => rw [hb] at h; cases h; rw [Nat.eq_of_beq_eq_true hb]; simp
    | false => rw [hb] at h; exact List.mem_cons_of_mem _ (lk_mem h)
omit [Mo] in
theorem lk_none {α : Type} : ∀ {l : List (Nat × α)} {n : Nat}, lk l n = none → ∀ a, (n, a) ∉ l
  | [], n, _, a => by simp
  | (i, b) :: l, n, h, a => by
    rw [lk] at h
    cases hb : Nat.beq i n with
    | true => rw [hb] at h; cases h
    | false =>
      rw [hb] at h
      have hne : i ≠ n := by rintro rfl; simp at hb
      intro hm
      rcases List.mem_cons.1 hm with hm | hm
      · cases hm; exact hne rfl
      · exact lk_none h a hm
omit [Mo] in
theorem lk_map_keys {α : Type} (f : Nat → α) : ∀ (l : List Nat) (n : Nat), lk (l.map fun i => (i, f i)) n = if n ∈ l then some (f n) else none
  | [], n => by simp [lk]
  | j :: l, n => by
    rw [List.map_cons, lk]
    cases hb : Nat.beq j n with
    | true => have := Nat.eq_of_beq_eq_true hb; subst this; simp
    | false =>
      have hne : ¬ n = j := by rintro rfl; simp at hb
      rw [cond_false, lk_map_keys f l n]; simp [hne]

omit [Mo] in
theorem encT_lk (t : XT) (i : Nat) : encT t i = (match lk t i with | some x => x | none => X.dead).enc := by unfold encT; cases lk t i <;> rfl
omit [Mo] in
theorem nodupB_pair {ρ : Ren} : nodupB (ρ.map (·.2)) = true → ∀ {p q : Nat × Nat}, p ∈ ρ → q ∈ ρ → p.2 = q.2 → p = q := by
  intro h p q hp hq e
  have h1 := find_of_mem2 (ρ := ρ) (n := p.1) (n' := p.2) h (by simpa using hp)
  have h2 := find_of_mem2 (ρ := ρ) (n := q.1) (n' := q.2) h (by simpa using hq)
  rw [e, h2] at h1
  cases p; cases q; simp_all

theorem Conv.xnorm {E : XE} {keep : List Nat} {ρ : Ren} {st st' : XSt} (h : Mc.xnorm E keep ρ st = some st') : Conv noG (encSt E st) (encSt E st') := by
  unfold Mc.xnorm at h
  simp only at h
  obtain ⟨hc, rfl⟩ := cond_some h
  simp only [Bool.and_eq_true] at hc
  obtain ⟨⟨⟨⟨⟨h1, h2⟩, h3⟩, h4⟩, h5⟩, h6⟩ := hc
  have hok := h1
  unfold okRen at h1
  rw [Bool.and_eq_true] at h1
  refine Conv.norm (keep := E.t.map (·.1) ++ keep) (ρ := idL E.s ++ ρ) ?_
  unfold Mc.norm
  have ha : (encSt E st).a.all (fun o => (ren (idL E.s ++ ρ) o == some o)) = true := by
    rw [List.all_eq_true] at h2 ⊢
    intro o ho
    rw [fixB_eq (h2 o ho)]; simp
  rw [if_pos (by rw [hok, ha, h3]; rfl)]
  congr 1
  show St.mk _ _ _ _ = St.mk _ _ _ _
  congr 1
  · funext i
    rw [keepT_mem]
    simp only [encSt, encT_lk, lk_append, lk_map_keys]
    rw [List.all_eq_true] at h4
    by_cases hk : i ∈ keep
    · rw [if_pos (by simp [hk]), if_pos hk]
      simp only [X.ren_enc, lkE, lk_append]
    · simp only [if_neg hk]
      cases he : lk E.t i with
      | none =>
        have : i ∉ E.t.map (·.1) := by
          intro hm
          obtain ⟨p, hp, rfl⟩ := List.mem_map.1 hm
          exact lk_none he p.2 (by simpa using hp)
        rw [if_neg (by simp only [List.mem_append]; exact fun h => h.elim this hk)]; rfl
      | some x =>
        have hm := lk_mem he
        have hb := h4 _ hm
        simp only [Bool.and_eq_true, Option.isNone_iff_eq_none] at hb
        rw [if_pos (by simp only [List.mem_append]; exact .inl (List.mem_map.2 ⟨_, hm, rfl⟩)), hb.1]
        simp only
        rw [← X.ren_enc, X.ren_fix _ _ hb.2]
  · funext n
    rw [keepS_spec h1.2]
    simp only [encSt, encS, lk_append]
    rw [List.all_eq_true] at h5 h6
    cases hf : (idL E.s ++ ρ).find? (fun p => Nat.beq p.2 n) with
    | some p =>
      obtain ⟨hp, rfl⟩ := find_mem2 hf
      simp only
      rcases List.mem_append.1 hp with hp1 | hp2
      · obtain ⟨q, hq, rfl⟩ := List.mem_map.1 hp1
        have hb := h5 q hq
        simp only [Bool.and_eq_true, Option.isNone_iff_eq_none] at hb
        simp only [hb.1]
        have hnone : lk (ρ.map fun p => (p.2, match lk st.s p.1 with | some x => x.map (XO.ren (ren (idL E.s ++ ρ))) | none => none)) q.1 = none := by
          cases hl : lk (ρ.map fun p => (p.2, match lk st.s p.1 with | some x => x.map (XO.ren (ren (idL E.s ++ ρ))) | none => none)) q.1 with
          | none => rfl
          | some y =>
            exfalso
            obtain ⟨p', hp', he⟩ := List.mem_map.1 (lk_mem hl)
            injection he with he1 he2
            have := nodupB_pair h1.2 hp (List.mem_append_right _ hp') he1.symm
            have h7 := h6 p' hp'
            rw [← this] at h7
            simp only [hb.1, Option.isSome_none, Bool.false_eq_true] at h7
        rw [hnone]
        cases hl : lk E.s q.1 with
        | none => exact absurd hq (by have := lk_none hl q.2; simpa using this)
        | some y =>
          have hy := h5 _ (lk_mem hl)
          simp only [Bool.and_eq_true] at hy
          simp only [Option.map_some]
          cases y with
          | none => rfl
          | some z => simp only [Option.map_some]; rw [← XO.ren_enc, XO.ren_fix _ _ hy.2]
      · have h7 := h6 p hp2
        obtain ⟨y, hy⟩ := Option.isSome_iff_exists.1 h7
        have hl : lk (ρ.map fun p => (p.2, match lk st.s p.1 with | some x => x.map (XO.ren (ren (idL E.s ++ ρ))) | none => none)) p.2 = some (y.map (XO.ren (ren (idL E.s ++ ρ)))) := by
          cases hl : lk (ρ.map fun p => (p.2, match lk st.s p.1 with | some x => x.map (XO.ren (ren (idL E.s ++ ρ))) | none => none)) p.2 with
          | none => exact absurd (List.mem_map.2 ⟨p, hp2, rfl⟩) (lk_none hl _)
          | some z =>
            obtain ⟨p', hp', he⟩ := List.mem_map.1 (lk_mem hl)
            injection he with he1 he2
            have := nodupB_pair h1.2 (List.mem_append_right (idL E.s) hp') hp he1
            subst this
            rw [hy] at he2; rw [← he2]
        rw [hl, hy]
        simp only [Option.map_some]
        cases y with
        | none => rfl
        | some z => simp only [Option.map_some, XO.ren_enc]
    | none =>
      simp only
      have hnone : ∀ p ∈ idL E.s ++ ρ, p.2 ≠ n := by
        intro p hp e
        have := List.find?_eq_none.1 hf p hp
        simp [e] at this
      have hl1 : lk (ρ.map fun p => (p.2, match lk st.s p.1 with | some x => x.map (XO.ren (ren (idL E.s ++ ρ))) | none => none)) n = none := by
        cases hl : lk (ρ.map fun p => (p.2, match lk st.s p.1 with | some x => x.map (XO.ren (ren (idL E.s ++ ρ))) | none => none)) n with
        | none => rfl
        | some z =>
          exfalso
          obtain ⟨p', hp', he⟩ := List.mem_map.1 (lk_mem hl)
          injection he with he1 he2
          exact hnone p' (List.mem_append_right _ hp') he1
      rw [hl1]
      cases hl : lk E.s n with
      | none => rfl
      | some z => exact absurd rfl (hnone (n, n) (List.mem_append_left _ (List.mem_map.2 ⟨_, lk_mem hl, rfl⟩)))
end Go.Proofs.YtobfoiomjfdjjaaDoor.Mc

/- THE MACHINE (50): typed states turned (2): freezing, nil; shapes. -/
namespace Go.Proofs.YtobfoiomjfdjjaaDoor.Mc
open Go.RowKit
variable [Mo]
variable {P : Program} {D : Dec}

mutual
def X.frz (o : Nat) (r : Row) (rows : List r.den) : X → X
  | .sl nl o' => cond (Nat.beq o' o) (.fz nl r rows) (.sl nl o')
  | .sw o' off len => cond (Nat.beq o' o) (.fz .u r ((rows.drop off).take len)) (.sw o' off len)
  | .pe o' i off => cond (Nat.beq o' o) .dead (.pe o' i off)
  | .fn g caps => .fn g (xfrzL o r rows caps)
  | .ag cs => .ag (xfrzL o r rows cs)
  | .tp cs => .tp (xfrzL o r rows cs)
  | .ifc t x => .ifc t (X.frz o r rows x)
  | x => x
def xfrzL (o : Nat) (r : Row) (rows : List r.den) : List X → List X
  | [] => []
  | x :: xs => X.frz o r rows x :: xfrzL o r rows xs
end
omit [Mo] in
mutual
theorem X.frz_enc (o : Nat) (r : Row) (rows : List r.den) : ∀ (x : X), (x.frz o r rows).enc = x.enc.frz o (rows.map r.en)
  | .sl nl o' => by simp only [X.frz, X.enc, V.frz]; cases Nat.beq o' o <;> rfl
  | .sw o' off len => by simp only [X.frz, X.enc, V.frz]; cases Nat.beq o' o <;> simp [X.enc, List.map_take, List.map_drop]
  | .pe o' i off => by simp only [X.frz, X.enc, V.frz]; cases Nat.beq o' o <;> rfl
  | .fn g caps => by simp only [X.frz, X.enc, V.frz, xfrzL_enc o r rows caps]
  | .ag cs => by simp only [X.frz, X.enc, V.frz, xfrzL_enc o r rows cs]
  | .tp cs => by simp only [X.frz, X.enc, V.frz, xfrzL_enc o r rows cs]
  | .ifc t x => by simp only [X.frz, X.enc, V.frz, X.frz_enc o r rows x]
  | .c v => by
    show X.enc (.c v) = V.frz o _ (X.enc (.c v))
    simp only [X.enc]
    cases plain v <;> rfl
  | .i k n => rfl
  | .b q => rfl
  | .s s => rfl
  | .fz nl r' xs => rfl
  | .pf r' x off => rfl
  | .pt o' off => rfl
  | .mp o' => rfl
  | .it o' => rfl
  | .sp o' => rfl
  | .dead => rfl
theorem xfrzL_enc (o : Nat) (r : Row) (rows : List r.den) : ∀ (xs : List X), encL (xfrzL o r rows xs) = frzL o (rows.map r.en) (encL xs)
  | [] => rfl
  | x :: xs => by simp only [xfrzL, encL, frzL, X.frz_enc o r rows x, xfrzL_enc o r rows xs]
end
def neB (o n : Nat) : Bool := !(Nat.beq n o)
omit [Mo] in
mutual
theorem X.frz_fix (o : Nat) (r : Row) (rows : List r.den) : ∀ (x : X), x.allN (neB o) = true → x.frz o r rows = x
  | .sl nl o', h => by have h' : neB o o' = true := h; unfold neB at h'; simp only [Bool.not_eq_true'] at h'; simp only [X.frz, h', cond_false]
  | .sw o' off len, h => by have h' : neB o o' = true := h; unfold neB at h'; simp only [Bool.not_eq_true'] at h'; simp only [X.frz, h', cond_false]
  | .pe o' i off, h => by have h' : neB o o' = true := h; unfold neB at h'; simp only [Bool.not_eq_true'] at h'; simp only [X.frz, h', cond_false]
  | .fn g caps, h => by simp only [X.frz, xfrzL_fix o r rows caps h]
  | .ag cs, h => by simp only [X.frz, xfrzL_fix o r rows cs h]
  | .tp cs, h => by simp only [X.frz, xfrzL_fix o r rows cs h]
  | .ifc t x, h => by simp only [X.frz, X.frz_fix o r rows x h]
  | .c v, _ => rfl
  | .i k n, _ => rfl
  | .b q, _ => rfl
  | .s s, _ => rfl
  | .fz nl r' xs, _ => rfl
  | .pf r' x off, _ => rfl
  | .pt o' off, _ => rfl
  | .mp o', _ => rfl
  | .it o', _ => rfl
  | .sp o', _ => rfl
  | .dead, _ => rfl
theorem xfrzL_fix (o : Nat) (r : Row) (rows : List r.den) : ∀ (xs : List X), allNL (neB o) xs = true → xfrzL o r rows xs = xs
  | [], _ => rfl
  | x :: xs, h => by
    simp only [allNL, Bool.and_eq_true] at h
    simp only [xfrzL, X.frz_fix o r rows x h.1, xfrzL_fix o r rows xs h.2]
end
def XO.frz (o : Nat) (r : Row) (rows : List r.den) : XO → XO
  | .bx e cells => .bx e (xfrzL o r rows cells)
  | x => x
omit [Mo] in
theorem XO.frz_enc (o : Nat) (r : Row) (rows : List r.den) (x : XO) : (x.frz o r rows).enc = O.frz o (rows.map r.en) x.enc := by
  cases x with
  | bx e cells => simp only [XO.frz, XO.enc, O.frz, xfrzL_enc]
  | _ => rfl
omit [Mo] in
theorem XO.frz_fix (o : Nat) (r : Row) (rows : List r.den) (x : XO) (h : x.allN (neB o) = true) : x.frz o r rows = x := by
  cases x with
  | bx e cells => simp only [XO.frz, xfrzL_fix o r rows cells h]
  | _ => rfl

omit [Mo] in
theorem lk_map {α β : Type} (f : Nat → α → β) : ∀ (l : List (Nat × α)) (n : Nat), lk (l.map fun p => (p.1, f p.1 p.2)) n = (lk l n).map (f n)
  | [], n => rfl
  | (i, a) :: l, n => by
    rw [List.map_cons, lk, lk]
    cases hb : Nat.beq i n with
    | true => rw [Nat.eq_of_beq_eq_true hb]; rfl
    | false => exact lk_map f l n

/-- an owned row, from now on data -/
def xfreeze (E : XE) (o : Nat) (st : XSt) : Option XSt :=
  match lk st.s o with
  | some (some (.ar _ r rows)) => cond (E.t.all (fun p => p.2.allN (neB o)) && E.s.all (fun p => neB o p.1 && oAll (neB o) p.2))
      (some ⟨st.t.map fun p => (p.1, p.2.frz o r rows), st.s.map fun p => (p.1, cond (Nat.beq p.1 o) none (p.2.map (XO.frz o r rows)))⟩) none
  | _ => none
theorem Conv.xfreeze {E : XE} {o : Nat} {st st' : XSt} (h : Mc.xfreeze E o st = some st') : Conv noG (encSt E st) (encSt E st') := by
  unfold Mc.xfreeze at h
  split at h
  · rename_i e r rows hl
    obtain ⟨hc, rfl⟩ := cond_some h
    simp only [Bool.and_eq_true] at hc
    obtain ⟨h1, h2⟩ := hc
    rw [List.all_eq_true] at h1 h2
    have ho : encS (st.s ++ E.s) o = some (some (.ar e r.len (rows.map r.en))) := by unfold encS; rw [lk_append, hl]; rfl
    have := Conv.freezeP (G := noG) (t := encT (st.t ++ E.t)) (s := encS (st.s ++ E.s)) (m := E.n) (a := E.a) o e r.len (rows.map r.en) ho
    have e1 : (fun i => (encT (st.t ++ E.t) i).frz o (rows.map r.en)) = encT ((st.t.map fun p => (p.1, p.2.frz o r rows)) ++ E.t) := by
      funext i
      rw [encT_lk, encT_lk, ← X.frz_enc, lk_append, lk_append, lk_map (fun _ x => X.frz o r rows x)]
      cases lk st.t i with
      | some x => rfl
      | none =>
        simp only [Option.map_none]
        cases he : lk E.t i with
        | none => rfl
        | some x => simp only; rw [X.frz_fix o r rows x (h1 _ (lk_mem he))]
    have e2 : (fun n => cond (Nat.beq n o) (some none) ((encS (st.s ++ E.s) n).map (·.map (O.frz o (rows.map r.en))))) = encS ((st.s.map fun p => (p.1, cond (Nat.beq p.1 o) none (p.2.map (XO.frz o r rows)))) ++ E.s) := by
      funext n
      unfold encS
      rw [lk_append, lk_append, lk_map (fun (i : Nat) (x : Option XO) => cond (Nat.beq i o) none (x.map (XO.frz o r rows)))]
      cases hb : Nat.beq n o with
      | true =>
        have := Nat.eq_of_beq_eq_true hb
        subst this
        rw [hl]; simp
      | false =>
        cases hs : lk st.s n with
        | some x => cases x <;> simp [XO.frz_enc]
        | none =>
          simp only [Option.map_none, cond_false]
          cases he : lk E.s n with
          | none => rfl
          | some x =>
            have := h2 _ (lk_mem he)
            simp only [Bool.and_eq_true] at this
            cases x with
            | none => rfl
            | some y => simp only [Option.map_some]; rw [← XO.frz_enc, XO.frz_fix o r rows y this.2]
    show Conv noG ⟨_, _, _, _⟩ ⟨_, _, _, _⟩
    rw [e1, e2] at this
    exact this
  · cases h

/-- a slot that holds nil: then an owned empty row -/
def xnilSlot (E : XE) (i d e : Nat) (r : Row) (st : XSt) : Option XSt :=
  match lk st.t i with
  | some (.c v) => cond (isNilSl v && (lk (st.s ++ E.s) d).isNone && Nat.blt 0 r.len) (some ⟨(i, .sl .n d) :: st.t, (d, some (.ar e r [])) :: st.s⟩) none
  | _ => none
omit [Mo] in
theorem encS_free {s : XS} {d : Nat} (h : (lk s d).isNone = true) : encS s d = none := by
  rw [Option.isNone_iff_eq_none] at h
  unfold encS; rw [h]
theorem Conv.xnilSlot {E : XE} {i d e : Nat} {r : Row} {st st' : XSt} (h : Mc.xnilSlot E i d e r st = some st') : Conv noG (encSt E st) (encSt E st') := by
  unfold Mc.xnilSlot at h
  split at h
  · rename_i v hl
    obtain ⟨hc, rfl⟩ := cond_some h
    simp only [Bool.and_eq_true] at hc
    obtain ⟨⟨h1, h2⟩, h3⟩ := hc
    have hv := isNilSl_eq h1
    subst hv
    have hi : encT (st.t ++ E.t) i = .t (.sc (.slice none 0 0)) := by unfold encT; rw [lk_append, hl]; simp [X.enc, plain]
    have := Conv.nilSl (G := noG) (t := encT (st.t ++ E.t)) (s := encS (st.s ++ E.s)) (m := E.n) (a := E.a) i d e r.len hi (encS_free h2) h3
    show Conv noG ⟨_, _, _, _⟩ ⟨_, _, _, _⟩
    rw [List.cons_append, encT_cons]
    rw [show encS ((d, some (XO.ar e r [])) :: st.s ++ E.s) = upd (encS (st.s ++ E.s)) d (some (some (.ar e r.len []))) from encS_over [(d, some (XO.ar e r []))] (st.s ++ E.s)]
    exact this
  · cases h

/-- a variable's cell that holds nil -/
def xnilBox (E : XE) (o j d e : Nat) (r : Row) (st : XSt) : Option XSt :=
  match lk st.s o with
  | some (some (.bx e0 cells)) => match cells[j]? with
    | some (.c v) => cond (isNilSl v && (lk (st.s ++ E.s) d).isNone && Nat.blt 0 r.len) (some ⟨st.t, (o, some (.bx e0 (cells.set j (.sl .n d)))) :: (d, some (.ar e r [])) :: st.s⟩) none
    | _ => none
  | _ => none
theorem Conv.xnilBox {E : XE} {o j d e : Nat} {r : Row} {st st' : XSt} (h : Mc.xnilBox E o j d e r st = some st') : Conv noG (encSt E st) (encSt E st') := by
  unfold Mc.xnilBox at h
  split at h
  · rename_i e0 cells hl
    split at h
    · rename_i v hj
      obtain ⟨hc, rfl⟩ := cond_some h
      simp only [Bool.and_eq_true] at hc
      obtain ⟨⟨h1, h2⟩, h3⟩ := hc
      have hv := isNilSl_eq h1
      subst hv
      have ho : encS (st.s ++ E.s) o = some (some (.bx e0 (encL cells))) := by unfold encS; rw [lk_append, hl]; rfl
      have := Conv.nilBox (G := noG) (t := encT (st.t ++ E.t)) (s := encS (st.s ++ E.s)) (m := E.n) (a := E.a) o e0 (encL cells) j d e r.len ho (by rw [encL_map, List.getElem?_map, hj]; simp [X.enc, plain]) (encS_free h2) h3
      show Conv noG ⟨_, _, _, _⟩ ⟨_, _, _, _⟩
      rw [show encS ((o, some (XO.bx e0 (cells.set j (.sl .n d)))) :: (d, some (XO.ar e r [])) :: st.s ++ E.s) = upd (upd (encS (st.s ++ E.s)) d (some (some (.ar e r.len [])))) o (some (some (.bx e0 ((encL cells).set j (.sl .n d))))) from by
        have := encS_over [(o, some (XO.bx e0 (cells.set j (.sl .n d)))), (d, some (XO.ar e r []))] (st.s ++ E.s)
        rw [show encL cells = cells.map X.enc from encL_map cells, ← show (cells.set j (X.sl .n d)).map X.enc = (cells.map X.enc).set j (.sl .n d) from List.map_set, ← encL_map]
        exact this]
      exact this
    · cases h
  · cases h

/-! semantic weakening -/
def Wk (x y : V) : Prop := ∀ (w : World) (F : Nat → Prop) (loc : Nat → Option Loc) (v : Value), RelV w F loc x v → RelV w F loc y v
omit [Mo] in
theorem Wk.refl (x : V) : Wk x x := fun _ _ _ _ h => h
omit [Mo] in
theorem Wk.of {x y : V} (h : Weak x y) : Wk x y := fun _ _ _ _ k => h.rel k
def WkL (xs ys : List V) : Prop := xs.length = ys.length ∧ ∀ (j : Nat) (y : V), ys[j]? = some y → ∃ x, xs[j]? = some x ∧ Wk x y
omit [Mo] in
theorem WkL.nil : WkL [] [] := ⟨rfl, fun j y h => by simp at h⟩
omit [Mo] in
theorem WkL.cons {x y : V} {xs ys : List V} (h : Wk x y) (k : WkL xs ys) : WkL (x :: xs) (y :: ys) := by
  refine ⟨by simp [k.1], fun j z hz => ?_⟩
  cases j with
  | zero => cases hz; exact ⟨x, rfl, h⟩
  | succ j => exact k.2 j z (by simpa using hz)
omit [Mo] in
theorem Wk.ag {xs ys : List V} (h : WkL xs ys) : Wk (.ag xs) (.ag ys) := by
  intro w F loc v k
  cases k with
  | gone _ o _ hx _ => cases hx
  | ag _ vs val hl hv hr =>
    refine .ag ys vs val (by rw [← h.1]; exact hl) (fun j hj => hv j (by rw [h.1]; exact hj)) (fun j y hy => ?_)
    obtain ⟨x, hx, hw⟩ := h.2 j y hy
    exact hw _ _ _ _ (hr j x hx)
omit [Mo] in
theorem Wk.tp {xs ys : List V} (h : WkL xs ys) : Wk (.tp xs) (.tp ys) := by
  intro w F loc v k
  cases k with
  | gone _ o _ hx _ => cases hx
  | tp _ vs val hl hv hr =>
    refine .tp ys vs val (by rw [← h.1]; exact hl) (fun j hj => hv j (by rw [h.1]; exact hj)) (fun j y hy => ?_)
    obtain ⟨x, hx, hw⟩ := h.2 j y hy
    exact hw _ _ _ _ (hr j x hx)
omit [Mo] in
theorem Wk.fn {f : FuncId} {xs ys : List V} (h : WkL xs ys) : Wk (.fn f xs) (.fn f ys) := by
  intro w F loc v k
  cases k with
  | gone _ o _ hx _ => cases hx
  | fn _ _ vs val hl hv hr =>
    refine .fn f ys vs val (by rw [← h.1]; exact hl) (fun j hj => hv j (by rw [h.1]; exact hj)) (fun j y hy => ?_)
    obtain ⟨x, hx, hw⟩ := h.2 j y hy
    exact hw _ _ _ _ (hr j x hx)
omit [Mo] in
theorem Wk.ifc {t : TypeId} {x y : V} (h : Wk x y) : Wk (.ifc t x) (.ifc t y) := by
  intro w F loc v k
  cases k with
  | gone _ o _ hx _ => cases hx
  | ifc _ _ v hv => exact .ifc _ _ _ (h _ _ _ _ hv)
theorem RelS.wkBox {B : Base} {w : World} {F : Nat → Prop} {loc : Nat → Option Loc} {s : Store} (hS : RelS noG B w F loc s) {o e : Nat} {xs ys : List V} (ho : s o = some (some (.bx e xs))) (h : WkL xs ys) :
    RelS noG B w F loc (upd s o (some (some (.bx e ys)))) := by
  refine { hS with obs := fun o' obj h' => ?_, dom := fun o' l hl' => ?_ }
  · by_cases hod : o' = o
    · subst hod
      rw [upd_self] at h'; cases h'
      obtain ⟨l, h1, h2⟩ := hS.obs o' _ ho
      refine ⟨l, h1, ?_⟩
      cases h2 with
      | ms _ _ b en clock vs he hb hs hen hks hr =>
        refine .ms e ys b en clock vs he hb hs hen hks ⟨by rw [← h.1]; exact hr.1, fun j y hy => ?_⟩
        obtain ⟨x, hx, hw⟩ := h.2 j y hy
        obtain ⟨v, h3, h4, h5⟩ := hr.2 j x hx
        exact ⟨v, h3, h4, hw _ _ _ _ h5⟩
      | bx _ _ cs b he hb hl hr =>
        refine .bx e ys cs b he hb (by rw [← h.1]; exact hl) fun j y hy => ?_
        obtain ⟨x, hx, hw⟩ := h.2 j y hy
        obtain ⟨v, h3, h4, h5⟩ := hr j x hx
        exact ⟨v, h3, h4, hw _ _ _ _ h5⟩
    · rw [upd_ne _ _ hod] at h'; exact hS.obs o' obj h'
  · by_cases hod : o' = o
    · subst hod; exact ⟨_, upd_self _ _ _⟩
    · rw [upd_ne _ _ hod]; exact hS.dom o' l hl'

/-! holes and shapes -/
inductive HTy where | ti | tb | ts | tn | tl (r : Row) | tw (r : Row) | tm (t : MT) | tq (t : MT)
def HTy.den : HTy → Type
  | .ti => Int
  | .tb => Bool
  | .ts => ByteArray
  | .tn => Nat
  | .tl r => List r.den
  | .tw r => r.den
  | .tm t => t.den
  | .tq t => t.den × t.den
def HTy.eq? : (a b : HTy) → Option (PLift (a = b))
  | .ti, .ti => some ⟨rfl⟩
  | .tb, .tb => some ⟨rfl⟩
  | .ts, .ts => some ⟨rfl⟩
  | .tn, .tn => some ⟨rfl⟩
  | .tl r, .tl r' => match Row.eq? r r' with | some h => some ⟨by rw [h.down]⟩ | none => none
  | .tw r, .tw r' => match Row.eq? r r' with | some h => some ⟨by rw [h.down]⟩ | none => none
  | .tm t, .tm t' => match MT.eq? t t' with | some h => some ⟨by rw [h.down]⟩ | none => none
  | .tq t, .tq t' => match MT.eq? t t' with | some h => some ⟨by rw [h.down]⟩ | none => none
  | _, _ => none
structure HV where
  t : HTy
  v : t.den
def Tup : List HTy → Type
  | [] => Unit
  | [t] => t.den
  | t :: t' :: ts => t.den × Tup (t' :: ts)
def ofTup : (ts : List HTy) → Tup ts → List HV
  | [], _ => []
  | [t], x => [⟨t, x⟩]
  | t :: t' :: ts, x => ⟨t, x.1⟩ :: ofTup (t' :: ts) x.2
def toTup : (ts : List HTy) → List HV → Option (Tup ts)
  | [], [] => some ()
  | [t], [⟨t', v⟩] => match HTy.eq? t' t with | some h => some (h.down ▸ v) | none => none
  | t :: t' :: ts, ⟨u, v⟩ :: l => match HTy.eq? u t, toTup (t' :: ts) l with | some h, some y => some (h.down ▸ v, y) | _, _ => none
  | _, _ => none
omit [Mo] in
theorem toTup_of : ∀ (ts : List HTy) (l : List HV) (y : Tup ts), toTup ts l = some y → ofTup ts y = l
  | [], [], y, _ => rfl
  | [t], [⟨t', v⟩], y, h => by
    simp only [toTup] at h
    split at h
    · rename_i g _
      obtain ⟨g⟩ := g
      subst g
      cases h; rfl
    · cases h
  | t :: t' :: ts, ⟨u, v⟩ :: l, y, h => by
    simp only [toTup] at h
    split at h
    · rename_i g z _ hz
      obtain ⟨g⟩ := g
      subst g
      cases h
      simp only [ofTup]
      rw [toTup_of (t' :: ts) l z hz]
    · cases h
  | [], _ :: _, _, h => by simp [toTup] at h
  | [t], [], _, h => by simp [toTup] at h
  | [t], _ :: _ :: _, _, h => by simp [toTup] at h
  | t :: t' :: ts, [], _, h => by simp [toTup] at h
end Go.Proofs.YtobfoiomjfdjjaaDoor.Mc

/- THE MACHINE (51): shapes: what a value is like, with holes; templates of states; a state brought to a template. -/
namespace Go.Proofs.YtobfoiomjfdjjaaDoor.Mc
open Go.RowKit
variable [Mo]
variable {P : Program} {D : Dec}

inductive Sh where
  | i (k : IntKind)
  | b
  | s
  | li (k : IntKind) (n : Int)
  | lb (q : Bool)
  | c (v : Value)
  | fz (nl : Nl) (r : Row)
  | sl (nl : Nl) (o : Nat)
  | sw (o : Nat)
  | pt (o off : Nat)
  | pe (o off : Nat)
  | pf (r : Row) (off : Nat)
  | mp (o : Nat)
  | it (o : Nat)
  | sp (o : Nat)
  | fn (f : FuncId) (l : List Sh)
  | ag (l : List Sh)
  | tp (l : List Sh)
  | ifc (t : TypeId) (x : Sh)
  | dead

def sameC : Value → Value → Bool
  | .pointer none, .pointer none => true
  | .slice none 0 0, .slice none 0 0 => true
  | .map none, .map none => true
  | .nilFunc, .nilFunc => true
  | .nilIface, .nilIface => true
  | .func (.func f) a b, .func (.func f') a' b' => Nat.beq f f' && a.isEmpty && b.isEmpty && a'.isEmpty && b'.isEmpty
  | _, _ => false
omit [Mo] in
theorem sameC_eq {v w : Value} (h : sameC v w = true) : v = w := by
  unfold sameC at h
  split at h
  all_goals first
    | rfl
    | cases h
    | skip
  rename_i f a b f' a' b'
  simp only [Bool.and_eq_true] at h
  obtain ⟨⟨⟨⟨h1, h2⟩, h3⟩, h4⟩, h5⟩ := h
  have e1 := Nat.eq_of_beq_eq_true h1
  simp only [Array.isEmpty_iff] at h2 h3 h4 h5
  rw [e1, h2, h3, h4, h5]
def nlLe : Nl → Nl → Bool
  | .e, .e => true
  | .n, .n => true
  | _, .u => true
  | _, _ => false
def nlMay : Nl → Bool | .e => false | _ => true

mutual
def getSh : Sh → X → Option (List HV)
  | .i k, .i k' n => if k' = k then some [⟨.ti, n⟩] else none
  | .b, .b q => some [⟨.tb, q⟩]
  | .s, .s x => some [⟨.ts, x⟩]
  | .li k m, .i k' n => if k' = k ∧ n = m then some [] else none
  | .lb p, .b q => if q = p then some [] else none
  | .c v, .c w => cond (sameC w v) (some []) none
  | .fz nl r, .fz nl' r' xs => cond (nlLe nl' nl) (match Row.eq? r' r with | some h => some [⟨.tl r, h.down ▸ xs⟩] | none => none) none
  | .fz nl r, .c v => cond (nlMay nl && isNilSl v) (some [⟨.tl r, []⟩]) none
  | .sl nl o, .sl nl' o' => cond (nlLe nl' nl && Nat.beq o' o) (some []) none
  | .sw o, .sw o' off len => cond (Nat.beq o' o) (some [⟨.tn, off⟩, ⟨.tn, len⟩]) none
  | .pt o off, .pt o' off' => cond (Nat.beq o' o && Nat.beq off' off) (some []) none
  | .pe o off, .pe o' i off' => cond (Nat.beq o' o && Nat.beq off' off) (some [⟨.tn, i⟩]) none
  | .pf r off, .pf r' x off' => cond (Nat.beq off' off) (match Row.eq? r' r with | some h => some [⟨.tw r, h.down ▸ x⟩] | none => none) none
  | .mp o, .mp o' => cond (Nat.beq o' o) (some []) none
  | .it o, .it o' => cond (Nat.beq o' o) (some []) none
  | .sp o, .sp o' => cond (Nat.beq o' o) (some []) none
  | .sp o, .pt o' off => cond (Nat.beq o' o && Nat.beq off 0) (some []) none
  | .sp _, .c v => cond (sameC v (.pointer none)) (some []) none
  | .fn f l, .fn f' xs => cond (Nat.beq f' f) (getL l xs) none
  | .ag l, .ag xs => getL l xs
  | .tp l, .tp xs => getL l xs
  | .ifc t s, .ifc t' x => cond (Nat.beq t' t) (getSh s x) none
  | .dead, _ => some []
  | _, _ => none
def getL : List Sh → List X → Option (List HV)
  | [], [] => some []
  | s :: l, x :: xs => match getSh s x, getL l xs with
    | some a, some b => some (a ++ b)
    | _, _ => none
  | _, _ => none
end
mutual
def fillSh : Sh → List HV → X × List HV
  | .i k, ⟨.ti, n⟩ :: l => (.i k n, l)
  | .b, ⟨.tb, q⟩ :: l => (.b q, l)
  | .s, ⟨.ts, x⟩ :: l => (.s x, l)
  | .li k m, l => (.i k m, l)
  | .lb p, l => (.b p, l)
  | .c v, l => (.c v, l)
  | .fz nl _, ⟨.tl r, xs⟩ :: l => (.fz nl r xs, l)
  | .sl nl o, l => (.sl nl o, l)
  | .sw o, ⟨.tn, off⟩ :: ⟨.tn, len⟩ :: l => (.sw o off len, l)
  | .pt o off, l => (.pt o off, l)
  | .pe o off, ⟨.tn, i⟩ :: l => (.pe o i off, l)
  | .pf _ off, ⟨.tw r, x⟩ :: l => (.pf r x off, l)
  | .mp o, l => (.mp o, l)
  | .it o, l => (.it o, l)
  | .sp o, l => (.sp o, l)
  | .fn f ss, l => let p := fillL ss l; (.fn f p.1, p.2)
  | .ag ss, l => let p := fillL ss l; (.ag p.1, p.2)
  | .tp ss, l => let p := fillL ss l; (.tp p.1, p.2)
  | .ifc t s, l => let p := fillSh s l; (.ifc t p.1, p.2)
  | _, l => (.dead, l)
def fillL : List Sh → List HV → List X × List HV
  | [], l => ([], l)
  | s :: ss, l => let p := fillSh s l; let q := fillL ss p.2; (p.1 :: q.1, q.2)
end
mutual
/-- as many holes as a shape has -/
def Sh.holes : Sh → List HTy
  | .i _ => [.ti]
  | .b => [.tb]
  | .s => [.ts]
  | .fz _ r => [.tl r]
  | .sw _ => [.tn, .tn]
  | .pe _ _ => [.tn]
  | .pf r _ => [.tw r]
  | .fn _ l => holesL l
  | .ag l => holesL l
  | .tp l => holesL l
  | .ifc _ s => s.holes
  | _ => []
def holesL : List Sh → List HTy
  | [] => []
  | s :: l => s.holes ++ holesL l
end

omit [Mo] in
theorem wk_fz {nl nl' : Nl} {rows : List (List T)} (h : nlLe nl' nl = true) : Wk (.t (.fz nl' rows)) (.t (.fz nl rows)) := by
  cases nl <;> cases nl' <;> first | (cases h; done) | exact Wk.refl _ | exact Wk.of (.fz _ _)
omit [Mo] in
theorem wk_sl {nl nl' : Nl} {o : Nat} (h : nlLe nl' nl = true) : Wk (.sl nl' o) (.sl nl o) := by
  cases nl <;> cases nl' <;> first | (cases h; done) | exact Wk.refl _ | exact Wk.of (.sl _ _)
omit [Mo] in
theorem wk_nil {nl : Nl} (h : nlMay nl = true) : Wk (.t (.sc (.slice none 0 0))) (.t (.fz nl [])) := Wk.of (.nil nl (by rintro rfl; cases h))
omit [Mo] in
theorem wk_sp (o : Nat) : Wk (.pt o 0) (.sp o) := fun w F loc v h => by
  cases h with
  | gone _ o' _ hx ho => cases hx; exact .gone _ o _ rfl ho
  | pt _ _ b ho => exact .sp o b ho
omit [Mo] in
theorem wk_spn (o : Nat) : Wk (X.enc (.c (.pointer none))) (.sp o) := fun w F loc v h => by
  have h' : RelV w F loc (.t (.sc (.pointer none))) v := h
  rw [relV_sc h']
  exact .spn o

omit [Mo] in
mutual
theorem getSh_wk : ∀ (sh : Sh) (x : X) (hs l : List HV), getSh sh x = some hs → ∃ x', fillSh sh (hs ++ l) = (x', l) ∧ Wk x.enc x'.enc
  | .dead, x, hs, l, h => by simp only [getSh] at h; cases h; exact ⟨.dead, rfl, Wk.of (.dead _)⟩
  | .i k, .i k' n, hs, l, h => by
    simp only [getSh] at h
    split at h
    · rename_i hk; cases h; subst hk; exact ⟨_, rfl, Wk.refl _⟩
    · cases h
  | .b, .b q, hs, l, h => by simp only [getSh] at h; cases h; exact ⟨_, rfl, Wk.refl _⟩
  | .s, .s q, hs, l, h => by simp only [getSh] at h; cases h; exact ⟨_, rfl, Wk.refl _⟩
  | .li k m, .i k' n, hs, l, h => by
    simp only [getSh] at h
    split at h
    · rename_i hk; cases h; obtain ⟨rfl, rfl⟩ := hk; exact ⟨_, rfl, Wk.refl _⟩
    · cases h
  | .lb p, .b q, hs, l, h => by
    simp only [getSh] at h
    split at h
    · rename_i hk; cases h; subst hk; exact ⟨_, rfl, Wk.refl _⟩
    · cases h
  | .c v, .c w, hs, l, h => by
    simp only [getSh] at h
    obtain ⟨h1, rfl⟩ := cond_some h
    exact ⟨_, rfl, by rw [sameC_eq h1]; exact Wk.refl _⟩
  | .fz nl r, .fz nl' r' xs, hs, l, h => by
    simp only [getSh] at h
    cases hc : nlLe nl' nl with
    | false => rw [hc] at h; cases h
    | true =>
      rw [hc] at h
      simp only [cond_true] at h
      split at h
      · rename_i g _
        obtain ⟨g⟩ := g
        subst g
        cases h; exact ⟨_, rfl, wk_fz hc⟩
      · cases h
  | .fz nl r, .c v, hs, l, h => by
    simp only [getSh] at h
    obtain ⟨h1, rfl⟩ := cond_some h
    simp only [Bool.and_eq_true] at h1
    obtain rfl := isNilSl_eq h1.2
    exact ⟨_, rfl, wk_nil h1.1⟩
  | .sl nl o, .sl nl' o', hs, l, h => by
    simp only [getSh] at h
    obtain ⟨h1, rfl⟩ := cond_some h
    simp only [Bool.and_eq_true] at h1
    exact ⟨_, rfl, by rw [Nat.eq_of_beq_eq_true h1.2]; exact wk_sl h1.1⟩
  | .sw o, .sw o' off len, hs, l, h => by
    simp only [getSh] at h
    obtain ⟨h1, rfl⟩ := cond_some h
    exact ⟨_, rfl, by rw [Nat.eq_of_beq_eq_true h1]; exact Wk.refl _⟩
  | .pt o off, .pt o' off', hs, l, h => by
    simp only [getSh] at h
    obtain ⟨h1, rfl⟩ := cond_some h
    simp only [Bool.and_eq_true] at h1
    exact ⟨_, rfl, by rw [Nat.eq_of_beq_eq_true h1.1, Nat.eq_of_beq_eq_true h1.2]; exact Wk.refl _⟩
  | .pe o off, .pe o' i off', hs, l, h => by
    simp only [getSh] at h
    obtain ⟨h1, rfl⟩ := cond_some h
    simp only [Bool.and_eq_true] at h1
    exact ⟨_, rfl, by rw [Nat.eq_of_beq_eq_true h1.1, Nat.eq_of_beq_eq_true h1.2]; exact Wk.refl _⟩
  | .pf r off, .pf r' x off', hs, l, h => by
    simp only [getSh] at h
    cases hc : Nat.beq off' off with
    | false => rw [hc] at h; cases h
    | true =>
      rw [hc] at h
      simp only [cond_true] at h
      split at h
      · rename_i g _
        obtain ⟨g⟩ := g
        subst g
        cases h; exact ⟨_, rfl, by rw [Nat.eq_of_beq_eq_true hc]; exact Wk.refl _⟩
      · cases h
  | .mp o, .mp o', hs, l, h => by
    simp only [getSh] at h
    obtain ⟨h1, rfl⟩ := cond_some h
    exact ⟨_, rfl, by rw [Nat.eq_of_beq_eq_true h1]; exact Wk.refl _⟩
  | .it o, .it o', hs, l, h => by
    simp only [getSh] at h
    obtain ⟨h1, rfl⟩ := cond_some h
    exact ⟨_, rfl, by rw [Nat.eq_of_beq_eq_true h1]; exact Wk.refl _⟩
  | .sp o, .sp o', hs, l, h => by
    simp only [getSh] at h
    obtain ⟨h1, rfl⟩ := cond_some h
    exact ⟨_, rfl, by rw [Nat.eq_of_beq_eq_true h1]; exact Wk.refl _⟩
  | .sp o, .pt o' off, hs, l, h => by
    simp only [getSh] at h
    obtain ⟨h1, rfl⟩ := cond_some h
    simp only [Bool.and_eq_true] at h1
    exact ⟨_, rfl, by rw [Nat.eq_of_beq_eq_true h1.1, Nat.eq_of_beq_eq_true h1.2]; exact wk_sp o⟩
  | .sp o, .c v, hs, l, h => by
    simp only [getSh] at h
    obtain ⟨h1, rfl⟩ := cond_some h
    exact ⟨_, rfl, by rw [sameC_eq h1]; exact wk_spn o⟩
  | .fn f ss, .fn f' xs, hs, l, h => by
    simp only [getSh] at h
    cases hc : Nat.beq f' f with
    | false => rw [hc] at h; cases h
    | true =>
      rw [hc] at h
      obtain ⟨xs', h1, h2⟩ := getL_wk ss xs hs l h
      exact ⟨.fn f xs', by simp only [fillSh, h1], by rw [Nat.eq_of_beq_eq_true hc]; simp only [X.enc, encL_map]; exact Wk.fn h2⟩
  | .ag ss, .ag xs, hs, l, h => by
    simp only [getSh] at h
    obtain ⟨xs', h1, h2⟩ := getL_wk ss xs hs l h
    exact ⟨.ag xs', by simp only [fillSh, h1], by simp only [X.enc, encL_map]; exact Wk.ag h2⟩
  | .tp ss, .tp xs, hs, l, h => by
    simp only [getSh] at h
    obtain ⟨xs', h1, h2⟩ := getL_wk ss xs hs l h
    exact ⟨.tp xs', by simp only [fillSh, h1], by simp only [X.enc, encL_map]; exact Wk.tp h2⟩
  | .ifc t s, .ifc t' x, hs, l, h => by
    simp only [getSh] at h
    cases hc : Nat.beq t' t with
    | false => rw [hc] at h; cases h
    | true =>
      rw [hc] at h
      obtain ⟨x', h1, h2⟩ := getSh_wk s x hs l h
      exact ⟨.ifc t x', by simp only [fillSh, h1], by rw [Nat.eq_of_beq_eq_true hc]; exact Wk.ifc h2⟩
theorem getL_wk : ∀ (ss : List Sh) (xs : List X) (hs l : List HV), getL ss xs = some hs → ∃ xs', fillL ss (hs ++ l) = (xs', l) ∧ WkL (xs.map X.enc) (xs'.map X.enc)
  | [], [], hs, l, h => by simp only [getL] at h; cases h; exact ⟨[], rfl, WkL.nil⟩
  | s :: ss, x :: xs, hs, l, h => by
    simp only [getL] at h
    split at h
    · rename_i a b ha hb
      cases h
      obtain ⟨x', h1, h2⟩ := getSh_wk s x a (b ++ l) ha
      obtain ⟨xs', h3, h4⟩ := getL_wk ss xs b l hb
      refine ⟨x' :: xs', ?_, ?_⟩
      · rw [List.append_assoc]; simp only [fillL, h1, h3]
      · exact WkL.cons h2 h4
    · cases h
end
end Go.Proofs.YtobfoiomjfdjjaaDoor.Mc

/- THE MACHINE (52): templates of states; a state brought to a template. -/
namespace Go.Proofs.YtobfoiomjfdjjaaDoor.Mc
open Go.RowKit
variable [Mo]
set_option linter.constructorNameAsVariable false
variable {P : Program} {D : Dec}

inductive OSh where
  | ar (e : TypeId) (r : Row)
  | bx (e : TypeId) (l : List Sh)
  | mp (t : MT)
  | mq (t : MT) (i : Nat)
  | si
  | mi (m : Nat)
  | gone
structure Tpl where
  t : List (Nat × Sh)
  s : List (Nat × OSh)

def getO : OSh → Option XO → Option (List HV)
  | .ar e r, some (.ar e' r' xs) => cond (Nat.beq e' e) (match Row.eq? r' r with | some h => some [⟨.tl r, h.down ▸ xs⟩] | none => none) none
  | .bx e l, some (.bx e' cells) => cond (Nat.beq e' e) (getL l cells) none
  | .mp t, some (.mp t' es) => match MT.eq? t' t with | some h => some [⟨.tm t, h.down ▸ es⟩] | none => none
  | .mq t i, some (.mq t' es i' rest _) => cond (Nat.beq i' i) (match MT.eq? t' t with | some h => some [⟨.tq t, h.down ▸ (es, rest)⟩] | none => none) none
  | .si, some (.si s pos) => some [⟨.ts, s⟩, ⟨.tn, pos⟩]
  | .mi m, some (.mi m') => cond (Nat.beq m' m) (some []) none
  | .gone, none => some []
  | _, _ => none
def fillO : OSh → List HV → Option XO × List HV
  | .ar e _, ⟨.tl r, xs⟩ :: l => (some (.ar e r xs), l)
  | .bx e ss, l => let p := fillL ss l; (some (.bx e p.1), p.2)
  | .mp _, ⟨.tm t, es⟩ :: l => (some (.mp t es), l)
  | .mq _ i, ⟨.tq t, p⟩ :: l => (some (.mq t p.1 i p.2 []), l)
  | .si, ⟨.ts, s⟩ :: ⟨.tn, pos⟩ :: l => (some (.si s pos), l)
  | .mi m, l => (some (.mi m), l)
  | _, l => (none, l)
def OSh.holes : OSh → List HTy
  | .ar _ r => [.tl r]
  | .bx _ l => holesL l
  | .mp t => [.tm t]
  | .mq t _ => [.tq t]
  | .si => [.ts, .tn]
  | .mi _ => []
  | .gone => []
def OWk (x y : Option XO) : Prop := x = y ∨ (∃ e xs ys, x = some (.bx e xs) ∧ y = some (.bx e ys) ∧ WkL (xs.map X.enc) (ys.map X.enc)) ∨ (∃ t es i rest cu, x = some (.mq t es i rest cu) ∧ y = some (.mq t es i rest [])) ∨ ∃ e r xs, e < 1000000 ∧ x = some (.ar e r xs) ∧ y = some (.ar (e + 2000000) r xs)
omit [Mo] in
theorem getO_wk : ∀ (o : OSh) (x : Option XO) (hs l : List HV), getO o x = some hs → ∃ x', fillO o (hs ++ l) = (x', l) ∧ OWk x x'
  | .ar e r, some (.ar e' r' xs), hs, l, h => by
    simp only [getO] at h
    cases hc : Nat.beq e' e with
    | false => rw [hc] at h; cases h
    | true =>
      rw [hc] at h
      simp only [cond_true] at h
      split at h
      · rename_i g _
        obtain ⟨g⟩ := g
        subst g
        cases h
        exact ⟨_, rfl, .inl (by rw [Nat.eq_of_beq_eq_true hc])⟩
      · cases h
  | .bx e ss, some (.bx e' cells), hs, l, h => by
    simp only [getO] at h
    cases hc : Nat.beq e' e with
    | false => rw [hc] at h; cases h
    | true =>
      rw [hc] at h
      obtain ⟨xs', h1, h2⟩ := getL_wk ss cells hs l h
      refine ⟨some (.bx e xs'), by simp only [fillO, h1], .inr (.inl ⟨e, cells, xs', by rw [Nat.eq_of_beq_eq_true hc], rfl, h2⟩)⟩
  | .mp t, some (.mp t' es), hs, l, h => by
    simp only [getO] at h
    split at h
    · rename_i g _
      obtain ⟨g⟩ := g
      subst g
      cases h
      exact ⟨_, rfl, .inl rfl⟩
    · cases h
  | .mq t i, some (.mq t' es i' rest cu), hs, l, h => by
    simp only [getO] at h
    cases hc : Nat.beq i' i with
    | false => rw [hc] at h; cases h
    | true =>
      rw [hc] at h
      simp only [cond_true] at h
      split at h
      · rename_i g _
        obtain ⟨g⟩ := g
        subst g
        cases h
        exact ⟨_, rfl, .inr (.inr (.inl ⟨t', es, i, rest, cu, by rw [Nat.eq_of_beq_eq_true hc], rfl⟩))⟩
      · cases h
  | .mi m, some (.mi m'), hs, l, h => by
    simp only [getO] at h
    obtain ⟨h1, rfl⟩ := cond_some h
    exact ⟨some (.mi m), rfl, .inl (by rw [Nat.eq_of_beq_eq_true h1])⟩
  | .si, some (.si s pos), hs, l, h => by simp only [getO] at h; cases h; exact ⟨_, rfl, .inl rfl⟩
  | .gone, none, hs, l, h => by simp only [getO] at h; cases h; exact ⟨none, by simp [fillO], .inl rfl⟩
  | .ar _ _, none, _, _, h => by simp [getO] at h
  | .ar _ _, some (.bx _ _), _, _, h => by simp [getO] at h
  | .ar _ _, some (.mp _ _), _, _, h => by simp [getO] at h
  | .ar _ _, some (.mq _ _ _ _ _), _, _, h => by simp [getO] at h
  | .ar _ _, some (.si _ _), _, _, h => by simp [getO] at h
  | .ar _ _, some (.mi _), _, _, h => by simp [getO] at h
  | .bx _ _, none, _, _, h => by simp [getO] at h
  | .bx _ _, some (.ar _ _ _), _, _, h => by simp [getO] at h
  | .bx _ _, some (.mp _ _), _, _, h => by simp [getO] at h
  | .bx _ _, some (.mq _ _ _ _ _), _, _, h => by simp [getO] at h
  | .bx _ _, some (.si _ _), _, _, h => by simp [getO] at h
  | .bx _ _, some (.mi _), _, _, h => by simp [getO] at h
  | .mp _, none, _, _, h => by simp [getO] at h
  | .mp _, some (.ar _ _ _), _, _, h => by simp [getO] at h
  | .mp _, some (.bx _ _), _, _, h => by simp [getO] at h
  | .mp _, some (.mq _ _ _ _ _), _, _, h => by simp [getO] at h
  | .mp _, some (.si _ _), _, _, h => by simp [getO] at h
  | .mp _, some (.mi _), _, _, h => by simp [getO] at h
  | .mq _ _, none, _, _, h => by simp [getO] at h
  | .mq _ _, some (.ar _ _ _), _, _, h => by simp [getO] at h
  | .mq _ _, some (.bx _ _), _, _, h => by simp [getO] at h
  | .mq _ _, some (.mp _ _), _, _, h => by simp [getO] at h
  | .mq _ _, some (.si _ _), _, _, h => by simp [getO] at h
  | .mq _ _, some (.mi _), _, _, h => by simp [getO] at h
  | .si, none, _, _, h => by simp [getO] at h
  | .si, some (.ar _ _ _), _, _, h => by simp [getO] at h
  | .si, some (.bx _ _), _, _, h => by simp [getO] at h
  | .si, some (.mp _ _), _, _, h => by simp [getO] at h
  | .si, some (.mq _ _ _ _ _), _, _, h => by simp [getO] at h
  | .si, some (.mi _), _, _, h => by simp [getO] at h
  | .mi _, none, _, _, h => by simp [getO] at h
  | .mi _, some (.ar _ _ _), _, _, h => by simp [getO] at h
  | .mi _, some (.bx _ _), _, _, h => by simp [getO] at h
  | .mi _, some (.mp _ _), _, _, h => by simp [getO] at h
  | .mi _, some (.mq _ _ _ _ _), _, _, h => by simp [getO] at h
  | .mi _, some (.si _ _), _, _, h => by simp [getO] at h
  | .gone, some _, _, _, h => by simp [getO] at h

/-! lists of slots and of objects -/
def getT : List (Nat × Sh) → XT → Option (List HV)
  | [], [] => some []
  | (i, sh) :: l, (j, x) :: t => cond (Nat.beq j i) (match getSh sh x, getT l t with | some a, some b => some (a ++ b) | _, _ => none) none
  | _, _ => none
def fillT : List (Nat × Sh) → List HV → XT × List HV
  | [], l => ([], l)
  | (i, sh) :: ss, l => let p := fillSh sh l; let q := fillT ss p.2; ((i, p.1) :: q.1, q.2)
def getS : List (Nat × OSh) → XS → Option (List HV)
  | [], [] => some []
  | (o, sh) :: l, (p, x) :: t => cond (Nat.beq p o) (match getO sh x, getS l t with | some a, some b => some (a ++ b) | _, _ => none) none
  | _, _ => none
def fillS : List (Nat × OSh) → List HV → XS × List HV
  | [], l => ([], l)
  | (o, sh) :: ss, l => let p := fillO sh l; let q := fillS ss p.2; ((o, p.1) :: q.1, q.2)
inductive WkT : XT → XT → Prop where
  | nil : WkT [] []
  | cons (i : Nat) (x y : X) (t u : XT) (h : Wk x.enc y.enc) (k : WkT t u) : WkT ((i, x) :: t) ((i, y) :: u)
inductive WkS : XS → XS → Prop where
  | nil : WkS [] []
  | cons (o : Nat) (x y : Option XO) (s u : XS) (h : OWk x y) (k : WkS s u) : WkS ((o, x) :: s) ((o, y) :: u)
omit [Mo] in
theorem getT_wk : ∀ (ss : List (Nat × Sh)) (t : XT) (hs l : List HV), getT ss t = some hs → ∃ t', fillT ss (hs ++ l) = (t', l) ∧ WkT t t'
  | [], [], hs, l, h => by simp only [getT] at h; cases h; exact ⟨[], rfl, .nil⟩
  | (i, sh) :: ss, (j, x) :: t, hs, l, h => by
    simp only [getT] at h
    cases hc : Nat.beq j i with
    | false => rw [hc] at h; cases h
    | true =>
      rw [hc] at h
      simp only [cond_true] at h
      split at h
      · rename_i a b ha hb
        cases h
        obtain ⟨x', h1, h2⟩ := getSh_wk sh x a (b ++ l) ha
        obtain ⟨t', h3, h4⟩ := getT_wk ss t b l hb
        refine ⟨(i, x') :: t', ?_, ?_⟩
        · rw [List.append_assoc]; simp only [fillT, h1, h3]
        · rw [Nat.eq_of_beq_eq_true hc]; exact .cons _ _ _ _ _ h2 h4
      · cases h
  | [], _ :: _, _, _, h => by simp [getT] at h
  | _ :: _, [], _, _, h => by simp [getT] at h
omit [Mo] in
theorem getS_wk : ∀ (ss : List (Nat × OSh)) (t : XS) (hs l : List HV), getS ss t = some hs → ∃ t', fillS ss (hs ++ l) = (t', l) ∧ WkS t t'
  | [], [], hs, l, h => by simp only [getS] at h; cases h; exact ⟨[], rfl, .nil⟩
  | (i, sh) :: ss, (j, x) :: t, hs, l, h => by
    simp only [getS] at h
    cases hc : Nat.beq j i with
    | false => rw [hc] at h; cases h
    | true =>
      rw [hc] at h
      simp only [cond_true] at h
      split at h
      · rename_i a b ha hb
        cases h
        obtain ⟨x', h1, h2⟩ := getO_wk sh x a (b ++ l) ha
        obtain ⟨t', h3, h4⟩ := getS_wk ss t b l hb
        refine ⟨(i, x') :: t', ?_, ?_⟩
        · rw [List.append_assoc]; simp only [fillS, h1, h3]
        · rw [Nat.eq_of_beq_eq_true hc]; exact .cons _ _ _ _ _ h2 h4
      · cases h
  | [], _ :: _, _, _, h => by simp [getS] at h
  | _ :: _, [], _, _, h => by simp [getS] at h

omit [Mo] in
theorem WkT.get : ∀ {t u : XT}, WkT t u → ∀ (i : Nat), (lk t i = none ∧ lk u i = none) ∨ ∃ x y, lk t i = some x ∧ lk u i = some y ∧ Wk x.enc y.enc
  | _, _, .nil, i => .inl ⟨rfl, rfl⟩
  | _, _, .cons j x y t u h k, i => by
    rw [lk, lk]
    cases Nat.beq j i with
    | true => exact .inr ⟨x, y, rfl, rfl, h⟩
    | false => exact k.get i
theorem RelS.wkMq {B : Base} {w : World} {F : Nat → Prop} {loc : Nat → Option Loc} {s : Store} (hS : RelS noG B w F loc s) {o : Nat} {kd : TypeDesc} {ag : Bool} {es : List (Value × List T)} {i : Nat} {rest cu : List (Value × List T)} (ho : s o = some (some (.mq kd ag es i rest cu))) :
    RelS noG B w F loc (upd s o (some (some (.mq kd ag es i rest [])))) := by
  refine { hS with obs := fun o' obj h' => ?_, dom := fun o' l hl' => ?_ }
  · by_cases hod : o' = o
    · subst hod
      rw [upd_self] at h'; cases h'
      obtain ⟨l, h1, h2⟩ := hS.obs o' _ ho
      refine ⟨l, h1, ?_⟩
      cases h2 with
      | mq _ _ _ _ _ _ b en clock vs vr c since c0 seen hb hm hi hc hok => exact .mq kd ag es i rest [] b en clock vs vr c since c0 seen hb hm hi hc ⟨hok.sc, hok.sk, hok.old, hok.ents, hok.al, [], ⟨rfl, fun i k r h => by simp at h⟩, fun k v h => by simp at h⟩
      | mqg _ _ _ _ _ _ b en clock vs hb hm hi => exact .mqg kd ag es i rest [] b en clock vs hb hm hi
    · rw [upd_ne _ _ hod] at h'; exact hS.obs o' obj h'
  · by_cases hod : o' = o
    · subst hod; exact ⟨_, upd_self _ _ _⟩
    · rw [upd_ne _ _ hod]; exact hS.dom o' l hl'
theorem RelS.wkO {B : Base} {w : World} {F : Nat → Prop} {loc : Nat → Option Loc} {pre post : XS} {o : Nat} {x y : Option XO} (hS : RelS noG B w F loc (encS (pre ++ (o, x) :: post))) (h : OWk x y) : RelS noG B w F loc (encS (pre ++ (o, y) :: post)) := by
  have hsplit : ∀ (z : Option XO), encS (pre ++ (o, z) :: post) = if (lk pre o).isSome then encS (pre ++ post) else upd (encS (pre ++ post)) o (some (z.map XO.enc)) := by
    intro z
    funext n
    unfold encS
    rw [lk_append]
    by_cases hn : n = o
    · subst hn
      cases hp : lk pre n with
      | some q => simp [lk_append, hp]
      | none => simp [lk, upd_self]
    · have hb : Nat.beq o n = false := by rw [← Bool.not_eq_true, Nat.beq_eq]; exact fun h => hn h.symm
      rw [lk, hb, cond_false]
      by_cases hs : (lk pre o).isSome = true
      · rw [if_pos hs]; simp only [lk_append]
      · rw [if_neg hs, upd_ne _ _ hn]; simp only [lk_append]
  have hu : ∀ (y z : Option (Option O)), upd (upd (encS (pre ++ post)) o y) o z = upd (encS (pre ++ post)) o z := by
    intro y z; funext m; by_cases hm : m = o
    · subst hm; simp [upd_self]
    · simp [upd_ne _ _ hm]
  rcases h with rfl | ⟨e, xs, ys, rfl, rfl, hw⟩ | ⟨t, es, i, rest, cu, rfl, rfl⟩ | ⟨e, r, xs, he, rfl, rfl⟩
  rotate_right
  · rw [hsplit] at hS ⊢
    split at hS
    · rename_i hs; rw [if_pos hs]; exact hS
    · rename_i hs
      rw [if_neg hs]
      have := hS.flagAr (o := o) (e := e) (sz := r.len) (rows := xs.map r.en) (upd_self _ _ _) he
      rw [hu] at this
      exact this
  · exact hS
  · rw [hsplit] at hS ⊢
    split at hS
    · rename_i hs; rw [if_pos hs]; exact hS
    · rename_i hs
      rw [if_neg hs]
      have := hS.wkBox (o := o) (e := e) (xs := encL xs) (ys := encL ys) (upd_self _ _ _) (by rw [encL_map, encL_map]; exact hw)
      rw [hu] at this
      exact this
  · rw [hsplit] at hS ⊢
    split at hS
    · rename_i hs; rw [if_pos hs]; exact hS
    · rename_i hs
      rw [if_neg hs]
      have := hS.wkMq (o := o) (kd := t.kt.desc) (ag := t.ag) (es := t.en es) (i := i) (rest := t.en rest) (cu := t.en cu) (upd_self _ _ _)
      rw [hu] at this
      exact this

theorem RelS.wkS {B : Base} {w : World} {F : Nat → Prop} {loc : Nat → Option Loc} {post : XS} : ∀ {s u : XS}, WkS s u → ∀ (pre : XS), RelS noG B w F loc (encS (pre ++ (s ++ post))) → RelS noG B w F loc (encS (pre ++ (u ++ post)))
  | _, _, .nil, pre, h => h
  | _, _, .cons o x y s u hw k, pre, h => by
    have h1 := RelS.wkO (pre := pre) (post := s ++ post) h hw
    have h2 := RelS.wkS k (pre ++ [(o, y)]) (by simpa using h1)
    simpa using h2

theorem Conv.wk {E : XE} {t u : XT} {s v : XS} (ht : WkT t u) (hs : WkS s v) : Conv noG (encSt E ⟨t, s⟩) (encSt E ⟨u, v⟩) := by
  intro B F loc tmps w hR
  refine ⟨F, loc, ⟨?_, fun i => ?_, hR.n, hR.a⟩⟩
  · exact RelS.wkS (pre := []) hs hR.s
  · have := hR.t i
    show RelV w F loc (encT (u ++ E.t) i) _
    have h1 : RelV w F loc (encT (t ++ E.t) i) (tmps.getD i undef) := this
    unfold encT at h1 ⊢
    rw [lk_append] at h1 ⊢
    rcases ht.get i with ⟨h2, h3⟩ | ⟨x, y, h2, h3, h4⟩
    · rw [h3]; rw [h2] at h1; exact h1
    · rw [h3]; rw [h2] at h1; exact h4 _ _ _ _ h1

def getTpl (tp : Tpl) (st : XSt) : Option (List HV) := match getT tp.t st.t, getS tp.s st.s with | some a, some b => some (a ++ b) | _, _ => none
def fillTpl (tp : Tpl) (l : List HV) : XSt := let p := fillT tp.t l; ⟨p.1, (fillS tp.s p.2).1⟩
theorem Conv.tpl {E : XE} {tp : Tpl} {st : XSt} {hs : List HV} (h : getTpl tp st = some hs) : Conv noG (encSt E st) (encSt E (fillTpl tp hs)) := by
  unfold getTpl at h
  split at h
  · rename_i a b ha hb
    cases h
    obtain ⟨t', h1, h2⟩ := getT_wk tp.t st.t a b ha
    obtain ⟨s', h3, h4⟩ := getS_wk tp.s st.s b [] hb
    rw [List.append_nil] at h3
    unfold fillTpl
    simp only [h1, h3]
    exact Conv.wk h2 h4
  · cases h

/-! names found by walking along the shapes -/
structure Acc where
  ρ : Ren
  fz : List Nat
def Acc.pair (a : Acc) (o o' : Nat) : Acc := cond (a.ρ.any fun p => Nat.beq p.1 o) a ⟨a.ρ ++ [(o, o')], a.fz⟩
def Acc.frz (a : Acc) (o : Nat) : Acc := ⟨a.ρ, a.fz ++ [o]⟩
mutual
def bindSh : Sh → X → Acc → Acc
  | .fz _ _, .sl _ o, a => a.frz o
  | .fz _ _, .sw o _ _, a => a.frz o
  | .sl _ o, .sl _ o', a => a.pair o o'
  | .sw o, .sw o' _ _, a => a.pair o o'
  | .pt o _, .pt o' _, a => a.pair o o'
  | .pe o _, .pe o' _ _, a => a.pair o o'
  | .mp o, .mp o', a => a.pair o o'
  | .it o, .it o', a => a.pair o o'
  | .sp o, .sp o', a => a.pair o o'
  | .sp o, .pt o' _, a => a.pair o o'
  | .fn _ l, .fn _ xs, a => bindL l xs a
  | .ag l, .ag xs, a => bindL l xs a
  | .tp l, .tp xs, a => bindL l xs a
  | .ifc _ s, .ifc _ x, a => bindSh s x a
  | _, _, a => a
def bindL : List Sh → List X → Acc → Acc
  | s :: l, x :: xs, a => bindL l xs (bindSh s x a)
  | _, _, a => a
end
def arOf (tp : Tpl) (o : Nat) : Option (Nat × Row) := match lk tp.s o with | some (.ar e r) => some (e, r) | _ => none
def slName : Sh → Option Nat | .sl _ o => some o | _ => none
def freeN (s : XS) : Nat → Nat → Nat
  | 0, n => n
  | k + 1, n => match lk s n with | none => n | some _ => freeN s k (n + 1)
/-- slots: nil where an owned row is wanted, and names -/
def walkT (E : XE) (tp : Tpl) : List (Nat × Sh) → Acc → XSt → Option (Acc × XSt)
  | [], a, st => some (a, st)
  | (i, sh) :: l, a, st => match slName sh, isNilX (lkE E st i) with
    | some o, true => match arOf tp o with
      | some (e, r) => match xnilSlot E i (freeN (st.s ++ E.s) 50 (o + 600000)) e r st with
        | some st' => walkT E tp l (a.pair o (freeN (st.s ++ E.s) 50 (o + 600000))) st'
        | none => none
      | none => none
    | _, _ => walkT E tp l (bindSh sh (lkE E st i) a) st
def walkC (E : XE) (tp : Tpl) (m : Nat) : Nat → List Sh → List X → Acc → XSt → Option (Acc × XSt)
  | j, sh :: l, x :: xs, a, st => match slName sh, isNilX x with
    | some o, true => match arOf tp o with
      | some (e, r) => match xnilBox E m j (freeN (st.s ++ E.s) 50 (o + 600000)) e r st with
        | some st' => walkC E tp m (j + 1) l xs (a.pair o (freeN (st.s ++ E.s) 50 (o + 600000))) st'
        | none => none
      | none => none
    | _, _ => walkC E tp m (j + 1) l xs (bindSh sh x a) st
  | _, _, _, a, st => some (a, st)
def nameOf (a : Acc) (n : Nat) : Nat := match lk a.ρ n with | some m => m | none => n
def walkS (E : XE) (tp : Tpl) : List (Nat × OSh) → Acc → XSt → Option (Acc × XSt)
  | [], a, st => some (a, st)
  | (n, .bx _ l) :: r, a, st => match lk st.s (nameOf a n) with
    | some (some (.bx _ cells)) => match walkC E tp (nameOf a n) 0 l cells a st with
      | some (a', st') => walkS E tp r a' st'
      | none => none
    | _ => walkS E tp r a st
  | _ :: r, a, st => walkS E tp r a st
def freezeL (E : XE) : List Nat → XSt → Option XSt
  | [], st => some st
  | o :: l, st => match lk st.s o with
    | some (some (.ar _ _ _)) => match xfreeze E o st with
      | some st' => freezeL E l st'
      | none => none
    | _ => freezeL E l st
/-- an object under another name, its old name gone -/
def xmove (E : XE) (o d : Nat) (st : XSt) : Option XSt :=
  match lk st.s o with
  | some (some x) => cond ((lk (st.s ++ E.s) d).isNone && E.t.all (fun p => p.2.allN (neB o)) && E.s.all (fun p => neB o p.1 && oAll (neB o) p.2))
      (some ⟨st.t.map fun p => (p.1, p.2.ren (mvF o d)), (o, none) :: (d, some (x.ren (mvF o d))) :: st.s.map fun p => (p.1, p.2.map (XO.ren (mvF o d)))⟩) none
  | _ => none
def moveL (E : XE) : List (Nat × OSh) → XSt → Option XSt
  | [], st => some st
  | (n, .gone) :: l, st => match lk st.s n with
    | some (some _) => match xmove E n (freeN (st.s ++ E.s) 50 (n + 800000)) st with
      | some st' => moveL E l st'
      | none => none
    | _ => moveL E l st
  | _ :: l, st => moveL E l st
/-- rows that a template wants as none's to write -/
def flagS : List (Nat × OSh) → XS → XS
  | (_, .ar e _) :: l, (m, some (.ar e' r xs)) :: s => (m, some (.ar (cond (Nat.beq e (e' + 2000000) && Nat.blt e' 1000000) (e' + 2000000) e') r xs)) :: flagS l s
  | _ :: l, x :: s => x :: flagS l s
  | [], s => s
  | _, [] => []
def conform (E : XE) (tp : Tpl) (st : XSt) : Option (List HV) :=
  match moveL E tp.s st with
  | none => none
  | some st0 => match walkT E tp tp.t ⟨[], []⟩ st0 with
    | none => none
    | some (a, st1) => match walkS E tp tp.s a st1 with
      | none => none
      | some (a2, st2) => match freezeL E a2.fz st2 with
        | none => none
        | some st3 => match xnorm E (tp.t.map (·.1)) (tp.s.map fun p => (nameOf a2 p.1, p.1)) st3 with
          | none => none
          | some st4 => getTpl tp ⟨st4.t, flagS tp.s st4.s⟩

omit [Mo] in
theorem mvF_fix {o d : Nat} : ∀ n, neB o n = true → fixB (mvF o d) n = true := by
  intro n h
  unfold neB at h
  simp only [Bool.not_eq_true'] at h
  unfold fixB mvF
  simp only [h, cond_false, Nat.beq_refl]
omit [Mo] in
mutual
theorem X.allN_mono {p q : Nat → Bool} (h : ∀ n, p n = true → q n = true) : ∀ (x : X), x.allN p = true → x.allN q = true
  | .sl _ o, k => h o k
  | .sw o _ _, k => h o k
  | .pt o _, k => h o k
  | .pe o _ _, k => h o k
  | .mp o, k => h o k
  | .it o, k => h o k
  | .sp o, k => h o k
  | .fn _ caps, k => allNL_mono h caps k
  | .ag cs, k => allNL_mono h cs k
  | .tp cs, k => allNL_mono h cs k
  | .ifc _ x, k => X.allN_mono h x k
  | .c _, _ => rfl
  | .i _ _, _ => rfl
  | .b _, _ => rfl
  | .s _, _ => rfl
  | .fz _ _ _, _ => rfl
  | .pf _ _ _, _ => rfl
  | .dead, _ => rfl
theorem allNL_mono {p q : Nat → Bool} (h : ∀ n, p n = true → q n = true) : ∀ (xs : List X), allNL p xs = true → allNL q xs = true
  | [], _ => rfl
  | x :: xs, k => by
    simp only [allNL, Bool.and_eq_true] at k ⊢
    exact ⟨X.allN_mono h x k.1, allNL_mono h xs k.2⟩
end
omit [Mo] in
theorem XO.allN_mono {p q : Nat → Bool} (h : ∀ n, p n = true → q n = true) (x : XO) (k : x.allN p = true) : x.allN q = true := by
  cases x with
  | bx e cells => exact allNL_mono h cells k
  | mq t es i rest cu => exact h i k
  | mi m => exact h m k
  | _ => rfl
theorem Conv.xmove {E : XE} {o d : Nat} {st st' : XSt} (h : Mc.xmove E o d st = some st') : Conv noG (encSt E st) (encSt E st') := by
  unfold Mc.xmove at h
  split at h
  · rename_i x hl
    obtain ⟨hc, rfl⟩ := cond_some h
    simp only [Bool.and_eq_true] at hc
    obtain ⟨⟨h0, h1⟩, h2⟩ := hc
    rw [List.all_eq_true] at h1 h2
    have fix : ∀ n, neB o n = true → fixB (mvF o d) n = true := mvF_fix
    have ho : encS (st.s ++ E.s) o = some (some x.enc) := by unfold encS; rw [lk_append, hl]; rfl
    have := Conv.move (G := noG) (t := encT (st.t ++ E.t)) (s := encS (st.s ++ E.s)) (m := E.n) (a := E.a) o d (by rw [ho]; rfl) (encS_free h0)
    have hod : o ≠ d := by
      rintro rfl
      rw [Option.isNone_iff_eq_none, lk_append, hl] at h0; cases h0
    have e1 : (fun i => (encT (st.t ++ E.t) i).ren (mvF o d)) = encT ((st.t.map fun p => (p.1, p.2.ren (mvF o d))) ++ E.t) := by
      funext i
      rw [encT_lk, encT_lk, ← X.ren_enc, lk_append, lk_append, lk_map (fun _ x => X.ren (mvF o d) x)]
      cases lk st.t i with
      | some x => rfl
      | none =>
        simp only [Option.map_none]
        cases he : lk E.t i with
        | none => rfl
        | some x => simp only; rw [X.ren_fix _ x (X.allN_mono fix x (h1 _ (lk_mem he)))]
    have e2 : mvS o d (encS (st.s ++ E.s)) = encS (((o, none) :: (d, some (x.ren (mvF o d))) :: st.s.map fun p => (p.1, p.2.map (XO.ren (mvF o d)))) ++ E.s) := by
      funext n
      unfold mvS
      simp only [ho, Option.map_some]
      unfold encS
      simp only [List.cons_append, lk]
      by_cases hn : n = o
      · subst hn; simp
      · have hb : Nat.beq n o = false := by rw [← Bool.not_eq_true, Nat.beq_eq]; exact hn
        have hb' : Nat.beq o n = false := by rw [← Bool.not_eq_true, Nat.beq_eq]; exact fun e => hn e.symm
        rw [hb, hb', cond_false, cond_false]
        by_cases hd : n = d
        · subst hd; simp [XO.ren_enc]
        · have hc : Nat.beq n d = false := by rw [← Bool.not_eq_true, Nat.beq_eq]; exact hd
          have hc' : Nat.beq d n = false := by rw [← Bool.not_eq_true, Nat.beq_eq]; exact fun e => hd e.symm
          rw [hc, hc', cond_false, cond_false, lk_append, lk_append, lk_map (fun (_ : Nat) (x : Option XO) => x.map (XO.ren (mvF o d)))]
          cases hs : lk st.s n with
          | some x => cases x <;> simp [XO.ren_enc]
          | none =>
            simp only [Option.map_none]
            cases he : lk E.s n with
            | none => rfl
            | some x =>
              have := h2 _ (lk_mem he)
              simp only [Bool.and_eq_true] at this
              cases x with
              | none => rfl
              | some y => simp only [Option.map_some]; rw [← XO.ren_enc, XO.ren_fix _ y (XO.allN_mono fix y this.2)]
    show Conv noG ⟨_, _, _, _⟩ ⟨_, _, _, _⟩
    rw [e1, e2] at this
    exact this
  · cases h
theorem moveL_conv {E : XE} : ∀ {l : List (Nat × OSh)} {st st' : XSt}, moveL E l st = some st' → Conv noG (encSt E st) (encSt E st')
  | [], st, st', h => by simp only [moveL] at h; cases h; exact Conv.refl _
  | (n, .gone) :: l, st, st', h => by
    simp only [moveL] at h
    split at h
    · split at h
      · rename_i st1 h1
        exact Conv.trans (Conv.xmove h1) (moveL_conv h)
      · cases h
    · exact moveL_conv h
  | (n, .ar _ _) :: l, st, st', h => by simp only [moveL] at h; exact moveL_conv h
  | (n, .bx _ _) :: l, st, st', h => by simp only [moveL] at h; exact moveL_conv h
  | (n, .si) :: l, st, st', h => by simp only [moveL] at h; exact moveL_conv h
  | (n, .mp _) :: l, st, st', h => by simp only [moveL] at h; exact moveL_conv h
  | (n, .mq _ _) :: l, st, st', h => by simp only [moveL] at h; exact moveL_conv h
  | (n, .mi _) :: l, st, st', h => by simp only [moveL] at h; exact moveL_conv h
theorem walkT_conv {E : XE} {tp : Tpl} : ∀ {l : List (Nat × Sh)} {a a' : Acc} {st st' : XSt}, walkT E tp l a st = some (a', st') → Conv noG (encSt E st) (encSt E st')
  | [], a, a', st, st', h => by simp only [walkT] at h; cases h; exact Conv.refl _
  | (i, sh) :: l, a, a', st, st', h => by
    simp only [walkT] at h
    split at h
    · split at h
      · split at h
        · rename_i st1 h1
          exact Conv.trans (Conv.xnilSlot h1) (walkT_conv h)
        · cases h
      · cases h
    · exact walkT_conv h
theorem walkC_conv {E : XE} {tp : Tpl} {m : Nat} : ∀ {j : Nat} {l : List Sh} {xs : List X} {a a' : Acc} {st st' : XSt}, walkC E tp m j l xs a st = some (a', st') → Conv noG (encSt E st) (encSt E st')
  | j, sh :: l, x :: xs, a, a', st, st', h => by
    simp only [walkC] at h
    split at h
    · split at h
      · split at h
        · rename_i st1 h1
          exact Conv.trans (Conv.xnilBox h1) (walkC_conv h)
        · cases h
      · cases h
    · exact walkC_conv h
  | _, [], _, a, a', st, st', h => by simp only [walkC] at h; cases h; exact Conv.refl _
  | _, _ :: _, [], a, a', st, st', h => by simp only [walkC] at h; cases h; exact Conv.refl _
theorem walkS_conv {E : XE} {tp : Tpl} : ∀ {l : List (Nat × OSh)} {a a' : Acc} {st st' : XSt}, walkS E tp l a st = some (a', st') → Conv noG (encSt E st) (encSt E st')
  | [], a, a', st, st', h => by simp only [walkS] at h; cases h; exact Conv.refl _
  | (n, .bx e ss) :: l, a, a', st, st', h => by
    simp only [walkS] at h
    split at h
    · split at h
      · rename_i a1 st1 h1
        exact Conv.trans (walkC_conv h1) (walkS_conv h)
      · cases h
    · exact walkS_conv h
  | (n, .ar _ _) :: l, a, a', st, st', h => by simp only [walkS] at h; exact walkS_conv h
  | (n, .si) :: l, a, a', st, st', h => by simp only [walkS] at h; exact walkS_conv h
  | (n, .mp _) :: l, a, a', st, st', h => by simp only [walkS] at h; exact walkS_conv h
  | (n, .mq _ _) :: l, a, a', st, st', h => by simp only [walkS] at h; exact walkS_conv h
  | (n, .mi _) :: l, a, a', st, st', h => by simp only [walkS] at h; exact walkS_conv h
  | (n, .gone) :: l, a, a', st, st', h => by simp only [walkS] at h; exact walkS_conv h
theorem freezeL_conv {E : XE} : ∀ {l : List Nat} {st st' : XSt}, freezeL E l st = some st' → Conv noG (encSt E st) (encSt E st')
  | [], st, st', h => by simp only [freezeL] at h; cases h; exact Conv.refl _
  | o :: l, st, st', h => by
    simp only [freezeL] at h
    split at h
    · split at h
      · rename_i st1 h1
        exact Conv.trans (Conv.xfreeze h1) (freezeL_conv h)
      · cases h
    · exact freezeL_conv h
omit [Mo] in
theorem WkT.self : ∀ (t : XT), WkT t t
  | [] => .nil
  | p :: t => .cons p.1 p.2 p.2 t t (Wk.refl _) (WkT.self t)
omit [Mo] in
theorem flagS_wk : ∀ (l : List (Nat × OSh)) (s : XS), WkS s (flagS l s)
  | [], s => by
    have : ∀ s : XS, WkS s s := fun s => by
      induction s with
      | nil => exact .nil
      | cons p s ih => exact .cons p.1 p.2 p.2 s s (.inl rfl) ih
    simp only [flagS]
    exact this s
  | p :: l, [] => by
    have : flagS (p :: l) [] = [] := by
      obtain ⟨n, o⟩ := p
      cases o <;> rfl
    rw [this]
    exact .nil
  | (n, o) :: l, (m, x) :: s => by
    have ih := flagS_wk l s
    cases o with
    | ar e r0 =>
      cases x with
      | none => exact .cons m none none s _ (.inl rfl) ih
      | some x =>
        cases x with
        | ar e' r xs =>
          simp only [flagS]
          cases hc : Nat.beq e (e' + 2000000) && Nat.blt e' 1000000 with
          | false => exact .cons m _ _ s _ (.inl rfl) ih
          | true =>
            simp only [Bool.and_eq_true] at hc
            exact .cons m _ _ s _ (.inr (.inr (.inr ⟨e', r, xs, by simpa using hc.2, rfl, rfl⟩))) ih
        | _ => exact .cons m _ _ s _ (.inl rfl) ih
    | _ => exact .cons m x x s _ (.inl rfl) ih
theorem Conv.conform {E : XE} {tp : Tpl} {st : XSt} {hs : List HV} (h : Mc.conform E tp st = some hs) : Conv noG (encSt E st) (encSt E (fillTpl tp hs)) := by
  unfold Mc.conform at h
  split at h
  · cases h
  · rename_i st0 h0
    split at h
    · cases h
    · rename_i a st1 h1
      split at h
      · cases h
      · rename_i a2 st2 h2
        split at h
        · cases h
        · rename_i st3 h3
          split at h
          · cases h
          · rename_i st4 h4
            exact (moveL_conv h0).trans ((walkT_conv h1).trans ((walkS_conv h2).trans ((freezeL_conv h3).trans ((Conv.xnorm h4).trans ((Conv.wk (WkT.self _) (flagS_wk tp.s st4.s)).trans (Conv.tpl h))))))
end Go.Proofs.YtobfoiomjfdjjaaDoor.Mc

/- THE MACHINE (53): contracts, typed; calls. -/
namespace Go.Proofs.YtobfoiomjfdjjaaDoor.Mc
open Go.RowKit
variable [Mo]
set_option linter.constructorNameAsVariable false
variable {P : Program} {D : Dec}

/-- one of several tuples -/
def AltT : List (List HTy) → Type
  | [] => Empty
  | [h] => Tup h
  | h :: g :: t => Tup h ⊕ AltT (g :: t)
def mkAlt : (hs : List (List HTy)) → Nat → List HV → Option (AltT hs)
  | [], _, _ => none
  | [h], 0, l => toTup h l
  | [_], _ + 1, _ => none
  | h :: _ :: _, 0, l => match toTup h l with | some y => some (.inl y) | none => none
  | _ :: g :: t, i + 1, l => match mkAlt (g :: t) i l with | some y => some (.inr y) | none => none
def sel.{u} {α β : Type} {γ : Sort u} (f : α → γ) (g : β → γ) : α ⊕ β → γ
  | .inl x => f x
  | .inr y => g y
def elimAlt.{u} {β : Sort u} : (hs : List (List HTy)) → AltT hs → (Nat → List HV → β) → β
  | [], x, _ => x.elim
  | [h], y, f => f 0 (ofTup h y)
  | h :: g :: t, x, f => sel (fun y => f 0 (ofTup h y)) (fun z => elimAlt (g :: t) z fun i l => f (i + 1) l) x
omit [Mo] in
theorem elim_mk.{u} {β : Sort u} : ∀ (hs : List (List HTy)) (i : Nat) (l : List HV) (y : AltT hs) (f : Nat → List HV → β), mkAlt hs i l = some y → elimAlt hs y f = f i l
  | [h], 0, l, y, f, k => by simp only [elimAlt]; rw [toTup_of h l y k]
  | [_], _ + 1, _, _, _, k => by simp [mkAlt] at k
  | [], _, _, y, _, _ => y.elim
  | h :: g :: t, 0, l, y, f, k => by
    simp only [mkAlt] at k
    split at k
    · rename_i z hz; cases k; simp only [elimAlt, sel]; rw [toTup_of h l z hz]
    · cases k
  | h :: g :: t, i + 1, l, y, f, k => by
    simp only [mkAlt] at k
    split at k
    · rename_i z hz; cases k; simp only [elimAlt, sel]; rw [elim_mk (g :: t) i l z _ hz]
    · cases k
omit [Mo] in
theorem elim_mono : ∀ (hs : List (List HTy)) (y : AltT hs) {p q : Nat → List HV → Prop}, (∀ i l, p i l → q i l) → elimAlt hs y p → elimAlt hs y q
  | [], y, _, _, _ => y.elim
  | [_], _, _, _, h => h _ _
  | _ :: _ :: _, .inl _, _, _, h => h _ _
  | _ :: g :: t, .inr z, _, _, h => elim_mono (g :: t) z fun i l => h (i + 1) l
omit [Mo] in
/-- the value and the law of one alternative -/
theorem elim_both {α : Type} {r : α} : ∀ (hs : List (List HTy)) (y : AltT hs) {f : Nat → List HV → Option α} {p : Nat → List HV → Prop}, elimAlt hs y f = some r → elimAlt hs y p → ∃ i l, f i l = some r ∧ p i l
  | [], y, _, _, _, _ => y.elim
  | [_], _, _, _, h, k => ⟨_, _, h, k⟩
  | _ :: _ :: _, .inl _, _, _, h, k => ⟨_, _, h, k⟩
  | _ :: g :: t, .inr z, f, p, h, k => by
    obtain ⟨i, l, h1, h2⟩ := elim_both (g :: t) z (f := fun i l => f (i + 1) l) (p := fun i l => p (i + 1) l) h k
    exact ⟨_, _, h1, h2⟩

structure CTpl where
  a : List Sh
  o : List (Nat × OSh)
structure RTpl where
  v : Sh
  o : List (Nat × OSh)
  h : List HTy
def inOf (A : CTpl) (l : List HV) : List X × XS := let p := fillL A.a l; (p.1, (fillS A.o p.2).1)
def outOf (R : RTpl) (l : List HV) : X × XS := let p := fillSh R.v l; (p.1, (fillS R.o p.2).1)
def rAt (R : List RTpl) (i : Nat) : RTpl := match R[i]? with | some r => r | none => ⟨.dead, [], []⟩
/-- what a call does, typed -/
def CTx (P : Program) (f : FuncId) (vs : List X) (s : XS) (r : X) (s1 : XS) : Prop := CT P noG f (vs.map X.enc) (encS s) fun r' s' => r' = r.enc ∧ s' = encS s1

/-! matches in which nothing is lost -/
def nlEq : Nl → Nl → Bool | .e, .e => true | .n, .n => true | .u, .u => true | _, _ => false
omit [Mo] in
theorem nlEq_eq {a b : Nl} (h : nlEq a b = true) : a = b := by cases a <;> cases b <;> first | rfl | cases h
mutual
def exSh : Sh → X → Bool
  | .fz nl _, .fz nl' _ _ => nlEq nl nl'
  | .fz _ _, .c _ => false
  | .sp _, .pt _ _ => false
  | .sp _, .c _ => false
  | .sl nl _, .sl nl' _ => nlEq nl nl'
  | .fn _ l, .fn _ xs => exL l xs
  | .ag l, .ag xs => exL l xs
  | .tp l, .tp xs => exL l xs
  | .ifc _ s, .ifc _ x => exSh s x
  | .dead, _ => false
  | _, _ => true
def exL : List Sh → List X → Bool
  | s :: l, x :: xs => exSh s x && exL l xs
  | _, _ => true
end
omit [Mo] in
mutual
theorem getSh_ex : ∀ (sh : Sh) (x : X) (hs l : List HV), getSh sh x = some hs → exSh sh x = true → fillSh sh (hs ++ l) = (x, l)
  | .dead, x, hs, l, h, k => by simp [exSh] at k
  | .i k, .i k' n, hs, l, h, _ => by
    simp only [getSh] at h
    split at h
    · rename_i hk; cases h; subst hk; rfl
    · cases h
  | .b, .b q, hs, l, h, _ => by simp only [getSh] at h; cases h; rfl
  | .s, .s q, hs, l, h, _ => by simp only [getSh] at h; cases h; rfl
  | .li k m, .i k' n, hs, l, h, _ => by
    simp only [getSh] at h
    split at h
    · rename_i hk; cases h; obtain ⟨rfl, rfl⟩ := hk; rfl
    · cases h
  | .lb p, .b q, hs, l, h, _ => by
    simp only [getSh] at h
    split at h
    · rename_i hk; cases h; subst hk; rfl
    · cases h
  | .c v, .c w, hs, l, h, _ => by
    simp only [getSh] at h
    obtain ⟨h1, rfl⟩ := cond_some h
    rw [sameC_eq h1]; rfl
  | .fz nl r, .fz nl' r' xs, hs, l, h, k => by
    simp only [getSh] at h
    cases hc : nlLe nl' nl with
    | false => rw [hc] at h; cases h
    | true =>
      rw [hc] at h
      simp only [cond_true] at h
      split at h
      · rename_i g _
        obtain ⟨g⟩ := g
        subst g
        cases h
        have k' : nlEq nl nl' = true := by simpa [exSh] using k
        have := nlEq_eq k'
        subst this; rfl
      · cases h
  | .sl nl o, .sl nl' o', hs, l, h, k => by
    simp only [getSh] at h
    obtain ⟨h1, rfl⟩ := cond_some h
    simp only [Bool.and_eq_true] at h1
    have k' : nlEq nl nl' = true := by simpa [exSh] using k
    have := nlEq_eq k'
    subst this
    rw [Nat.eq_of_beq_eq_true h1.2]; rfl
  | .sw o, .sw o' off len, hs, l, h, _ => by
    simp only [getSh] at h
    obtain ⟨h1, rfl⟩ := cond_some h
    rw [Nat.eq_of_beq_eq_true h1]; rfl
  | .pt o off, .pt o' off', hs, l, h, _ => by
    simp only [getSh] at h
    obtain ⟨h1, rfl⟩ := cond_some h
    simp only [Bool.and_eq_true] at h1
    rw [Nat.eq_of_beq_eq_true h1.1, Nat.eq_of_beq_eq_true h1.2]; rfl
  | .pe o off, .pe o' i off', hs, l, h, _ => by
    simp only [getSh] at h
    obtain ⟨h1, rfl⟩ := cond_some h
    simp only [Bool.and_eq_true] at h1
    rw [Nat.eq_of_beq_eq_true h1.1, Nat.eq_of_beq_eq_true h1.2]; rfl
  | .pf r off, .pf r' x off', hs, l, h, _ => by
    simp only [getSh] at h
    cases hc : Nat.beq off' off with
    | false => rw [hc] at h; cases h
    | true =>
      rw [hc] at h
      simp only [cond_true] at h
      split at h
      · rename_i g _
        obtain ⟨g⟩ := g
        subst g
        cases h; rw [Nat.eq_of_beq_eq_true hc]; rfl
      · cases h
  | .mp o, .mp o', hs, l, h, _ => by
    simp only [getSh] at h
    obtain ⟨h1, rfl⟩ := cond_some h
    rw [Nat.eq_of_beq_eq_true h1]; rfl
  | .it o, .it o', hs, l, h, _ => by
    simp only [getSh] at h
    obtain ⟨h1, rfl⟩ := cond_some h
    rw [Nat.eq_of_beq_eq_true h1]; rfl
  | .sp o, .sp o', hs, l, h, _ => by
    simp only [getSh] at h
    obtain ⟨h1, rfl⟩ := cond_some h
    rw [Nat.eq_of_beq_eq_true h1]; rfl
  | .fn f ss, .fn f' xs, hs, l, h, k => by
    simp only [getSh] at h
    cases hc : Nat.beq f' f with
    | false => rw [hc] at h; cases h
    | true =>
      rw [hc] at h
      have := getL_ex ss xs hs l h (by simpa only [exSh] using k)
      simp only [fillSh, this, Nat.eq_of_beq_eq_true hc]
  | .ag ss, .ag xs, hs, l, h, k => by
    simp only [getSh] at h
    simp only [fillSh, getL_ex ss xs hs l h (by simpa only [exSh] using k)]
  | .tp ss, .tp xs, hs, l, h, k => by
    simp only [getSh] at h
    simp only [fillSh, getL_ex ss xs hs l h (by simpa only [exSh] using k)]
  | .ifc t s, .ifc t' x, hs, l, h, k => by
    simp only [getSh] at h
    cases hc : Nat.beq t' t with
    | false => rw [hc] at h; cases h
    | true =>
      rw [hc] at h
      simp only [fillSh, getSh_ex s x hs l h (by simpa only [exSh] using k), Nat.eq_of_beq_eq_true hc]
  | .fz _ _, .c _, _, _, _, k => by simp [exSh] at k
theorem getL_ex : ∀ (ss : List Sh) (xs : List X) (hs l : List HV), getL ss xs = some hs → exL ss xs = true → fillL ss (hs ++ l) = (xs, l)
  | [], [], hs, l, h, _ => by simp only [getL] at h; cases h; rfl
  | s :: ss, x :: xs, hs, l, h, k => by
    simp only [getL] at h
    simp only [exL, Bool.and_eq_true] at k
    split at h
    · rename_i a b ha hb
      cases h
      rw [List.append_assoc]
      simp only [fillL, getSh_ex s x a (b ++ l) ha k.1, getL_ex ss xs b l hb k.2]
    · cases h
end
def exO : OSh → XO → Bool
  | .bx _ l, .bx _ cells => exL l cells
  | .mq _ _, .mq _ _ _ _ cu => List.isEmpty cu
  | _, _ => true
omit [Mo] in
theorem getO_ex (o : OSh) (x : XO) (hs l : List HV) (h : getO o (some x) = some hs) (k : exO o x = true) : fillO o (hs ++ l) = (some x, l) := by
  cases o with
  | bx e ss =>
    cases x with
    | bx e' cells =>
      simp only [getO] at h
      cases hc : Nat.beq e' e with
      | false => rw [hc] at h; cases h
      | true =>
        rw [hc] at h
        simp only [fillO, getL_ex ss cells hs l h k, Nat.eq_of_beq_eq_true hc]
    | _ => simp [getO] at h
  | ar e r =>
    cases x with
    | ar e' r' xs =>
      simp only [getO] at h
      cases hc : Nat.beq e' e with
      | false => rw [hc] at h; cases h
      | true =>
        rw [hc] at h
        simp only [cond_true] at h
        split at h
        · rename_i g _
          obtain ⟨g⟩ := g
          subst g
          cases h
          rw [Nat.eq_of_beq_eq_true hc]; rfl
        · cases h
    | _ => simp [getO] at h
  | si =>
    cases x with
    | si s pos => simp only [getO] at h; cases h; rfl
    | _ => simp [getO] at h
  | mp t =>
    cases x with
    | mp t' es =>
      simp only [getO] at h
      split at h
      · rename_i g _
        obtain ⟨g⟩ := g
        subst g
        cases h; rfl
      · cases h
    | _ => simp [getO] at h
  | mq t i =>
    cases x with
    | mq t' es i' rest cu =>
      simp only [getO] at h
      cases hc : Nat.beq i' i with
      | false => rw [hc] at h; cases h
      | true =>
        rw [hc] at h
        simp only [cond_true] at h
        split at h
        · rename_i g _
          obtain ⟨g⟩ := g
          subst g
          cases h
          have hcu : cu = [] := List.isEmpty_iff.1 (by simpa only [exO] using k)
          rw [Nat.eq_of_beq_eq_true hc, hcu]; rfl
        · cases h
    | _ => simp [getO] at h
  | mi m =>
    cases x with
    | mi m' =>
      simp only [getO] at h
      obtain ⟨h1, rfl⟩ := cond_some h
      rw [Nat.eq_of_beq_eq_true h1]; rfl
    | _ => simp [getO] at h
  | gone => simp [getO] at h

omit [Mo] in
mutual
theorem X.ren_back (f g : Nat → Option Nat) (hfg : ∀ n m, g n = some m → f m = some n) : ∀ (x : X), x.allN (fun n => (g n).isSome) = true → (x.ren g).ren f = x
  | .sl nl o, h => by have h' : (g o).isSome = true := h; obtain ⟨m, hm⟩ := Option.isSome_iff_exists.1 h'; simp only [X.ren, hm, hfg _ _ hm]
  | .sw o off len, h => by have h' : (g o).isSome = true := h; obtain ⟨m, hm⟩ := Option.isSome_iff_exists.1 h'; simp only [X.ren, hm, hfg _ _ hm]
  | .pt o off, h => by have h' : (g o).isSome = true := h; obtain ⟨m, hm⟩ := Option.isSome_iff_exists.1 h'; simp only [X.ren, hm, hfg _ _ hm]
  | .pe o i off, h => by have h' : (g o).isSome = true := h; obtain ⟨m, hm⟩ := Option.isSome_iff_exists.1 h'; simp only [X.ren, hm, hfg _ _ hm]
  | .mp o, h => by have h' : (g o).isSome = true := h; obtain ⟨m, hm⟩ := Option.isSome_iff_exists.1 h'; simp only [X.ren, hm, hfg _ _ hm]
  | .it o, h => by have h' : (g o).isSome = true := h; obtain ⟨m, hm⟩ := Option.isSome_iff_exists.1 h'; simp only [X.ren, hm, hfg _ _ hm]
  | .sp o, h => by have h' : (g o).isSome = true := h; obtain ⟨m, hm⟩ := Option.isSome_iff_exists.1 h'; simp only [X.ren, hm, hfg _ _ hm]
  | .fn _ caps, h => by simp only [X.ren, xrenL_back f g hfg caps h]
  | .ag cs, h => by simp only [X.ren, xrenL_back f g hfg cs h]
  | .tp cs, h => by simp only [X.ren, xrenL_back f g hfg cs h]
  | .ifc t x, h => by simp only [X.ren, X.ren_back f g hfg x h]
  | .c v, _ => rfl
  | .i k n, _ => rfl
  | .b q, _ => rfl
  | .s s, _ => rfl
  | .fz nl r xs, _ => rfl
  | .pf r x off, _ => rfl
  | .dead, _ => rfl
theorem xrenL_back (f g : Nat → Option Nat) (hfg : ∀ n m, g n = some m → f m = some n) : ∀ (xs : List X), allNL (fun n => (g n).isSome) xs = true → xrenL f (xrenL g xs) = xs
  | [], _ => rfl
  | x :: xs, h => by
    simp only [allNL, Bool.and_eq_true] at h
    simp only [xrenL, X.ren_back f g hfg x h.1, xrenL_back f g hfg xs h.2]
end
omit [Mo] in
theorem XO.ren_back (f g : Nat → Option Nat) (hfg : ∀ n m, g n = some m → f m = some n) (x : XO) (h : x.allN (fun n => (g n).isSome) = true) : (x.ren g).ren f = x := by
  cases x with
  | bx e cells => simp only [XO.ren, xrenL_back f g hfg cells h]
  | mq t es i rest cu =>
    have h' : (g i).isSome = true := h
    obtain ⟨m, hm⟩ := Option.isSome_iff_exists.1 h'
    simp only [XO.ren, hm, hfg _ _ hm]
  | mi n =>
    have h' : (g n).isSome = true := h
    obtain ⟨m, hm⟩ := Option.isSome_iff_exists.1 h'
    simp only [XO.ren, hm, hfg _ _ hm]
  | _ => rfl

/-- the objects that a call leaves as they are -/
def keptOf : List Nat → XS → XS
  | [], _ => []
  | n :: l, s => match lk s n with | some x => (n, x) :: keptOf l s | none => keptOf l s

structure Con (P : Program) where
  f : FuncId
  fn : Func
  hfn : P.funcs[f]? = some fn
  hname : (fn.name == "runtime.NumGoroutine") = false
  hb : fn.body.isSome = true
  A : CTpl
  h : List HTy
  kp : List Nat
  R : List RTpl
  F : Tup h → Option (AltT (R.map (·.h)))
  ok : ∀ y r, F y = some r → elimAlt (R.map (·.h)) r fun i l => CTx P f (inOf A (ofTup h y)).1 (inOf A (ofTup h y)).2 (outOf (rAt R i) l).1 ((outOf (rAt R i) l).2 ++ keptOf kp (inOf A (ofTup h y)).2)

/-! calls -/
def xfn : X → Option (FuncId × List X)
  | .c (.func (.func f) a b) => cond (a.isEmpty && b.isEmpty) (some (f, [])) none
  | .fn f caps => some (f, caps)
  | _ => none
omit [Mo] in
theorem xfn_spec {x : X} {f : FuncId} {caps : List X} (h : xfn x = some (f, caps)) : fnOf x.enc = some (f, encL caps) := by
  unfold xfn at h
  split at h
  · rename_i f0 a b
    obtain ⟨h1, h2⟩ := cond_some h
    cases h2
    simp only [Bool.and_eq_true] at h1
    have : plain (.func (.func f) a b) = true := by simp only [plain, h1.1, h1.2]; rfl
    simp only [X.enc, this, if_true]; rfl
  · cases h; rfl
  · cases h

def bindO (g : XG) : List (Nat × OSh) → Acc → Acc
  | [], a => a
  | (n, .bx _ l) :: r, a => match gx g (nameOf a n) with
    | some (.bx _ cells) => bindO g r (bindL l cells a)
    | _ => bindO g r a
  | _ :: r, a => bindO g r a
def noMi : OSh → Bool | .mi _ => false | _ => true
def getOs (g : XG) (ρ : Ren) : List (Nat × OSh) → Ren → Option (List HV)
  | [], [] => some []
  | (n, sh) :: l, (n', m) :: k => cond (Nat.beq n' n && noMi sh) (match gx g m with
    | some x => match getO sh (some (x.ren (inv ρ))), getOs g ρ l k with
      | some a, some b => some (a ++ b)
      | _, _ => none
    | none => none) none
  | _, _ => none
/-- what is kept is handed over just as it is -/
def keepB (g : XG) (ρ : Ren) (kp : List Nat) : List (Nat × OSh) → Bool
  | [] => true
  | (n, sh) :: l => (cond (kp.any (Nat.beq n)) (match gx g ((lk ρ n).getD 0) with
    | some x => x.allN (fun k => (inv ρ k).isSome) && exO sh (x.ren (inv ρ))
    | none => false) true) && keepB g ρ kp l

inductive CO (C : Con P) where
  | bad
  | frz (o : Nat)
  | call (y : Tup C.h) (ρ : Ren)
def callIn (C : Con P) (g : XG) (xs : List X) : CO C :=
  let acc := bindO g C.A.o (bindL C.A.a xs ⟨[], []⟩)
  match acc.fz with
  | o :: _ => .frz o
  | [] =>
    let ρ := C.A.o.map fun p => (p.1, nameOf acc p.1)
    match getL C.A.a (xrenL (inv ρ) xs), getOs g ρ C.A.o ρ with
    | some h1, some h2 => match toTup C.h (h1 ++ h2) with
      | some y => cond (keepB g ρ C.kp C.A.o) (.call y ρ) .bad
      | none => .bad
    | _, _ => .bad

def hasKey (l : List Nat) (n : Nat) : Bool := l.any (Nat.beq n)
/-- names for what a call makes -/
def fresh (ρ : Ren) (d : Nat) : List (Nat × OSh) → Ren
  | [] => []
  | p :: os => cond (hasKey (ρ.map (·.1)) p.1) (fresh ρ d os) ((p.1, 400000 + d * 100 + (p.1 - 500000)) :: fresh ρ d os)
def isFree (g : XG) (n : Nat) : Bool := match g n with | none => true | some _ => false
def callB (g : XG) (ρ σ : Ren) (kp : List Nat) (os : List (Nat × OSh)) : Bool :=
  okRen ρ && ρ.all (fun p => Nat.ble 1000000 p.1) && okRen (ρ ++ σ) && σ.all (fun p => isFree g p.2) && nodupB (os.map (·.1)) && os.all (fun p => hasKey ((ρ ++ σ).map (·.1)) p.1)
    && (ρ ++ σ).all (fun p => cond (hasKey (os.map (·.1)) p.1) (!(hasKey kp p.1)) (hasKey kp p.1))
/-- what an alternative of a call leaves -/
def callOut (R : RTpl) (ρ : Ren) (d : Nat) (l : List HV) : X × XS :=
  let τ := ρ ++ fresh ρ d R.o
  let q := outOf R l
  (q.1.ren (ren τ), q.2.map fun p => ((ren τ p.1).getD 0, p.2.map (XO.ren (ren τ))))

theorem CT.wk {f : FuncId} {vs vs' : List V} {s s' : Store} {Q : V → Store → Prop} (h : CT P noG f vs s Q) (hv : WkL vs' vs) (hs : ∀ (B : Base) (w : World) (F : Nat → Prop) (loc : Nat → Option Loc), RelS noG B w F loc s' → RelS noG B w F loc s) :
    CT P noG f vs' s' Q := by
  intro F loc w args hn hS hA
  refine h F loc w args hn (hs _ _ _ _ hS) ⟨by rw [← hv.1]; exact hA.1, fun j y hj => ?_⟩
  obtain ⟨x, hx, hw⟩ := hv.2 j y hj
  obtain ⟨v, h1, h2⟩ := hA.2 j x hx
  exact ⟨v, h1, hw _ _ _ _ h2⟩

omit [Mo] in
theorem fillS_keys : ∀ (os : List (Nat × OSh)) (l : List HV), (fillS os l).1.map (·.1) = os.map (·.1)
  | [], l => rfl
  | (n, sh) :: os, l => by simp only [fillS, List.map_cons, fillS_keys os]

omit [Mo] in
theorem getO_noMi {sh : OSh} {x : XO} {f : Nat → Option Nat} {hs : List HV} (hn : noMi sh = true) (h : getO sh (some (x.ren f)) = some hs) : isMi x.enc = false := by
  cases x with
  | mi m =>
    have e : (XO.mi m).ren f = .mi (match f m with | some m' => m' | none => m) := by simp only [XO.ren]; cases f m <;> rfl
    rw [e] at h
    cases sh <;> first | (cases hn; done) | simp [getO] at h
  | _ => rfl
omit [Mo] in
theorem getOs_hand {g : XG} {s : Store} (ha : Agree g s) {ρ0 : Ren} : ∀ (os : List (Nat × OSh)) (ρ : Ren) (hs l : List HV), getOs g ρ0 os ρ = some hs →
    ∃ (L : List (Nat × O)) (Lx : XS), handL ρ0 s ρ = some L ∧ stoL L = encS Lx ∧ ∃ so, fillS os (hs ++ l) = (so, l) ∧ WkS Lx so
  | [], [], hs, l, h => by simp only [getOs] at h; cases h; exact ⟨[], [], rfl, rfl, [], rfl, .nil⟩
  | (n, sh) :: os, (n', m) :: ρ, hs, l, h => by
    simp only [getOs] at h
    cases hc : (Nat.beq n' n && noMi sh) with
    | false => rw [hc] at h; cases h
    | true =>
      have hc2 := hc
      rw [Bool.and_eq_true] at hc2
      have hnn := Nat.eq_of_beq_eq_true hc2.1
      subst hnn
      rw [hc] at h
      simp only [cond_true] at h
      split at h
      · rename_i x hx
        split at h
        · rename_i a b h1 h2
          cases h
          obtain ⟨L, Lx, h3, h4, so, h5, h6⟩ := getOs_hand ha os ρ b l h2
          obtain ⟨x', h7, h8⟩ := getO_wk sh (some (x.ren (inv ρ0))) a (b ++ l) h1
          refine ⟨(n', O.ren (inv ρ0) x.enc) :: L, (n', some (x.ren (inv ρ0))) :: Lx, by simp only [handL, ha.get hx, h3, getO_noMi hc2.2 h1, cond_false], ?_, (n', x') :: so, by rw [List.append_assoc]; simp only [fillS, h7, h5], .cons _ _ _ _ _ h8 h6⟩
          funext k
          have h4' := congrFun h4 k
          unfold stoL encS at h4' ⊢
          rw [List.find?_cons, lk]
          simp only
          cases hk : Nat.beq n' k with
          | true => simp [XO.ren_enc]
          | false => simpa using h4'
        · cases h
      · cases h
  | [], _ :: _, _, _, h => by simp [getOs] at h
  | _ :: _, [], _, _, h => by simp [getOs] at h

omit [Mo] in
theorem xrenL_map (f : Nat → Option Nat) (xs : List X) : (xrenL f xs).map X.enc = renL f (xs.map X.enc) := by
  rw [← encL_map, xrenL_enc, encL_map]

omit [Mo] in
theorem isFree_spec {g : XG} {s : Store} (ha : Agree g s) {n : Nat} (h : isFree g n = true) : s n = none := by
  unfold isFree at h
  split at h
  · rename_i hn; exact ha.no n hn
  · cases h

omit [Mo] in
theorem over_ren {τ : Ren} (hτ : okRen τ = true) {s : Store} : ∀ (u : XS), (∀ p ∈ u, ∃ m, ren τ p.1 = some m) → nodupB (u.map (·.1)) = true → ∀ n, over s (u.map fun p => ((ren τ p.1).getD 0, p.2.map (XO.ren (ren τ)))) n =
      match inv τ n with
      | some m => match lk u m with | some x => some ((x.map XO.enc).map (O.ren (ren τ))) | none => s n
      | none => s n := by
  intro u
  induction u with
  | nil => intro _ _ n; simp only [List.map_nil, over, lk]; cases inv τ n <;> rfl
  | cons p u ih =>
    obtain ⟨q, x⟩ := p
    intro hm hnd n
    obtain ⟨m, hmm⟩ := hm (q, x) (by simp)
    simp only [List.map_cons, nodupB, Bool.and_eq_true, Bool.not_eq_true'] at hnd
    simp only [List.map_cons, over, hmm, Option.getD_some]
    by_cases hn : n = m
    · subst hn
      rw [upd_self]
      have : inv τ n = some q := (inv_iff hτ).2 ((ren_iff hτ).1 hmm)
      rw [this]
      simp only [lk, Nat.beq_refl, cond_true]
      cases x with
      | none => rfl
      | some x => simp [XO.ren_enc]
    · rw [upd_ne _ _ hn, ih (fun p hp => hm p (by simp [hp])) hnd.2 n]
      cases hi : inv τ n with
      | none => rfl
      | some m' =>
        simp only [lk]
        have : Nat.beq q m' = false := by
          rw [← Bool.not_eq_true, Nat.beq_eq]
          rintro rfl
          have h1 := (inv_iff hτ).1 hi
          have h2 := (ren_iff hτ).2 h1
          rw [h2] at hmm; cases hmm; exact hn rfl
        rw [this]; rfl

omit [Mo] in
theorem hasKey_mem {l : List Nat} {n : Nat} : hasKey l n = true ↔ n ∈ l := by
  unfold hasKey
  rw [List.any_eq_true]
  constructor
  · rintro ⟨x, h1, h2⟩; rw [Nat.eq_of_beq_eq_true h2]; exact h1
  · intro h; exact ⟨n, h, Nat.beq_refl n⟩

omit [Mo] in
theorem getOs_keys {g : XG} {ρ0 : Ren} : ∀ {os : List (Nat × OSh)} {ρ : Ren} {hs : List HV}, getOs g ρ0 os ρ = some hs → os.map (·.1) = ρ.map (·.1)
  | [], [], _, _ => rfl
  | (n, sh) :: os, (n', m) :: ρ, hs, h => by
    simp only [getOs] at h
    cases hc : (Nat.beq n' n && noMi sh) with
    | false => rw [hc] at h; cases h
    | true =>
      rw [hc] at h
      rw [Bool.and_eq_true] at hc
      simp only [cond_true] at h
      split at h
      · split at h
        · rename_i h2
          simp only [List.map_cons, getOs_keys h2, Nat.eq_of_beq_eq_true hc.1]
        · cases h
      · cases h
  | [], _ :: _, _, h => by simp [getOs] at h
  | _ :: _, [], _, h => by simp [getOs] at h

omit [Mo] in
/-- what is kept stands in the callee's objects as it is -/
theorem getOs_kept {g : XG} {ρ0 : Ren} {kp : List Nat} : ∀ (os : List (Nat × OSh)) (ρ : Ren) (hs l : List HV) (so : XS), getOs g ρ0 os ρ = some hs → fillS os (hs ++ l) = (so, l) → (∀ p ∈ ρ, lk ρ0 p.1 = some p.2) → keepB g ρ0 kp os = true →
    ∀ (n m : Nat), lk ρ n = some m → n ∈ kp → ∃ x, gx g m = some x ∧ x.allN (fun k => (inv ρ0 k).isSome) = true ∧ lk so n = some (some (x.ren (inv ρ0)))
  | [], [], hs, l, so, h, hf, hr, hk, n, m, hn, hkp => by simp [lk] at hn
  | (n', sh) :: os, (n2, m') :: ρ, hs, l, so, h, hf, hr, hk, n, m, hn, hkp => by
    simp only [getOs] at h
    cases hc : (Nat.beq n2 n' && noMi sh) with
    | false => rw [hc] at h; cases h
    | true =>
      have hc2 := hc
      rw [Bool.and_eq_true] at hc2
      have hnn := Nat.eq_of_beq_eq_true hc2.1
      subst hnn
      rw [hc] at h
      simp only [cond_true] at h
      simp only [keepB, Bool.and_eq_true] at hk
      split at h
      · rename_i x hx
        split at h
        · rename_i a b h1 h2
          cases h
          rw [List.append_assoc] at hf
          simp only [fillS] at hf
          simp only [lk] at hn
          cases hq : Nat.beq n2 n with
          | true =>
            have hqq := Nat.eq_of_beq_eq_true hq
            subst hqq
            rw [hq] at hn
            cases hn
            have hk1 := hk.1
            have hany : (kp.any (Nat.beq n2)) = true := hasKey_mem.2 hkp
            rw [hany, hr (n2, m') (by simp)] at hk1
            simp only [Option.getD_some, hx, cond_true, Bool.and_eq_true] at hk1
            have := getO_ex sh (x.ren (inv ρ0)) a (b ++ l) h1 hk1.2
            rw [this] at hf
            injection hf with hf1 hf2
            exact ⟨x, hx, hk1.1, by rw [← hf1]; simp [lk]⟩
          | false =>
            rw [hq] at hn
            simp only [cond_false] at hn
            obtain ⟨x', h7, _⟩ := getO_wk sh (some (x.ren (inv ρ0))) a (b ++ l) h1
            rw [h7] at hf
            injection hf with hf1 hf2
            obtain ⟨x1, e1, e2, e3⟩ := getOs_kept os ρ b l (fillS os (b ++ l)).1 h2 (Prod.ext rfl hf2) (fun p hp => hr p (by simp [hp])) hk.2 n m hn hkp
            exact ⟨x1, e1, e2, by rw [← hf1]; simp [lk, hq, e3]⟩
        · cases h
      · cases h
  | [], _ :: _, _, _, _, h, _, _, _, _, _, _, _ => by simp [getOs] at h
  | _ :: _, [], _, _, _, h, _, _, _, _, _, _, _ => by simp [getOs] at h

omit [Mo] in
theorem lk_keptOf {s : XS} : ∀ (kp : List Nat) (n : Nat), lk (keptOf kp s) n = if n ∈ kp then lk s n else none
  | [], n => by simp [keptOf, lk]
  | k :: kp, n => by
    simp only [keptOf]
    cases hl : lk s k with
    | none =>
      simp only []
      rw [lk_keptOf kp n]
      by_cases hn : n = k
      · subst hn; simp [hl]
      · simp [hn]
    | some x =>
      simp only [lk]
      cases hb : Nat.beq k n with
      | true => have := Nat.eq_of_beq_eq_true hb; subst this; simp [hl]
      | false =>
        have hn : ¬ n = k := by rintro rfl; simp at hb
        rw [cond_false, lk_keptOf kp n]; simp [hn]
omit [Mo] in
theorem lk_of_mem {α : Type} : ∀ {l : List (Nat × α)} {n : Nat} {a : α}, nodupB (l.map (·.1)) = true → (n, a) ∈ l → lk l n = some a
  | [], _, _, _, h => by cases h
  | (i, b) :: l, n, a, hd, h => by
    simp only [List.map_cons, nodupB, Bool.and_eq_true, Bool.not_eq_true'] at hd
    rw [lk]
    rcases List.mem_cons.1 h with h | h
    · cases h; simp
    · have : Nat.beq i n = false := by
        rw [← Bool.not_eq_true, Nat.beq_eq]
        rintro rfl
        exact nodup_mem hd.1 i (List.mem_map.2 ⟨_, h, rfl⟩) rfl
      rw [this, cond_false]; exact lk_of_mem hd.2 h

omit [Mo] in
theorem backS_call {g : XG} {s : Store} (ha : Agree g s) {ρ σ : Ren} {kp : List Nat} {os : List (Nat × OSh)} {out so : XS} (hcb : callB g ρ σ kp os = true) (hok : out.map (·.1) = os.map (·.1))
    (hkept : ∀ (n m : Nat), lk ρ n = some m → n ∈ kp → ∃ x, gx g m = some x ∧ x.allN (fun k => (inv ρ k).isSome) = true ∧ lk so n = some (some (x.ren (inv ρ)))) (hso : so.map (·.1) = ρ.map (·.1)) :
    backS (ρ ++ σ) (encS (out ++ keptOf kp so)) s = over s (out.map fun p => ((ren (ρ ++ σ) p.1).getD 0, p.2.map (XO.ren (ren (ρ ++ σ))))) := by
  unfold callB at hcb
  simp only [Bool.and_eq_true] at hcb
  obtain ⟨⟨⟨⟨⟨⟨b1, b2⟩, b3⟩, b4⟩, b5⟩, b6⟩, b7⟩ := hcb
  have hnr : nodupB (ρ.map (·.1)) = true := by unfold okRen at b1; rw [Bool.and_eq_true] at b1; exact b1.1
  have hmem : ∀ p ∈ out, ∃ m, ren (ρ ++ σ) p.1 = some m := by
    intro p hp
    have h1 : p.1 ∈ os.map (·.1) := by rw [← hok]; exact List.mem_map.2 ⟨p, hp, rfl⟩
    obtain ⟨q, hq, he⟩ := List.mem_map.1 h1
    have h2 := hasKey_mem.1 (List.all_eq_true.1 b6 q hq)
    obtain ⟨t, ht, he2⟩ := List.mem_map.1 h2
    exact ⟨t.2, (ren_iff b3).2 (by rw [← he, ← he2]; simpa using ht)⟩
  funext n
  rw [over_ren b3 out hmem (by rw [hok]; exact b5) n]
  unfold backS
  cases hi : inv (ρ ++ σ) n with
  | none => rfl
  | some m =>
    have h1 := (inv_iff b3).1 hi
    simp only [encS, lk_append]
    cases hl : lk out m with
    | some x => rfl
    | none =>
      simp only
      have hno : hasKey (os.map (·.1)) m = false := by
        rw [← Bool.not_eq_true, hasKey_mem, ← hok]
        intro hm
        obtain ⟨p, hp, he⟩ := List.mem_map.1 hm
        exact lk_none hl p.2 (by rw [← he]; simpa using hp)
      have h7 := List.all_eq_true.1 b7 _ h1
      simp only [hno, cond_false] at h7
      have hmk := hasKey_mem.1 h7
      rw [lk_keptOf, if_pos hmk]
      rcases List.mem_append.1 h1 with hr | hs
      · obtain ⟨x, e1, e2, e3⟩ := hkept m n (lk_of_mem hnr hr) hmk
        rw [e3, ha.is _ _ (gx_some e1)]
        simp only [Option.map_some]
        rw [← XO.ren_enc, XO.ren_back _ _ (fun a b hab => ?_) x e2]
        exact (ren_iff b3).2 (List.mem_append_left _ ((inv_iff b1).1 hab))
      · have hnone : lk so m = none := by
          cases hq : lk so m with
          | none => rfl
          | some y =>
            exfalso
            have h3 : m ∈ ρ.map (·.1) := by rw [← hso]; exact List.mem_map.2 ⟨_, lk_mem hq, rfl⟩
            obtain ⟨p, hp, he⟩ := List.mem_map.1 h3
            unfold okRen at b3
            rw [Bool.and_eq_true] at b3
            have h5 : ∀ (l : Ren) (p q : Nat × Nat), nodupB (l.map (·.1)) = true → p ∈ l → q ∈ l → p.1 = q.1 → p = q := by
              intro l p q hd hp hq he
              have e1 := lk_of_mem hd (show (p.1, p.2) ∈ l from hp)
              have e2 := lk_of_mem hd (show (q.1, q.2) ∈ l from hq)
              rw [he, e2] at e1
              exact Prod.ext he (Option.some.inj e1).symm
            have hpq := h5 _ p (m, n) b3.1 (List.mem_append_left _ hp) h1 he
            subst hpq
            -- a name of both parts
            have : ∀ (a b : Ren) (q : Nat × Nat), nodupB ((a ++ b).map (·.1)) = true → q ∈ a → q ∈ b → False := by
              intro a b q hd h1 h2
              induction a with
              | nil => cases h1
              | cons z a ih =>
                simp only [List.cons_append, List.map_cons, nodupB, Bool.and_eq_true, Bool.not_eq_true'] at hd
                rcases List.mem_cons.1 h1 with h1 | h1
                · subst h1
                  exact nodup_mem hd.1 q.1 (List.mem_map.2 ⟨q, List.mem_append_right _ h2, rfl⟩) rfl
                · exact ih hd.2 h1
            exact this ρ σ _ b3.1 hp hs
        rw [hnone, isFree_spec ha (List.all_eq_true.1 b4 _ hs)]; rfl

/-- the function that an operation calls, and what is handed to it -/
def callFn (D : Dec) (e : Operand → X) : Op → Option (Option (FuncId × List X))
  | .call ⟨.value f, args, _⟩ => some (match xfn (e f) with | some (g, caps) => some (g, args.toList.map e ++ caps) | none => none)
  | .call ⟨.invoke r n, args, _⟩ => some (match e r with | .ifc t x => (match D.meth t n with | some g => some (g, x :: args.toList.map e) | none => none) | _ => none)
  | _ => none
omit [Mo] in
theorem callFn_cases {D : Dec} {e : Operand → X} {op : Op} {f : FuncId} {xs : List X} (h : callFn D e op = some (some (f, xs))) :
    (∃ fop az ts caps, op = .call ⟨.value fop, az, ts⟩ ∧ xfn (e fop) = some (f, caps) ∧ xs = az.toList.map e ++ caps) ∨ (∃ r n az ts t x, op = .call ⟨.invoke r n, az, ts⟩ ∧ e r = .ifc t x ∧ D.meth t n = some f ∧ xs = x :: az.toList.map e) := by
  unfold callFn at h
  split at h
  · rename_i fop az ts
    split at h
    · rename_i g caps hf
      cases h
      exact .inl ⟨fop, az, ts, caps, rfl, hf, rfl⟩
    · cases h
  · rename_i r n az ts
    split at h
    · rename_i t x hx
      split at h
      · rename_i g hm
        cases h
        exact .inr ⟨r, n, az, ts, t, x, rfl, hx, hm, rfl⟩
      · cases h
    · cases h
  · cases h
/-- a call's law -/
theorem callIn_ok (hg : Good P D) {C : Con P} {g : XG} {o : Oper} {st : St} (ha : Agree g st.s) {e : Operand → X} {xs : List X} {y : Tup C.h} {ρ : Ren}
    (hcf : callFn D e o.op = some (some (C.f, xs))) (he : ∀ x ∈ o.op.operands.toList, ev noG st.t x = (e x).enc) (hc : callIn C g xs = .call y ρ)
    (d : Nat) {r : AltT (C.R.map (·.h))} (hr : C.F y = some r) :
    elimAlt (C.R.map (·.h)) r fun i l => callB g ρ (fresh ρ d (rAt C.R i).o) C.kp (rAt C.R i).o = true → OkW P noG o st (callOut (rAt C.R i) ρ d l).1.enc (over st.s (callOut (rAt C.R i) ρ d l).2) := by
  unfold callIn at hc
  simp only at hc
  split at hc
  · cases hc
  · split at hc
    · rename_i h1 h2 e1 e2
      split at hc
      · rename_i y' hy
        cases hkb : keepB g (C.A.o.map fun p => (p.1, nameOf (bindO g C.A.o (bindL C.A.a xs ⟨[], []⟩)) p.1)) C.kp C.A.o with
        | false => rw [hkb] at hc; cases hc
        | true =>
        rw [hkb] at hc
        simp only [cond_true] at hc
        injection hc with hc1 hc2
        subst hc1
        refine elim_mono _ _ ?_ (C.ok y' r hr)
        intro i l hct hcb
        rw [hc2] at e1 e2 hkb
        have ho := toTup_of C.h _ y' hy
        obtain ⟨xs', k1, k2⟩ := getL_wk C.A.a _ h1 h2 e1
        obtain ⟨L, Lx, k3, k4, so, k5, k6⟩ := getOs_hand ha (ρ0 := ρ) C.A.o ρ h2 [] e2
        have hb := hcb
        unfold callB at hcb
        simp only [Bool.and_eq_true] at hcb
        obtain ⟨⟨⟨⟨⟨⟨b1, b2⟩, b3⟩, b4⟩, b5⟩, b6⟩, b7⟩ := hcb
        have hnr : nodupB (ρ.map (·.1)) = true := by unfold okRen at b1; rw [Bool.and_eq_true] at b1; exact b1.1
        have hkept := getOs_kept C.A.o ρ h2 [] so e2 k5 (fun p hp => lk_of_mem hnr (by simpa using hp)) hkb
        rw [List.append_nil] at k5
        have hin : inOf C.A (ofTup C.h y') = (xs', so) := by rw [ho]; unfold inOf; simp only [k1, k5]
        have hso : so.map (·.1) = ρ.map (·.1) := by
          rw [← getOs_keys e2]
          have := fillS_keys C.A.o h2
          rw [k5] at this; exact this
        rw [hin] at hct
        have hct' : CT P noG C.f (renL (inv ρ) (xs.map X.enc)) (stoL L) fun r' s' => r' = (outOf (rAt C.R i) l).1.enc ∧ s' = encS ((outOf (rAt C.R i) l).2 ++ keptOf C.kp so) := by
          refine CT.wk hct ?_ ?_
          · rw [← xrenL_map]; exact k2
          · intro B w F loc h
            rw [k4] at h
            have := RelS.wkS (post := []) k6 [] (by simpa using h)
            simpa using this
        have hfree : ((fresh ρ d (rAt C.R i).o).all fun p => (st.s p.2).isNone) = true := by
          rw [List.all_eq_true] at b4 ⊢
          intro p hp
          rw [isFree_spec ha (b4 p hp)]; rfl
        have : OkW P noG o st ((outOf (rAt C.R i) l).1.enc.ren (ren (ρ ++ fresh ρ d (rAt C.R i).o))) (backS (ρ ++ fresh ρ d (rAt C.R i).o) (encS ((outOf (rAt C.R i) l).2 ++ keptOf C.kp so)) st.s) := by
          rcases callFn_cases hcf with ⟨fop, args, ts, caps, hop, hf, rfl⟩ | ⟨rc, nm, args, ts, t, x, hop, hx, hm, rfl⟩
          · have hfop : ev noG st.t fop = (e fop).enc := he fop (by rw [hop]; simp [Op.operands, Call.operands])
            have hargs : args.toList.map (ev noG st.t) = (args.toList.map e).map X.enc := by
              rw [List.map_map]
              refine List.map_congr_left fun z hz => he z ?_
              rw [hop]; simp only [Op.operands, Call.operands, Array.toList_append, List.mem_append]; exact .inr hz
            exact OkW.call (σ := fresh ρ d (rAt C.R i).o) hop (by rw [hfop]; exact xfn_spec hf) C.hfn C.hname C.hb b1 b2 k3 (by rw [hargs, encL_map, ← List.map_append]) hct' b3 hfree
          · have hrc : ev noG st.t rc = .ifc t x.enc := by rw [he rc (by rw [hop]; simp [Op.operands, Call.operands]), hx]; rfl
            have hargs : args.toList.map (ev noG st.t) = (args.toList.map e).map X.enc := by
              rw [List.map_map]
              refine List.map_congr_left fun z hz => he z ?_
              rw [hop]; simp only [Op.operands, Call.operands, Array.toList_append, List.mem_append]; exact .inr hz
            exact OkW.callM (σ := fresh ρ d (rAt C.R i).o) hg hop hrc hm C.hfn C.hname C.hb b1 b2 k3 (by rw [hargs, List.map_cons]) hct' b3 hfree
        rw [backS_call ha hb (by unfold outOf; exact fillS_keys _ _) hkept hso] at this
        unfold callOut
        simp only
        rw [X.ren_enc]
        exact this
      · cases hc
    · cases hc
end Go.Proofs.YtobfoiomjfdjjaaDoor.Mc

/- THE MACHINE (54): typed operations run in a row. -/
namespace Go.Proofs.YtobfoiomjfdjjaaDoor.Mc
open Go.RowKit
variable [Mo]
set_option linter.constructorNameAsVariable false
variable {P : Program} {D : Dec}

def putX (st : XSt) (dst : Option Nat) (v : X) (u : XS) : XSt := ⟨match dst with | some d => (d, v) :: st.t | none => st.t, u ++ st.s⟩
omit [Mo] in
theorem putX_enc (E : XE) (st : XSt) (dst : Option Nat) (v : X) (u : XS) : encSt E (putX st dst v u) = (encSt E st).put dst v.enc (over (encSt E st).s u) := by
  cases dst with
  | none =>
    show St.mk (encT (st.t ++ E.t)) (encS ((u ++ st.s) ++ E.s)) E.n E.a = St.mk _ _ _ _
    rw [List.append_assoc, encS_over]; rfl
  | some d =>
    show St.mk (encT ((d, v) :: (st.t ++ E.t))) (encS ((u ++ st.s) ++ E.s)) E.n E.a = St.mk _ _ _ _
    rw [List.append_assoc, encS_over, encT_cons]; rfl
def fitsX (E : XE) (dst : Option Nat) : Bool := match dst with | some d => Nat.blt d E.n | none => true
def evE (E : XE) (st : XSt) : Operand → X := evX (st.t ++ E.t)
def gE (E : XE) (st : XSt) : XG := fun n => lk (st.s ++ E.s) n
omit [Mo] in
theorem agreeE (E : XE) (st : XSt) : Agree (gE E st) (encSt E st).s := by
  constructor
  · intro o x h
    show encS (st.s ++ E.s) o = _
    unfold encS
    rw [show lk (st.s ++ E.s) o = some (some x) from h]; rfl
  · intro d h
    show encS (st.s ++ E.s) d = _
    unfold encS
    rw [show lk (st.s ++ E.s) d = none from h]
omit [Mo] in
theorem evE_enc (E : XE) (st : XSt) (x : Operand) : ev noG (encSt E st).t x = (evE E st x).enc := (evX_enc _ x).symm

/-- is a guarded operation carried out? -/
def wantX (ops : Array Oper) (E : XE) (o : Oper) (st : XSt) : Option Bool :=
  match o.guard with
  | none => some true
  | some (j, w) => match (ops[j]?).bind (·.dst) with
    | some d => cond (Nat.blt d E.n) (match lkE E st d with | .b q => some (q == w) | .tp [] => some false | _ => none) none
    | none => none
omit [Mo] in
theorem lkE_enc (E : XE) (st : XSt) (i : Nat) : (encSt E st).t i = (lkE E st i).enc := encT_lk _ i
omit [Mo] in
theorem wantX_spec {ops : Array Oper} {E : XE} {o : Oper} {st : XSt} {b : Bool} (h : wantX ops E o st = some b) : want ops o (encSt E st) = some b := by
  unfold wantX at h
  unfold want
  split at h
  · rename_i hg; rw [hg]; exact h
  · rename_i j w hg
    rw [hg]
    simp only
    split at h
    · rename_i d hd
      rw [hd]
      simp only
      cases hn : Nat.blt d E.n with
      | false => rw [hn] at h; cases h
      | true =>
        rw [hn] at h
        simp only [cond_true] at h
        have hn' : Nat.blt d (encSt E st).n = true := hn
        rw [hn', lkE_enc]
        split at h
        · rename_i q hq; rw [hq]; exact h
        · rename_i hq; rw [hq]; exact h
        · cases h
    · cases h

variable {G : Glob}
theorem TrOps.opW {ops : Array Oper} {o : Oper} {l : List Oper} {st : St} {Q : Exit → St → Prop} {v : V} {s' : Store} (hw : want ops o st = some true) (hd : fits st o.dst = true) (h : OkW P G o st v s')
    (k : TrOps P G ops l (st.put o.dst v s') Q) : TrOps P G ops (o :: l) st Q := by
  intro B F loc a w hR hdf
  show if _ then _ else _
  rw [want_spec hR hw]
  simp only [if_true]
  left
  exact h B F loc a w hR _ _ fun x F' loc' w' hS hk hs hv => k B F' loc' _ w' (hR.put hd hS hk hs hv) (by cases ho : o.dst <;> simp [Act.put, hdf])
theorem TrOps.opD {ops : Array Oper} {o : Oper} {l : List Oper} {st : St} {Q : Exit → St → Prop} {c : Bool} {v1 v2 : V} (hw : want ops o st = some true) (hd : fits st o.dst = true) (h : OkD P o st c v1 v2)
    (k1 : c = true → TrOps P noG ops l (st.put o.dst v1 st.s) Q) (k2 : TrOps P noG ops l (st.put o.dst v2 st.s) Q) : TrOps P noG ops (o :: l) st Q := by
  intro B F loc a w hR hdf
  show if _ then _ else _
  rw [want_spec hR hw]
  simp only [if_true]
  left
  obtain ⟨x, hrun, hx⟩ := h B F loc a w hR
  unfold Oper.wp
  rw [hrun]
  have hdf' : (a.put o.dst x).defers = [] := by cases ho : o.dst <;> simp [Act.put, hdf]
  rcases hx with ⟨hc, hx⟩ | hx
  · exact k1 hc B F loc _ w (hR.put hd hR.s (Kept.refl _ _) (Same.refl _) hx) hdf'
  · exact k2 B F loc _ w (hR.put hd hR.s (Kept.refl _ _) (Same.refl _) hx) hdf'

noncomputable def nilT {R : Type} (c : Bool) (A B : Option R) : Option R := cond c (open Classical in if A = B then B else none) B
omit [Mo] in
theorem nilT_out {R : Type} {c : Bool} {A B : Option R} {r : R} (h : nilT c A B = some r) : (c = true → A = some r) ∧ B = some r := by
  cases c with
  | false => exact ⟨fun h => (by cases h), h⟩
  | true =>
    simp only [nilT, cond_true] at h
    split at h
    · rename_i hab; exact ⟨fun _ => by rw [hab]; exact h, h⟩
    · cases h
omit [Mo] in
theorem nilT_of {R : Type} {c : Bool} {A B : Option R} (h : c = true → A = B) : nilT c A B = B := by
  cases c with
  | false => rfl
  | true => simp only [nilT, cond_true, h rfl]; simp

/-- all ways that may come, and all to one end -/
noncomputable def anyL {α R : Type} (l : List α) (g : Nat → α → Option R) : Option R :=
  open Classical in if h : ∃ r, l ≠ [] ∧ ∀ (j : Nat) (a : α), l[j]? = some a → g j a = some r then some (Classical.choose h) else none
omit [Mo] in
theorem anyL_out {α R : Type} {l : List α} {g : Nat → α → Option R} {r : R} (h : anyL l g = some r) : l ≠ [] ∧ ∀ (j : Nat) (a : α), l[j]? = some a → g j a = some r := by
  unfold anyL at h
  split at h
  · rename_i hh
    cases h
    exact Classical.choose_spec hh
  · cases h
omit [Mo] in
theorem anyL_of {α R : Type} {l : List α} {g : Nat → α → Option R} {r : R} (hl : l ≠ []) (hg : ∀ (j : Nat) (a : α), l[j]? = some a → g j a = some r) : anyL l g = some r := by
  have hh : ∃ r, l ≠ [] ∧ ∀ (j : Nat) (a : α), l[j]? = some a → g j a = some r := ⟨r, hl, hg⟩
  unfold anyL
  rw [dif_pos hh]
  obtain ⟨_, h2⟩ := Classical.choose_spec hh
  cases l with
  | nil => exact absurd rfl hl
  | cons a l =>
    have e1 := h2 0 a rfl
    have e2 := hg 0 a rfl
    rw [e2] at e1
    exact e1.symm
theorem TrOps.opA {ops : Array Oper} {o : Oper} {l : List Oper} {st : St} {Q : Exit → St → Prop} {R : V → Store → Prop} (hw : want ops o st = some true) (hd : fits st o.dst = true) (h : OkA P o st R)
    (k : ∀ v s', R v s' → TrOps P noG ops l (st.put o.dst v s') Q) : TrOps P noG ops (o :: l) st Q := by
  intro B F loc a w hR hdf
  show if _ then _ else _
  rw [want_spec hR hw]
  simp only [if_true]
  left
  obtain ⟨v, s', hr, F', loc', w', x, r, hrun, hx, hS, hk, hs, hv⟩ := h B F loc a w hR
  unfold Oper.wp
  rw [hrun]
  have hdf' : (a.put o.dst x).defers = [] := by cases ho : o.dst <;> simp [Act.put, hdf]
  rcases hx with rfl | ⟨rfl, rfl⟩
  · exact k v s' hr B F' loc' _ w' (hR.put hd hS hk hs hv) hdf'
  · exact k v s' hr B F' loc' _ w' (hR.put hd hS hk hs hv) hdf'

/-! what an operation wants frozen first -/
mutual
def ownedIn : X → Option Nat
  | .sl _ o => some o
  | .sw o _ _ => some o
  | .ag l => ownedL l
  | .ifc _ x => ownedIn x
  | _ => none
def ownedL : List X → Option Nat
  | [] => none
  | x :: l => match ownedIn x with | some o => some o | none => ownedL l
end
def isPe : X → Bool | .pe _ _ _ => true | _ => false
def frzWish (e : Operand → X) : Op → Option Nat
  | .buildSlice _ _ parts => ownedL (parts.toList.map fun p => e p.2)
  | .store _ p x => cond (isPe (e p)) (ownedIn (e x)) none
  | _ => none

mutual
def Sh.ren (f : Nat → Option Nat) : Sh → Sh
  | .sl nl o => match f o with | some o' => .sl nl o' | none => .dead
  | .sw o => match f o with | some o' => .sw o' | none => .dead
  | .pt o off => match f o with | some o' => .pt o' off | none => .dead
  | .pe o off => match f o with | some o' => .pe o' off | none => .dead
  | .mp o => match f o with | some o' => .mp o' | none => .dead
  | .it o => match f o with | some o' => .it o' | none => .dead
  | .sp o => match f o with | some o' => .sp o' | none => .dead
  | .fn g l => .fn g (shrenL f l)
  | .ag l => .ag (shrenL f l)
  | .tp l => .tp (shrenL f l)
  | .ifc t x => .ifc t (Sh.ren f x)
  | x => x
def shrenL (f : Nat → Option Nat) : List Sh → List Sh
  | [] => []
  | x :: l => Sh.ren f x :: shrenL f l
end
def OSh.ren (f : Nat → Option Nat) : OSh → OSh
  | .bx e l => .bx e (shrenL f l)
  | x => x
/-- an object that tells less -/
def xweak (sh : OSh) (n : Nat) (st : XSt) : Option XSt :=
  match lk st.s n with
  | some (some x) => match getO sh (some x) with
    | some hs => some ⟨st.t, (n, (fillO sh hs).1) :: st.s⟩
    | none => none
  | _ => none
theorem Conv.xweak {E : XE} {sh : OSh} {n : Nat} {st st' : XSt} (h : Mc.xweak sh n st = some st') : Conv noG (encSt E st) (encSt E st') := by
  unfold Mc.xweak at h
  split at h
  · rename_i x hl
    split at h
    · rename_i hs hgo
      cases h
      obtain ⟨x', h1, h2⟩ := getO_wk sh (some x) hs [] hgo
      rw [List.append_nil] at h1
      rw [h1]
      intro B F loc tmps w hR
      refine ⟨F, loc, ⟨?_, hR.t, hR.n, hR.a⟩⟩
      have hS : RelS noG B w F loc (encS (st.s ++ E.s)) := hR.s
      have he : encS ((n, some x) :: (st.s ++ E.s)) = encS (st.s ++ E.s) := by
        funext m
        unfold encS
        rw [lk]
        cases hb : Nat.beq n m with
        | true => rw [← Nat.eq_of_beq_eq_true hb, lk_append, hl]; rfl
        | false => rfl
      have := RelS.wkO (pre := []) (post := st.s ++ E.s) (by rw [List.nil_append, he]; exact hS) h2
      exact this
    · cases h
  · cases h
def xweakL (ρ : Ren) (kp : List Nat) : List (Nat × OSh) → XSt → Option XSt
  | [], st => some st
  | (n, sh) :: l, st => cond (hasKey kp n) (match xweak (sh.ren (ren ρ)) ((lk ρ n).getD 0) st with
    | some st' => xweakL ρ kp l st'
    | none => none) (xweakL ρ kp l st)
theorem xweakL_conv {E : XE} {ρ : Ren} {kp : List Nat} : ∀ {l : List (Nat × OSh)} {st st' : XSt}, xweakL ρ kp l st = some st' → Conv noG (encSt E st) (encSt E st')
  | [], st, st', h => by simp only [xweakL] at h; cases h; exact Conv.refl _
  | (n, sh) :: l, st, st', h => by
    simp only [xweakL] at h
    cases hc : hasKey kp n with
    | false => rw [hc] at h; exact xweakL_conv h
    | true =>
      rw [hc] at h
      simp only [cond_true] at h
      split at h
      · rename_i st1 h1
        exact Conv.trans (Conv.xweak h1) (xweakL_conv h)
      · cases h

/-! one operation -/
def callOp : Op → Option (Operand × List Operand)
  | .call ⟨.value f, args, _⟩ => some (f, args.toList)
  | .call ⟨.invoke r _, args, _⟩ => some (r, args.toList)
  | _ => none
def dNum : Option Nat → Nat | some d => d | none => 99999
def callK {R : Type} (C : Con P) (E : XE) (o : Oper) (st : XSt) (y : Tup C.h) (ρ : Ren) (kk : XSt → Option R) : Option R :=
  (C.F y).bind fun r => elimAlt (C.R.map (·.h)) r fun i l =>
    cond (callB (gE E st) ρ (fresh ρ (dNum o.dst) (rAt C.R i).o) C.kp (rAt C.R i).o) (kk (putX st o.dst (callOut (rAt C.R i) ρ (dNum o.dst) l).1 (callOut (rAt C.R i) ρ (dNum o.dst) l).2)) none
/-- the first contract that fits; if none does, the first that asks for something frozen or for an object that tells less -/
inductive Pick (P : Program) where
  | bad
  | call (C : Con P) (y : Tup C.h) (ρ : Ren)
  | frz (o : Nat)
  | wkn (st : XSt)
def pick1 (E : XE) (f : FuncId) (xs : List X) (st : XSt) : List (Con P) → Pick P
  | [] => .bad
  | C :: Γ => cond (Nat.beq C.f f) (match callIn C (gE E st) xs with
    | .call y ρ => .call C y ρ
    | _ => pick1 E f xs st Γ) (pick1 E f xs st Γ)
def pick2 (E : XE) (f : FuncId) (xs : List X) (st : XSt) : List (Con P) → Pick P
  | [] => .bad
  | C :: Γ => cond (Nat.beq C.f f) (match callIn C (gE E st) xs with
    | .frz o => .frz o
    | _ =>
      let ρ := C.A.o.map fun p => (p.1, nameOf (bindO (gE E st) C.A.o (bindL C.A.a xs ⟨[], []⟩)) p.1)
      match walkS E ⟨[], C.A.o⟩ C.A.o (bindL C.A.a xs ⟨[], []⟩) st with
      | some (_, st1) => cond (Nat.blt st.s.length st1.s.length) (.wkn st1) (cond (keepB (gE E st) ρ C.kp C.A.o) (pick2 E f xs st Γ) (match xweakL ρ C.kp C.A.o st with
      | some st' => .wkn st'
      | none => pick2 E f xs st Γ))
      | none => pick2 E f xs st Γ) (pick2 E f xs st Γ)
def pickC (E : XE) (f : FuncId) (xs : List X) (st : XSt) (Γ : List (Con P)) : Pick P :=
  match pick1 E f xs st Γ with
  | .bad => pick2 E f xs st Γ
  | p => p
noncomputable def opRun {R : Type} (D : Dec) (rows : Nat → Option Row) (Γ : List (Con P)) (ops : Array Oper) (E : XE) : Nat → Oper → XSt → (XSt → Option R) → Option R
  | 0, _, _, _ => none
  | n + 1, o, st, kk => match wantX ops E o st, fitsX E o.dst with
    | some true, true => match callFn D (evE E st) o.op with
      | some fx => match fx with
        | some (f, xs) => match pickC E f xs st Γ with
          | .call C y ρ => callK C E o st y ρ kk
          | .frz q => match xfreeze E q st with
            | some st' => opRun D rows Γ ops E n o st' kk
            | none => none
          | .wkn st' => opRun D rows Γ ops E n o st' kk
          | .bad => none
        | none => none
      | none => match frzWish (evE E st) o.op with
        | some q => match xfreeze E q st with
          | some st' => opRun D rows Γ ops E n o st' kk
          | none => none
        | none => match xop D rows (gE E st) (evE E st) o with
          | .ok v u => kk (putX st o.dst v u)
          | .grd q v u => grd q (kk (putX st o.dst v u))
          | .bnd _ m f => m.bind fun a => kk (putX st o.dst (f a).1 (f a).2)
          | .nilq c v1 v2 => nilT c (kk (putX st o.dst v1 [])) (kk (putX st o.dst v2 []))
          | .cs c v1 u1 v2 u2 => cond c (kk (putX st o.dst v1 u1)) (kk (putX st o.dst v2 u2))
          | .any _ v0 u0 l f => cond l.isEmpty (kk (putX st o.dst v0 u0)) (anyL l fun j a => kk (putX st o.dst (f j a).1 (f j a).2))
          | _ => none
    | _, _ => none

theorem pick1_call {E : XE} {f : FuncId} {xs : List X} {st : XSt} : ∀ {Γ : List (Con P)} {C : Con P} {y : Tup C.h} {ρ : Ren}, pick1 E f xs st Γ = .call C y ρ → C.f = f ∧ callIn C (gE E st) xs = .call y ρ
  | [], C, y, ρ, h => by cases h
  | C' :: Γ, C, y, ρ, h => by
    simp only [pick1] at h
    cases hc : Nat.beq C'.f f with
    | false => rw [hc] at h; exact pick1_call h
    | true =>
      rw [hc] at h
      simp only [cond_true] at h
      split at h
      · rename_i y' ρ' hci
        cases h
        exact ⟨Nat.eq_of_beq_eq_true hc, hci⟩
      · exact pick1_call h
theorem pick1_only {E : XE} {f : FuncId} {xs : List X} {st : XSt} : ∀ {Γ : List (Con P)}, pick1 E f xs st Γ = .bad ∨ ∃ C y ρ, pick1 E f xs st Γ = .call C y ρ
  | [] => .inl rfl
  | C' :: Γ => by
    simp only [pick1]
    cases Nat.beq C'.f f with
    | false => exact pick1_only
    | true =>
      simp only [cond_true]
      split
      · exact .inr ⟨_, _, _, rfl⟩
      · exact pick1_only
theorem pick2_wkn {E : XE} {f : FuncId} {xs : List X} {st st' : XSt} : ∀ {Γ : List (Con P)}, pick2 E f xs st Γ = .wkn st' → Conv noG (encSt E st) (encSt E st')
  | [], h => by cases h
  | C' :: Γ, h => by
    simp only [pick2] at h
    cases hc : Nat.beq C'.f f with
    | false => rw [hc] at h; exact pick2_wkn h
    | true =>
      rw [hc] at h
      simp only [cond_true] at h
      split at h
      · cases h
      · split at h
        · rename_i a1 st1 hw
          cases hb : Nat.blt st.s.length st1.s.length with
          | true =>
            rw [hb] at h
            cases h
            exact walkS_conv hw
          | false =>
            rw [hb] at h
            simp only [cond_false] at h
            cases hk : keepB (gE E st) (C'.A.o.map fun p => (p.1, nameOf (bindO (gE E st) C'.A.o (bindL C'.A.a xs ⟨[], []⟩)) p.1)) C'.kp C'.A.o with
            | true => rw [hk] at h; exact pick2_wkn h
            | false =>
              rw [hk] at h
              simp only [cond_false] at h
              split at h
              · rename_i st1 h1
                cases h
                exact xweakL_conv h1
              · exact pick2_wkn h
        · exact pick2_wkn h
theorem pick2_call {E : XE} {f : FuncId} {xs : List X} {st : XSt} {C : Con P} {y : Tup C.h} {ρ : Ren} : ∀ {Γ : List (Con P)}, pick2 E f xs st Γ ≠ .call C y ρ
  | [], h => by cases h
  | C' :: Γ, h => by
    simp only [pick2] at h
    cases hc : Nat.beq C'.f f with
    | false => rw [hc] at h; exact pick2_call h
    | true =>
      rw [hc] at h
      simp only [cond_true] at h
      split at h
      · cases h
      · split at h
        · rename_i a1 st1 hw
          cases hb : Nat.blt st.s.length st1.s.length with
          | true => rw [hb] at h; cases h
          | false =>
            rw [hb] at h
            simp only [cond_false] at h
            cases hk : keepB (gE E st) (C'.A.o.map fun p => (p.1, nameOf (bindO (gE E st) C'.A.o (bindL C'.A.a xs ⟨[], []⟩)) p.1)) C'.kp C'.A.o with
            | true => rw [hk] at h; exact pick2_call h
            | false =>
              rw [hk] at h
              simp only [cond_false] at h
              split at h
              · cases h
              · exact pick2_call h
        · exact pick2_call h
theorem pickC_call {E : XE} {f : FuncId} {xs : List X} {st : XSt} {Γ : List (Con P)} {C : Con P} {y : Tup C.h} {ρ : Ren} (h : pickC E f xs st Γ = .call C y ρ) : C.f = f ∧ callIn C (gE E st) xs = .call y ρ := by
  unfold pickC at h
  split at h
  · exact absurd h pick2_call
  · exact pick1_call h
theorem pickC_wkn {E : XE} {f : FuncId} {xs : List X} {st st' : XSt} {Γ : List (Con P)} (h : pickC E f xs st Γ = .wkn st') : Conv noG (encSt E st) (encSt E st') := by
  unfold pickC at h
  split at h
  · exact pick2_wkn h
  · rcases pick1_only (E := E) (f := f) (xs := xs) (st := st) (Γ := Γ) with h1 | ⟨C, y, ρ, h1⟩
    · rw [h1] at h; cases h
    · rw [h1] at h; cases h

theorem opRun_sound (hg : Good P D) {R : Type} {rows : Nat → Option Row} {Γ : List (Con P)} {ops : Array Oper} {E : XE} {l : List Oper} {Q : Exit → St → Prop} {r : R} : ∀ (n : Nat) (o : Oper) (st : XSt) (kk : XSt → Option R), opRun D rows Γ ops E n o st kk = some r →
    (∀ st', kk st' = some r → TrOps P noG ops l (encSt E st') Q) → TrOps P noG ops (o :: l) (encSt E st) Q
  | 0, _, _, _, h, _ => by cases h
  | n + 1, o, st, kk, h, hk => by
    simp only [opRun] at h
    split at h
    · rename_i hw hfit
      have hw' := wantX_spec hw
      have hd : fits (encSt E st) o.dst = true := hfit
      split at h
      · rename_i fx hco
        split at h
        · rename_i f xs
          split at h
          · rename_i C y ρ hp
            obtain ⟨rfl, hci⟩ := pickC_call hp
            unfold callK at h
            obtain ⟨z, hz, h⟩ := bind_out h
            have law := callIn_ok hg (agreeE E st) hco (fun x _ => evE_enc E st x) hci (dNum o.dst) hz
            obtain ⟨i, l', h1, h2⟩ := elim_both _ z h law
            obtain ⟨hcb, h1⟩ := grd_out (c := callB _ _ _ _ _) h1
            refine TrOps.opW hw' hd (h2 hcb) ?_
            rw [← putX_enc]
            exact hk _ h1
          · split at h
            · rename_i st' hfz
              exact TrOps.conv (Conv.xfreeze hfz) (opRun_sound hg n o st' kk h hk)
            · cases h
          · rename_i st' hp
            exact TrOps.conv (pickC_wkn hp) (opRun_sound hg n o st' kk h hk)
          · cases h
        · cases h
      · split at h
        · split at h
          · rename_i st' hfz
            exact TrOps.conv (Conv.xfreeze hfz) (opRun_sound hg n o st' kk h hk)
          · cases h
        · have law := xop_spec (o := o) (st := encSt E st) (rows := rows) hg (agreeE E st) (fun x _ => evE_enc E st x)
          split at h
          · rename_i v u hx
            rw [hx] at law
            refine TrOps.op hw' hd law ?_
            rw [← putX_enc]; exact hk _ h
          · rename_i q v u hx
            rw [hx] at law
            obtain ⟨hq, h⟩ := grd_out h
            refine TrOps.op hw' hd (law hq) ?_
            rw [← putX_enc]; exact hk _ h
          · rename_i α m f hx
            rw [hx] at law
            obtain ⟨a, ha, h⟩ := bind_out h
            refine TrOps.op hw' hd (law a ha) ?_
            rw [← putX_enc]; exact hk _ h
          · rename_i c v1 v2 hx
            rw [hx] at law
            obtain ⟨h1, h2⟩ := nilT_out h
            refine TrOps.opD hw' hd law (fun hc => ?_) ?_
            · have := putX_enc E st o.dst v1 []
              simp only [over] at this
              rw [← this]; exact hk _ (h1 hc)
            · have := putX_enc E st o.dst v2 []
              simp only [over] at this
              rw [← this]; exact hk _ h2
          · rename_i c v1 u1 v2 u2 hx
            rw [hx] at law
            cases c with
            | true =>
              refine TrOps.op hw' hd (law.1 rfl) ?_
              rw [← putX_enc]; exact hk _ h
            | false =>
              refine TrOps.op hw' hd (law.2 rfl) ?_
              rw [← putX_enc]; exact hk _ h
          · rename_i α v0 u0 l0 f hx
            rw [hx] at law
            cases l0 with
            | nil =>
              refine TrOps.op hw' hd (law.1 rfl) ?_
              rw [← putX_enc]; exact hk _ h
            | cons a0 l0 =>
              obtain ⟨_, h2⟩ := anyL_out (show anyL (a0 :: l0) _ = some r from h)
              refine TrOps.opA hw' hd (law.2 (by simp)) ?_
              rintro v s' ⟨j, a1, hj, rfl, rfl⟩
              rw [← putX_enc]; exact hk _ (h2 j a1 hj)
          · cases h
    · cases h
end Go.Proofs.YtobfoiomjfdjjaaDoor.Mc
