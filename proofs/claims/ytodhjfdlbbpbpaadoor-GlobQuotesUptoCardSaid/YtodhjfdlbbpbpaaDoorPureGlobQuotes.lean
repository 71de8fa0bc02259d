/- GlobQuotes' plain law. -/
import Derived.Test.YtodhjfdlbbpbpaaDoorPGlob4
import Derived.Test.YtodhjfdlbbpbpaaDoorPureGlobCounts
import Derived.Test.YtodhjfdlbbpbpaaDoorPureGlobStars
namespace Go.Proofs.YtodhjfdlbbpbpaaDoor.PureGlobQuotes
open Go.RowKit Go.Proofs.YtodhjfdlbbpbpaaDoor.Mc Go.Proofs.YtodhjfdlbbpbpaaDoor.N Go.Proofs.YtodhjfdlbbpbpaaDoor.Plain Go.Proofs.YtodhjfdlbbpbpaaDoor.PureRune Go.Proofs.YtodhjfdlbbpbpaaDoor.PureKeys Go.Proofs.YtodhjfdlbbpbpaaDoor.PureCmp Go.Proofs.YtodhjfdlbbpbpaaDoor.PureBytes Go.Proofs.YtodhjfdlbbpbpaaDoor.PGlob1 Go.Proofs.YtodhjfdlbbpbpaaDoor.PGlob2 Go.Proofs.YtodhjfdlbbpbpaaDoor.PGlob3 Go.Proofs.YtodhjfdlbbpbpaaDoor.PGlob4
theorem alive : F7 3000000 = some true := by kernel_rfl
open Go.Proofs.YtodhjfdlbbpbpaaDoor.PureGlobStars (right_some)
set_option linter.unusedSimpArgs false
set_option linter.unusedVariables false
theorem rq_cons (b : Nat) (u : List Nat) : rq (b :: u) = (if spc b then [92] else []) ++ (b :: rq u) := by
  unfold rq
  rw [List.flatMap_cons]
  cases spc b <;> rfl
theorem refquote_loop (K : Nat) (s : ByteArray) (hs : s.size ≤ 1000000000) : ∀ (m p k : Nat) (x : List Int), s.size - p = m → p ≤ s.size → x.length ≤ 2 * p → m < k → loopN (L13_8 K s) k ((p : Int), x) = some (x ++ ci (rq (bs s p)))
  | 0, p, k, x, hm, hp, hx, hk => by
    obtain ⟨k, rfl⟩ : ∃ q, k = q + 1 := ⟨k - 1, by omega⟩
    refine loop_end ?_
    unfold L13_8
    rw [condF (by omega), bs_end s p (by omega)]
    simp [rq, ci]
  | m + 1, p, k, x, hm, hp, hx, hk => by
    obtain ⟨k, rfl⟩ : ∃ q, k = q + 1 := ⟨k - 1, by omega⟩
    have w1 : IntKind.wrap .i64 ((p : Int) + 1) = ((p + 1 : Nat) : Int) := by rw [w64 (by omega) (by omega)]; omega
    have ih := refquote_loop K s hs m (p + 1) k (x ++ ci (if spc (at_ s p) then [92] else []) ++ [(at_ s p : Int)]) (by omega) (by omega) (by
      simp only [List.length_append, ci, List.length_map, List.length_singleton]
      split <;> simp <;> omega) (by omega)
    rw [loop_step (b := (((p + 1 : Nat) : Int), x ++ ci (if spc (at_ s p) then [92] else []) ++ [(at_ s p : Int)])), ih]
    · rw [bs_cons s p (by omega), rq_cons, ci_app, List.append_assoc, List.append_assoc]; rfl
    · unfold L13_8
      simp only [bt_at, w1]
      rw [condT (by omega), grdD (by omega), chain, Option.bind_some]
      cases spc (at_ s p) with
      | true =>
        rw [cond_true, grdD (by simp only [List.length_singleton]; omega), Option.bind_some, grdD (by omega), grdD (by simp only [List.length_append, List.length_singleton]; omega)]; rfl
      | false =>
        rw [cond_false, Option.bind_some, grdD (by omega), grdD (by simp only [List.length_singleton]; omega)]
        simp only [Bool.false_eq_true, if_false, ci, List.map_nil, List.append_nil]
theorem refquote_run (K : Nat) {s : ByteArray} (hs : s.size ≤ 1000000000) (hk : s.size < K) : F13 K s = some (strOfNums (ci (rq (bs s 0)))) := by
  unfold F13
  rw [show (0 : Int) = ((0 : Nat) : Int) from rfl, refquote_loop K s hs s.size 0 K [] (by omega) (by omega) (by simp) hk, Option.bind_some, List.nil_append]
theorem plain_loop (K : Nat) (l : List It) (hl : l.length ≤ 1000) (hz : ∀ x ∈ l, x.1 = 0) (hb : ∀ x ∈ l, x.2.2.1.size ≤ 1000000) : ∀ (m i k : Nat) (out : ByteArray), i + m = l.length → m < k → out.size ≤ 1000000 * i → ∃ out', loopN (L14_18 K (true, l)) k (out, (i : Int)) = some (.inr out') ∧ strNums out' = strNums out ++ ((l.drop i).map fun x => strNums x.2.2.1).flatten
  | 0, i, k, out, hi, hk, ho => by
    obtain ⟨k, rfl⟩ : ∃ q, k = q + 1 := ⟨k - 1, by omega⟩
    refine ⟨out, loop_end ?_, ?_⟩
    · unfold L14_18; rw [condF (by show ¬ (i : Int) < (l.length : Int); omega)]
    · rw [List.drop_of_length_le (by omega)]; simp
  | m + 1, i, k, out, hi, hk, ho => by
    obtain ⟨k, rfl⟩ : ∃ q, k = q + 1 := ⟨k - 1, by omega⟩
    have hlt : i < l.length := by omega
    have hli : l[i]? = some l[i] := List.getElem?_eq_getElem hlt
    have h0 := hz _ (List.getElem_mem hlt)
    have h1 := hb _ (List.getElem_mem hlt)
    obtain ⟨out', r1, r2⟩ := plain_loop K l hl hz hb m (i + 1) k (out ++ l[i].2.2.1) (by omega) (by omega) (by rw [ByteArray.size_append]; omega)
    refine ⟨out', ?_, ?_⟩
    · rw [loop_step (b := (out ++ l[i].2.2.1, ((i + 1 : Nat) : Int)))]
      · exact r1
      · unfold L14_18
        simp only [ixn, Int.toNat_natCast, hli, Option.bind_some, h0]
        rw [condT (by omega), show ((0 : Int) != 0) = false from rfl, cond_false, grdD (by omega), w64 (by omega) (by omega)]; rfl
    · have sa : strNums (out ++ l[i].2.2.1) = strNums out ++ strNums l[i].2.2.1 := by
        rw [strNums_bs, strNums_bs, strNums_bs, bs_app, ci_app]
      rw [r2, List.drop_eq_getElem_cons hlt, List.map_cons, List.flatten_cons, sa, List.append_assoc]
theorem law (x1 : ByteArray) (x2 : ByteArray) (g : gdT [.str, .str] (x1, x2)) (b : blkT [.str, .str] (x1, x2) ≤ 1048576) : ∃ k, F6 k x1 x2 = some true := by
  refine ⟨3000000, ?_⟩
  have b' : x1.size + x2.size ≤ 1048576 := b
  obtain ⟨L, hL, lL⟩ := runes_ex x1 x1.size 0 (by omega)
  obtain ⟨T, hT, lT⟩ := runes_ex x2 x2.size 0 (by omega)
  unfold F6
  rw [quote_run 3000000 (by omega) hL (by omega) (by omega), Option.bind_some, alive, Option.bind_some, Bool.not_true, cond_false, refquote_run 3000000 (by omega) (by omega), Option.bind_some]
  rw [show (!((qB x1 L).toList == (strOfNums (ci (rq (bs x1 0)))).toList)) = false by unfold qB; rw [qn_rq (runesL_of hL)]; simp, Option.bind_some, cond_false]
  have qs := qB_size x1 L
  have hr := qB_runes hL
  have lq := ql_len L
  obtain ⟨P', hP', lP'⟩ := runes_ex (qB x1 L) (qB x1 L).size 0 (by omega)
  have eP := uniq hP' hr
  subst eP
  rcases Nat.lt_or_ge 24 (ql L).length with hlong | hshort
  · have hsz : (qB x1 L).size ≤ 1000000000 := by omega
    have hpl : F16 3000000 (qB x1 L) = some (.inl false) := by
      unfold F16
      have hlen := sg_len (qB x1 L) (ql L) 0
      have hlt : (ql L).length ≤ (qB x1 L).size := by omega
      rw [signs_run 3000000 hsz hr (by omega) hlt, Option.bind_some, condT (by omega)]
    rw [right_bad _ hpl, Option.bind_some, Bool.not_false, cond_true, Option.bind_some, cond_true, match_bad _ hpl]; rfl
  have hbp : bs (qB x1 L) 0 = qn (bs x1 0) L ++ [] := by rw [qB_bs, List.append_nil]
  obtain ⟨o, p1, z1, m1, f1⟩ := pr_quote (qB x1 L) (runesL_of hL) 0 _ hbp
  have w4 := width4 hL (by omega)
  have hpar := parse_run 3000000 (s := qB x1 L) (by omega) hr hshort (by omega) (by omega) p1
  have hends := p1.ends
  have hlen := p1.len
  rw [sg_len] at hlen
  have hmatch : ∀ {k : ByteArray} {S : List (Nat × Nat)}, Runes k 0 S → S.length ≤ k.size → k.size ≤ 1000 → F9 3000000 (qB x1 L) k = some (M o (ri S)) := by
    intro k S hS lS hk
    exact match_parse 3000000 hpar (by omega) (fun x hx => by rw [hends x hx]; decide) hk hS lS (by omega)
  have hM : ∀ D : List Int, M o D = true ↔ D = ri L := by
    intro D
    have := M_ones o [] D z1
    rw [List.append_nil] at this
    rw [this]
    constructor
    · rintro ⟨t', h1, h2⟩
      rw [(M_nil t').1 h2, List.append_nil] at h1
      rw [h1, m1]; rfl
    · intro h
      exact ⟨[], by rw [List.append_nil, h, m1]; rfl, rfl⟩
  rw [right_parse _ hpar, Option.bind_some, Bool.not_true, cond_false, hmatch hL (by omega) (by omega), (hM (ri L)).2 rfl]
  have first : ∀ e : Option Bool, (cond true ((some true : Option Bool).bind fun y21 => cond (!y21) (some true) ((some true : Option Bool).bind fun y22 => some y22)) e) = some true := fun e => rfl
  by_cases h60 : 60 < (x2.size : Int)
  · rw [condT h60, Option.bind_some]; rfl
  rw [condF h60]
  obtain ⟨kb, hkb⟩ := right_some 3000000 x1 (by omega)
  rw [hkb, Option.bind_some, Option.bind_some]
  cases kb with
  | false => rfl
  | true =>
  rw [Bool.not_true, cond_false]
  -- Plain
  have hpieces : ∀ x ∈ o, x.2.2.1.size ≤ 1000000 := by
    intro x hx
    have hmem : strNums x.2.2.1 ∈ o.map fun x => strNums x.2.2.1 := List.mem_map.2 ⟨x, hx, rfl⟩
    have hle : (strNums x.2.2.1).length ≤ (o.map fun x => strNums x.2.2.1).flatten.length := (List.sublist_flatten_of_mem hmem).length_le
    rw [f1, ci, List.length_map, bs_len, strNums_length] at hle
    omega
  obtain ⟨out', s1, s2⟩ := plain_loop 3000000 o (by omega) z1 hpieces o.length 0 3000000 (⟨#[]⟩ : ByteArray) (by omega) (by omega) (by decide)
  rw [List.drop_zero, f1, show strNums (⟨#[]⟩ : ByteArray) = [] from rfl, List.nil_append] at s2
  have hout : out' = x1 := by
    rw [strNums_bs] at s2
    exact ba_of_bs (ci_inj s2)
  subst hout
  have hplain : F14 3000000 (qB out' L) = some (out', true) := by
    unfold F14
    rw [hpar]
    simp only [Option.bind_some, sel, Bool.not_true, cond_false]
    rw [show (0 : Int) = ((0 : Nat) : Int) from rfl, s1]; rfl
  rw [hplain, Option.bind_some, Option.bind_some, cond_true]
  simp only []
  rw [cond_true, BEq.rfl, cond_true, hmatch hT (by omega) (by omega), Option.bind_some]
  cases hm : M o (ri T) with
  | false => rfl
  | true =>
    have e := (hM (ri T)).1 hm
    have hk := key_of _ hL (by omega) hkb
    rw [Bool.not_true, cond_false, cmp_run 3000000 (by omega) (by omega) hL hT (by omega) (by omega) (by omega) (by omega), Option.bind_some]
    have : rs T = rs L := e
    rw [this, cmp_self]; rfl
end Go.Proofs.YtodhjfdlbbpbpaaDoor.PureGlobQuotes
