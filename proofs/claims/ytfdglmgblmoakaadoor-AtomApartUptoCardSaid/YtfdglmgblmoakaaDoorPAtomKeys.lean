/- Keys: whichever order the entries come in. -/
import Derived.Test.YtfdglmgblmoakaaDoorPAtom
import Derived.Test.YtfdglmgblmoakaaDoorPSorted
namespace Go.Proofs.YtfdglmgblmoakaaDoor.PAtomKeys
open Go.RowKit Go.Proofs.YtfdglmgblmoakaaDoor.Mc Go.Proofs.YtfdglmgblmoakaaDoor.N Go.Proofs.YtfdglmgblmoakaaDoor.Plain Go.Proofs.YtfdglmgblmoakaaDoor.PSorted Go.Proofs.YtfdglmgblmoakaaDoor.PAtom
set_option linter.unusedSimpArgs false
set_option linter.unusedVariables false
theorem perm_erase {α : Type} : ∀ {l : List α} {j : Nat} {a : α}, l[j]? = some a → (a :: l.eraseIdx j).Perm l
  | [], _, _, h => by simp at h
  | x :: l, 0, a, h => by
    cases h
    exact List.Perm.refl _
  | x :: l, j + 1, a, h => by
    have ih := perm_erase (l := l) (j := j) (a := a) (by simpa using h)
    rw [List.eraseIdx_cons_succ]
    exact (List.Perm.swap x a _).trans (List.Perm.cons x ih)
theorem keys_loop {R : Type} (K : Nat) (es : Es) (KK : Es × List ByteArray → Option R) (r : R) : ∀ (n k : Nat) (rest : Es) (out : List ByteArray), rest.length = n → n < k → out.length + n ≤ 1000000 → (∀ p : List ByteArray, p.Perm (rest.map (·.1)) → KK (es, out ++ p) = some r) →
    loopC (L23_16 K) k ((es, rest), out) KK = some r
  | 0, k, rest, out, hr, hk, hl, h => by
    obtain ⟨k, rfl⟩ : ∃ q, k = q + 1 := ⟨k - 1, by omega⟩
    have : rest = [] := List.eq_nil_of_length_eq_zero hr
    subst this
    have h0 := h [] (List.Perm.refl _)
    rw [List.append_nil] at h0
    show L23_16 K ((es, []), out) _ KK = _
    unfold L23_16
    exact h0
  | n + 1, k, rest, out, hr, hk, hl, h => by
    obtain ⟨k, rfl⟩ : ∃ q, k = q + 1 := ⟨k - 1, by omega⟩
    have hne : rest ≠ [] := by rintro rfl; simp at hr
    show L23_16 K ((es, rest), out) (fun b => loopC (L23_16 K) k b KK) KK = _
    unfold L23_16
    dsimp only
    rw [show rest.isEmpty = false by cases rest with | nil => exact absurd rfl hne | cons => rfl, cond_false]
    refine anyL_of hne fun j a hj => ?_
    have hp := perm_erase hj
    have hlen := hp.length_eq
    rw [List.length_cons] at hlen
    rw [grdD (by simp only [List.length_singleton]; omega)]
    refine keys_loop K es KK r n k (rest.eraseIdx j) (out ++ [a.1]) (by omega) (by omega) (by simp; omega) fun p hpp => ?_
    rw [List.append_assoc]
    exact h (a.1 :: p) ((List.Perm.cons a.1 hpp).trans (hp.map fun x : ByteArray × Aw => x.1))
noncomputable def kys (es : Es) : List ByteArray := srt (es.map (·.1))
theorem keys_run (K : Nat) (hK : 2000000 ≤ K) (es : Es) (hs : Small (es.map (·.1))) (hl : es.length ≤ 1000000) : F23 K es = some (kys es, es) := by
  unfold F23
  refine keys_loop K es _ _ es.length K es [] rfl (by omega) (by simpa using hl) fun p hp => ?_
  have hsp : Small p := fun a ha => hs a (hp.mem_iff.1 ha)
  have hlp : p.length = es.length := by rw [hp.length_eq, List.length_map]
  dsimp only
  rw [List.nil_append, sorted_run K hK hsp (by omega), Option.bind_some, srt_uniq (fun x => hp.mem_iff)]
  rfl
end Go.Proofs.YtfdglmgblmoakaaDoor.PAtomKeys
