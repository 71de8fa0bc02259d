/- GetText equals the reference for all bytes, every index and every limit. No condition: every input that can be read. -/
import Derived.Test.YtcadbihgfahjjaaPLayTextsx2
import Derived.Test.YtcadbihgfahjjaaKLayTextsGetNum
namespace Go.Proofs.Ytcadbihgfahjjaa.Pure
open Go.RowKit Go.Proofs.Ytcadbihgfahjjaa.PLayTexts Go.Proofs.YtcadbihgfahjjaaW.PrintWords Go.Proofs.YtcadbihgfahjjaaW.PrintLast Go.Proofs.YtcadbihgfahjjaaW.PrintMore

theorem alive_true : cachepotlaw4_alive.f 20 = some true := by decide +kernel

theorem bounds (b : ByteArray) (at_ : Int) : 0 ≤ (MLay.getNum (bt b) b.size at_).1 ∧ (MLay.getNum (bt b) b.size at_).1 < 4294967296 ∧
    ((MLay.getNum (bt b) b.size at_).2.2 = 0 → 0 ≤ at_ ∧ at_ < (MLay.getNum (bt b) b.size at_).2.1 ∧ (MLay.getNum (bt b) b.size at_).2.1 ≤ b.size) := by
  unfold MLay.getNum
  by_cases c : at_ < 0 ∨ at_ > b.size
  · rw [if_pos c]; simp
  · rw [if_neg c]
    have := MLay.gn_bound (bt b) b.size (bt_range b) 5 at_ 0 0 (by omega) (by omega) (by omega) (by simp)
    exact ⟨this.1, this.2.1, fun h => ⟨by omega, (this.2.2.2.2 h).1, (this.2.2.2.2 h).2⟩⟩

theorem LayTexts : cachepotlaw4_LayTexts.Pure := by
  intro b at_ most hb _ _
  have h1 := KLayTexts.lay_getNum b at_ hb
  have h2 := KLayTexts.ref_getNum b at_ hb
  have hbd := bounds b at_
  have h3 : Ev (fun k => cachepotlaw4_alive.f k) true := Ev.of cachepotlaw4_alive.mono alive_true
  obtain ⟨k1, h1⟩ := h1
  obtain ⟨k2, h2⟩ := h2
  obtain ⟨k3, h3⟩ := h3
  generalize MLay.getNum (bt b) b.size at_ = r at *
  obtain ⟨v, n, e⟩ := r
  refine ⟨k1 + k2 + k3, ?_⟩
  have g1 : lay_GetNum.f (k1 + k2 + k3) b at_ = _ := h1 _ (by omega)
  have g2 : cachepotref1_GetNum.f (k1 + k2 + k3) b at_ = _ := h2 _ (by omega)
  have g3 : cachepotlaw4_alive.f (k1 + k2 + k3) = _ := h3 _ (by omega)
  have e1 : ∃ x, lay_GetText.f (k1 + k2 + k3) b at_ most = some x ∧ cachepotref1_GetText.f (k1 + k2 + k3) b at_ most = some x := by
    unfold lay_GetText.f cachepotref1_GetText.f
    rw [g1, g2]
    simp only [Option.bind_some]
    by_cases c0 : e = 0
    · rw [if_pos c0]
      have hbd3 := hbd.2.2 c0
      simp only at hbd hbd3
      have w1 : wrap64 v = v := by unfold wrap64; omega
      have w2 : wrap64 ((b.size : Int) - n) = b.size - n := by unfold wrap64; omega
      rw [w1, w2]
      by_cases c1 : v > mx most 0
      · rw [if_pos c1]; exact ⟨_, rfl, rfl⟩
      rw [if_neg c1]
      by_cases c2 : v > b.size - n
      · rw [if_pos c2]; exact ⟨_, rfl, rfl⟩
      rw [if_neg c2]
      have w3 : wrap64 (n + v) = n + v := by unfold wrap64; omega
      rw [w3, if_pos (by omega), if_pos (by omega), if_pos (by omega)]
      exact ⟨_, rfl, rfl⟩
    · rw [if_neg c0]; exact ⟨_, rfl, rfl⟩
  obtain ⟨x, x1, x2⟩ := e1
  unfold cachepotlaw4_LayTexts.f
  rw [x1, x2, g3]
  simp

end Go.Proofs.Ytcadbihgfahjjaa.Pure
