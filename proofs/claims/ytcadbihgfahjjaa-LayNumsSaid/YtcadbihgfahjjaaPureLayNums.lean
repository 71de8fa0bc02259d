/- GetNum equals the reference for all bytes and every index. No condition: every input that can be read. -/
import Derived.Test.YtcadbihgfahjjaaPLayNumsx2
import Derived.Test.YtcadbihgfahjjaaKLayNumsGetNum
namespace Go.Proofs.Ytcadbihgfahjjaa.Pure
open Go.RowKit Go.Proofs.Ytcadbihgfahjjaa.PLayNums Go.Proofs.YtcadbihgfahjjaaW.PrintWords Go.Proofs.YtcadbihgfahjjaaW.PrintLast

theorem alive_true : cachepotlaw4_alive.f 20 = some true := by decide +kernel

theorem LayNums : cachepotlaw4_LayNums.Pure := by
  intro b at_ hb _
  have h1 := KLayNums.lay_getNum b at_ hb
  have h2 := KLayNums.ref_getNum b at_ hb
  have h3 : Ev (fun k => cachepotlaw4_alive.f k) true := Ev.of cachepotlaw4_alive.mono alive_true
  obtain ⟨k1, h1⟩ := h1
  obtain ⟨k2, h2⟩ := h2
  obtain ⟨k3, h3⟩ := h3
  refine ⟨k1 + k2 + k3, ?_⟩
  have g1 : lay_GetNum.f (k1 + k2 + k3) b at_ = _ := h1 _ (by omega)
  have g2 : cachepotref1_GetNum.f (k1 + k2 + k3) b at_ = _ := h2 _ (by omega)
  have g3 : cachepotlaw4_alive.f (k1 + k2 + k3) = _ := h3 _ (by omega)
  unfold cachepotlaw4_LayNums.f
  rw [g1, g2, g3]
  simp

end Go.Proofs.Ytcadbihgfahjjaa.Pure
