/- Plain laws: guards over one root and two. -/
import Derived.Test.YtbjkpogfgijmaaaGreatLawA
namespace Go.Proofs.YtbjkpogfgijmaaaGreat
open Go
set_option linter.unusedVariables false
set_option linter.unusedSimpArgs false
theorem guard1 {k : Nat} [F : Fuel k] {r : RootD} (h : WfRoot r) : ∃ t, swarflaw03_small k ([r] : List RootD) = some t ∧ (t = true → Good 4 r) := by
  obtain ⟨t, e, f⟩ := small_loop (k := k) (l := [r]) (by simp) (by simpa using h)
  exact ⟨t, e, fun ht => f ht r (by simp)⟩
theorem guard2 {k : Nat} [F : Fuel k] {r s : RootD} (h : WfRoot r) (g : WfRoot s) : ∃ t, swarflaw03_small k ([r, s] : List RootD) = some t ∧ (t = true → Good 4 r ∧ Good 4 s) := by
  obtain ⟨t, e, f⟩ := small_loop (k := k) (l := [r, s]) (by simp) (by simp; exact ⟨h, g⟩)
  exact ⟨t, e, fun ht => ⟨f ht r (by simp), f ht s (by simp)⟩⟩
theorem comOk_comm (x y : Rt) : comOk x y ↔ comOk y x := by unfold comOk; grind
theorem addR_comm {x y : Rt} (hx : Vr x) (hy : Vr y) (h : comOk x y) : addR x y = addR y x := by
  unfold addR red
  have e1 : x.A + y.A = y.A + x.A := by grind
  have e2 : x.B + y.B = y.B + x.B := by grind
  rw [e1, e2]
  split
  · rfl
  · have : com x y = com y x := by unfold com comOk Vr at *; grind
    rw [this]
theorem mulR_comm {x y : Rt} (hx : Vr x) (hy : Vr y) (h : comOk x y) : mulR x y = mulR y x := by
  unfold mulR red
  have e2 : x.A * y.B + x.B * y.A = y.A * x.B + y.B * x.A := by grind
  have e1 : x.A * y.A + x.B * y.B * com x y = y.A * x.A + y.B * x.B * com y x := by unfold com comOk at *; grind
  rw [e1, e2]
  split
  · rfl
  · have : com x y = com y x := by unfold com comOk Vr at *; grind
    rw [this]
end Go.Proofs.YtbjkpogfgijmaaaGreat
