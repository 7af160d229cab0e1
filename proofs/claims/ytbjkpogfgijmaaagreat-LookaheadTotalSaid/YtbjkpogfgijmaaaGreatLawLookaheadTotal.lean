/- The plain law LookaheadTotal: the time of motions is that of the reference, or the same error. -/
import Derived.Test.YtbjkpogfgijmaaaGreatLa6
import Derived.Test.YtbjkpogfgijmaaaGreatAwake48
namespace Go.Proofs.YtbjkpogfgijmaaaGreat
open Go
set_option linter.unusedVariables false
set_option linter.unusedSimpArgs false
theorem law_LookaheadTotal (l : List MotionD) (v a : Int) (hl : ∀ x ∈ l, WfMotion x) (hv : In64 v) (ha : In64 a) : ∃ k, swarflaw48_LookaheadTotal k l v a = some true := by
  obtain ⟨k, F⟩ := fuel_exists
  refine ⟨k, ?_⟩
  unfold swarflaw48_LookaheadTotal
  obtain ⟨x, h1, h2⟩ := total_same (k := k) l v a
  rw [awake48, Option.bind_some, Bool.not_true, cond_false]
  simp only [h1, h2, Option.bind_some, beq_self_eq_true, cond_true]
  cases decide ((l.length : Int) > 20) <;> cases decide ((l.length : Int) ≤ 20000) <;> rfl
end Go.Proofs.YtbjkpogfgijmaaaGreat
