/- The plain law LookaheadFaster: Faster and Length of the program are those of the reference. -/
import Derived.Test.YtbjkpogfgijmaaaLa1
import Derived.Test.YtbjkpogfgijmaaaAwake48
namespace Go.Proofs.Ytbjkpogfgijmaaa
open Go
set_option linter.unusedVariables false
set_option linter.unusedSimpArgs false
theorem law_LookaheadFaster (a : Int × Int × Int) (p q : PosD) (ha : In64 a.1 ∧ In64 a.2.1 ∧ In64 a.2.2) (hp : WfPos p) (hq : WfPos q) : ∃ k, swarflaw48_LookaheadFaster k a p q = some true := by
  obtain ⟨k, F⟩ := fuel_exists
  refine ⟨k, ?_⟩
  unfold swarflaw48_LookaheadFaster
  rw [awake48, Option.bind_some, Bool.not_true, cond_false, Faster_ok, Option.bind_some, rFaster_ok, Option.bind_some, length_ok, Option.bind_some, rlength_ok, Option.bind_some]
  simp only [beq_self_eq_true, cond_true]
end Go.Proofs.Ytbjkpogfgijmaaa
