/- The plain law LookaheadSpeeds: the errors and the speeds of the program are those of the reference. -/
import Derived.Test.YtbjkpogfgijmaaaLa3
import Derived.Test.YtbjkpogfgijmaaaAwake48
namespace Go.Proofs.Ytbjkpogfgijmaaa
open Go
set_option linter.unusedVariables false
set_option linter.unusedSimpArgs false
theorem law_LookaheadSpeeds (l : List PartD) (n : Int) (hl : ∀ x ∈ l, WfPart x) (hn : In64 n) (hm : l.length * 24 ≤ 140737488355328) : ∃ k, swarflaw48_LookaheadSpeeds k l n = some true := by
  obtain ⟨k, F⟩ := fuel_exists
  refine ⟨k, ?_⟩
  unfold swarflaw48_LookaheadSpeeds
  rw [awake48, Option.bind_some, Bool.not_true, cond_false]
  obtain ⟨s, e, h1, h2, h3⟩ := speeds_same (k := k) l n
  have hs : s.length ≤ LM := by
    rw [LM_val]
    rcases h3 with ⟨_, rfl⟩ | ⟨_, hv, w⟩
    · simp
    · have := w.len; have := (vE_zero hv).1; omega
  simp only [of_ok l hm, h1, h2, valid_ok, rvalid_ok, Option.bind_some, beq_self_eq_true, cond_true, equal_self s hs]
  cases decide ((l.length : Int) > 60) <;> cases decide ((l.length : Int) ≤ 2000) <;> rfl
end Go.Proofs.Ytbjkpogfgijmaaa
