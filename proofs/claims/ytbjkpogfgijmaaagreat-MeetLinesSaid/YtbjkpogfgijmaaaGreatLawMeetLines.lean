/- The plain law MeetLines: the common points of two lines are those of the reference. -/
import Derived.Test.YtbjkpogfgijmaaaGreatMe3
namespace Go.Proofs.YtbjkpogfgijmaaaGreat
open Go
set_option linter.unusedVariables false
set_option linter.unusedSimpArgs false
theorem law_MeetLines (a b : LineD) (ha : WfLine a) (hb : WfLine b) : ∃ k, swarflaw09_MeetLines k a b = some true := by
  obtain ⟨k, F⟩ := fuel_exists
  refine ⟨k, ?_⟩
  unfold swarflaw09_MeetLines
  rw [awake09, Option.bind_some, Bool.not_true, cond_false]
  obtain ⟨t1, e1, f1⟩ := line_ok (k := k) ha
  rw [e1, Option.bind_some]
  cases t1 with
  | false => rfl
  | true =>
    obtain ⟨l, rfl, z1, o1⟩ := f1 rfl
    rw [Bool.not_true, cond_false]
    obtain ⟨t2, e2, f2⟩ := line_ok (k := k) hb
    rw [e2, Option.bind_some]
    cases t2 with
    | false => rfl
    | true =>
      obtain ⟨l2, rfl, z2, o2⟩ := f2 rfl
      rw [Bool.not_true, cond_false]
      rw [lines_ok (z := z1) (w := z2) (by decide), Option.bind_some, rlines_ok (z := z1) (w := z2) (by decide), Option.bind_some]
      dsimp only
      rw [lawSame9 (n := 30) (by have := llF_len (a := l) (b := l2); omega) llF_vp (PwEq.self llF_vp) (fun p hp => (llF_zp z1 z2 p hp).mono (by omega)) (fun p hp => (llF_zp z1 z2 p hp).mono (by omega)) (by omega) (by omega)]; rfl
end Go.Proofs.YtbjkpogfgijmaaaGreat
