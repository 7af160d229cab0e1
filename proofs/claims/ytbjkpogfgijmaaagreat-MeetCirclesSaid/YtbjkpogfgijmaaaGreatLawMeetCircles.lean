/- The plain law MeetCircles: the common points of two circles are those of the reference. -/
import Derived.Test.YtbjkpogfgijmaaaGreatMe3
namespace Go.Proofs.YtbjkpogfgijmaaaGreat
open Go
set_option linter.unusedVariables false
set_option linter.unusedSimpArgs false
theorem law_MeetCircles (a b : CircleD) (ha : WfCircle a) (hb : WfCircle b) : ∃ k, swarflaw09_MeetCircles k a b = some true := by
  obtain ⟨k, F⟩ := fuel_exists
  refine ⟨k, ?_⟩
  unfold swarflaw09_MeetCircles
  rw [awake09, Option.bind_some, Bool.not_true, cond_false]
  obtain ⟨t1, e1, f1⟩ := circle_ok (k := k) ha
  rw [e1, Option.bind_some]
  cases t1 with
  | false => rfl
  | true =>
    obtain ⟨c, rfl, z1, o1⟩ := f1 rfl
    rw [Bool.not_true, cond_false]
    obtain ⟨t2, e2, f2⟩ := circle_ok (k := k) hb
    rw [e2, Option.bind_some]
    cases t2 with
    | false => rfl
    | true =>
      obtain ⟨c2, rfl, z2, o2⟩ := f2 rfl
      rw [Bool.not_true, cond_false]
      rw [circles_ok (z := z1) (w := z2) (by decide), Option.bind_some, rcircles_ok (z := z1) (w := z2) (by decide), Option.bind_some]
      dsimp only
      obtain ⟨g1, g2⟩ := cc_same (c := c) (d := c2)
      rw [← g2, lawSame9 (n := 5200) (by have := ccP_len (c := c) (d := c2); omega) ccP_vp g1 (fun p hp => (ccP_zp z1 z2 p hp).mono (by omega)) (fun p hp => (ccR_zp z1 z2 p hp).mono (by omega)) (by omega) (by omega)]; rfl
end Go.Proofs.YtbjkpogfgijmaaaGreat
