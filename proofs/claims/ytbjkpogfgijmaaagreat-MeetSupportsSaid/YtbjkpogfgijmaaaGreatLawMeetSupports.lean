/- The plain law MeetSupports: the common points of two supports are those of the reference. -/
import Derived.Test.YtbjkpogfgijmaaaGreatMe3
namespace Go.Proofs.YtbjkpogfgijmaaaGreat
open Go
set_option linter.unusedVariables false
set_option linter.unusedSimpArgs false
theorem law_MeetSupports (a b : CurveD) (ha : WfCurve a) (hb : WfCurve b) : ∃ k, swarflaw09_MeetSupports k a b = some true := by
  obtain ⟨k, F⟩ := fuel_exists
  refine ⟨k, ?_⟩
  unfold swarflaw09_MeetSupports
  rw [awake09, Option.bind_some, Bool.not_true, cond_false]
  obtain ⟨t1, e1, f1⟩ := line_ok (k := k) ha.1
  rw [e1, Option.bind_some]
  cases t1 with
  | false => rfl
  | true =>
    obtain ⟨l, q1, z1, o1⟩ := f1 rfl
    rw [Bool.not_true, cond_false]
    obtain ⟨t2, e2, f2⟩ := circle_ok (k := k) ha.2
    rw [e2, Option.bind_some]
    cases t2 with
    | false => rfl
    | true =>
      obtain ⟨c, q2, z2, o2⟩ := f2 rfl
      rw [Bool.not_true, cond_false]
      obtain ⟨t3, e3, f3⟩ := line_ok (k := k) hb.1
      rw [e3, Option.bind_some]
      cases t3 with
      | false => rfl
      | true =>
        obtain ⟨l2, q3, z3, o3⟩ := f3 rfl
        rw [Bool.not_true, cond_false]
        obtain ⟨t4, e4, f4⟩ := circle_ok (k := k) hb.2
        rw [e4, Option.bind_some]
        cases t4 with
        | false => rfl
        | true =>
          obtain ⟨c2, q4, z4, o4⟩ := f4 rfl
          rw [Bool.not_true, cond_false]
          have y1 := z1.mono (show 2 ≤ 5 by omega)
          have y3 := z3.mono (show 2 ≤ 5 by omega)
          rw [supports_ok q1 q2 q3 q4 y1 z2 y3 z4 o1 o3, Option.bind_some, rsupports_ok q1 q2 q3 q4 y1 z2 y3 z4 o1 o3, Option.bind_some]
          dsimp only
          obtain ⟨g1, g2⟩ := su_same (s := a.Arc) (t := b.Arc) (c := c) (c' := c2) o1 o3
          rw [← g2, lawSame9 (n := 5200) (by have := suP_len (s := a.Arc) (t := b.Arc) (l := l) (c := c) (l' := l2) (c' := c2); omega) suP_vp g1 (suP_zp y1 z2 y3 z4) (suR_zp y1 z2 y3 z4) (by omega) (by omega)]; rfl
end Go.Proofs.YtbjkpogfgijmaaaGreat
