/- The plain law MeetLineCircle: the common points of a line and a circle are those of the reference; they touch if there is one. -/
import Derived.Test.YtbjkpogfgijmaaaGreatMe3
namespace Go.Proofs.YtbjkpogfgijmaaaGreat
open Go
set_option linter.unusedVariables false
set_option linter.unusedSimpArgs false
theorem law_MeetLineCircle (a : LineD) (b : CircleD) (ha : WfLine a) (hb : WfCircle b) : ∃ k, swarflaw09_MeetLineCircle k a b = some true := by
  obtain ⟨k, F⟩ := fuel_exists
  refine ⟨k, ?_⟩
  unfold swarflaw09_MeetLineCircle
  rw [awake09, Option.bind_some, Bool.not_true, cond_false]
  obtain ⟨t1, e1, f1⟩ := line_ok (k := k) ha
  rw [e1, Option.bind_some]
  cases t1 with
  | false => rfl
  | true =>
    obtain ⟨l, rfl, z1, o1⟩ := f1 rfl
    rw [Bool.not_true, cond_false]
    obtain ⟨t2, e2, f2⟩ := circle_ok (k := k) hb
    rw [e2, Option.bind_some]
    cases t2 with
    | false => rfl
    | true =>
      obtain ⟨c, rfl, z2, o2⟩ := f2 rfl
      rw [Bool.not_true, cond_false]
      rw [lcP_ok (z := z1) (w := z2) (by decide) o1, Option.bind_some, lcR_ok (z := z1) (w := z2) (by omega) (by decide) o1, Option.bind_some]
      rw [lawSame9 (n := 600) (by have := lcP_len (l := l) (c := c); omega) lcP_vp (lc_same o1) (fun p hp => (lcP_zp z1 z2 p hp).mono (by omega)) (fun p hp => (lcR_zp z1 z2 p hp).mono (by omega)) (by omega) (by omega), Option.bind_some, cond_true,
        touches_ok (z := z1) (w := z2) (by decide) o1, Option.bind_some, rRoom9 (z := z1) (w := z2) (by decide), Option.bind_some, rQSign, Option.bind_some, beq0]
      congr 1
      rw [beq_iff_eq, decide_eq_decide, room_kk o1]
      have hn := nrm_pos o1
      constructor
      · intro h; rw [h, Rat.mul_zero]
      · intro h
        rcases Rat.mul_eq_zero.1 h with h | h
        · rcases Rat.mul_eq_zero.1 h with h | h <;> grind
        · exact h
end Go.Proofs.YtbjkpogfgijmaaaGreat
