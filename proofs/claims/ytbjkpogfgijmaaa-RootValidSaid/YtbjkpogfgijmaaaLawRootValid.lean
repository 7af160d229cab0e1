/- The plain law RootValid: Valid accepts exactly the roots in reduced form. -/
import Derived.Test.YtbjkpogfgijmaaaLawA
namespace Go.Proofs.Ytbjkpogfgijmaaa
open Go
set_option linter.unusedVariables false
set_option linter.unusedSimpArgs false
theorem law_RootValid (r : RootD) (hr : WfRoot r) : ∃ k, swarflaw03_RootValid k r = some true := by
  obtain ⟨k, F⟩ := fuel_exists
  refine ⟨k, ?_⟩
  unfold swarflaw03_RootValid
  rw [awake03, Option.bind_some, Bool.not_true, cond_false]
  obtain ⟨t1, e1, f1⟩ := small4 (k := k) hr.1
  obtain ⟨t2, e2, f2⟩ := small4 (k := k) hr.2.1
  rw [e1, Option.bind_some]
  cases t1 with
  | false => rfl
  | true =>
    rw [Bool.not_true, cond_false, e2, Option.bind_some]
    cases t2 with
    | false => rfl
    | true =>
      rw [Bool.not_true, cond_false]
      by_cases h3 : (r.C.num.limbs.length : Int) > 4
      · rw [cdec h3]; rfl
      · by_cases h4 : (r.C.den.limbs.length : Int) > 4
        · rw [cdecF h3, cdec h4]; rfl
        · obtain ⟨x, hx, zx⟩ := f1 rfl
          obtain ⟨y, hy, zy⟩ := f2 rfl
          have hl : (r.A.num.limbs.length ≤ 100 ∧ r.A.den.limbs.length ≤ 100) ∧ (r.B.num.limbs.length ≤ 100 ∧ r.B.den.limbs.length ≤ 100) ∧ (r.C.num.limbs.length ≤ 100 ∧ r.C.den.limbs.length ≤ 100) := by
            rw [hx, hy]; have := lens_of (q := x); have := lens_of (q := y); omega
          obtain ⟨t, e5, i5⟩ := rootValid (k := k) hr hl
          obtain ⟨u, e6, i6⟩ := refValid (k := k) hr hl
          rw [cdecF h3, cond_false, cdecF h4, cond_false, e5, Option.bind_some, e6, Option.bind_some]
          have : t = u := by
            have h := i5.trans i6.symm
            cases t <;> cases u <;> simp_all
          rw [this]; simp
end Go.Proofs.Ytbjkpogfgijmaaa
