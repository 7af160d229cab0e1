/- The plain law LookaheadStraight: the time is that of the reference, and at most the sum of those over two parts. -/
import Derived.Test.YtbjkpogfgijmaaaGreatLa5
import Derived.Test.YtbjkpogfgijmaaaGreatAwake48
namespace Go.Proofs.YtbjkpogfgijmaaaGreat
open Go
set_option linter.unusedVariables false
set_option linter.unusedSimpArgs false
theorem law_LookaheadStraight (d v a : Int) (hd : In64 d) (hv : In64 v) (ha : In64 a) : ∃ k, swarflaw48_LookaheadStraight k d v a = some true := by
  obtain ⟨k, F⟩ := fuel_exists
  refine ⟨k, ?_⟩
  unfold swarflaw48_LookaheadStraight
  rw [awake48, Option.bind_some, Bool.not_true, cond_false]
  rcases straight_ok (k := k) d v a with ⟨o, r, hr, e1, e2⟩ | ⟨o, e1, e2⟩
  · rw [e1, Option.bind_some, e2, Option.bind_some]
    rw [okS_iff] at o
    obtain ⟨o1, o2, o3⟩ := o
    have e0 : ((0 : Int) != 0) = false := rfl
    have e4 : ((0 : Int) == 0) = true := rfl
    have er : (r != r) = false := by rw [bne_eq_false_iff_eq]
    have ed : d.tdiv 3 = d / 3 := Int.tdiv_eq_ediv_of_nonneg (by omega)
    rw [ed, wI64 (x := d / 3) (by omega) (by omega), wI64 (x := d - d / 3) (by omega) (by omega)]
    simp only [e0, er, cond_false]
    rcases straight_ok (k := k) (d / 3) v a with ⟨_, r1, h1, f1, _⟩ | ⟨o, _, _⟩
    rotate_left
    · rw [Bool.eq_false_iff, Ne, okS_iff] at o; exact absurd ⟨by omega, o2, o3⟩ o
    rcases straight_ok (k := k) (d - d / 3) v a with ⟨_, r2, h2, f2, _⟩ | ⟨o, _, _⟩
    rotate_left
    · rw [Bool.eq_false_iff, Ne, okS_iff] at o; exact absurd ⟨by omega, o2, o3⟩ o
    rw [f1, Option.bind_some, f2, Option.bind_some]
    simp only [e4, cond_true]
    have b1 := h1.1
    have b2 := h2.1
    rw [wI64 (by omega) (by omega), cdec]
    by_cases c : r ≤ r1 + r2
    · exact c
    · exfalso
      have b := hr.1
      have g1 := h1.2.2 r1 (Int.le_refl _) (by omega)
      have g2 := h2.2.2 r2 (Int.le_refl _) (by omega)
      refine hr.2.1 (r1 + r2) (by omega) (by omega) ?_
      rw [le_rr (by omega)] at g1 g2 ⊢
      have m1 := Int.mul_nonneg b1.1 (show 0 ≤ a by omega)
      have m2 := Int.mul_nonneg b2.1 (show 0 ≤ a by omega)
      have h := hh_add m1 m2 (show 0 < 2000 * v by omega)
      rw [Int.add_mul]
      have e : d * (4000000 * a) = d / 3 * (4000000 * a) + (d - d / 3) * (4000000 * a) := by rw [← Int.add_mul]; congr 1; omega
      omega
  · rw [e1, Option.bind_some, e2]; rfl
end Go.Proofs.YtbjkpogfgijmaaaGreat
