/- The plain law RootFloor: Floor returns the greatest integer that is not greater than the value. -/
import Derived.Test.YtbjkpogfgijmaaaGreatLawA
namespace Go.Proofs.YtbjkpogfgijmaaaGreat
open Go
set_option linter.unusedVariables false
set_option linter.unusedSimpArgs false
theorem divInt_one (n : Int) : Rat.divInt n 1 = (n : Rat) := Rat.num_divInt_den (n : Rat)
theorem rSame_I {k : Nat} [F : Fuel k] {n : Nat} {z : Int} (s : Sz n z) (h : n ≤ LM) : swarfref01_Same k (I z) (I z) = some true := by
  obtain ⟨t, e, f⟩ := rSame_iff (k := k) (I z) (I z) (by rw [I_limbs]; have := s.lim; omega)
  rw [e, f.2 rfl]
theorem law_RootFloor (r : RootD) (hr : WfRoot r) : ∃ k, swarflaw03_RootFloor k r = some true := by
  obtain ⟨k, F⟩ := fuel_exists
  refine ⟨k, ?_⟩
  unfold swarflaw03_RootFloor
  rw [awake03, Option.bind_some, Bool.not_true, cond_false]
  obtain ⟨t1, e1, f1⟩ := guard1 (k := k) hr
  rw [e1, Option.bind_some]
  cases t1 with
  | false => rfl
  | true =>
    obtain ⟨x, rfl, zx, vx⟩ := f1 rfl
    have hy := fY_nonneg vx
    have zf := flo_rz zx
    have s1 : Sz 2 (1 : Int) := szSmall (by decide)
    have zq := rzOfInt zf
    have o := one_rz
    have zq1 := rzAdd zq o
    obtain ⟨p1, p2⟩ := flo_spec vx
    rw [Bool.not_true, cond_false, floor_ok (by decide) hy, Option.bind_some, rfloor_ok (by decide) hy, Option.bind_some, rSame_I zf (by decide), Option.bind_some, Bool.not_true, cond_false, rFromInt64_eq (by omega) (by omega), Option.bind_some, rQMake (by decide), if_neg (by decide),
      Option.bind_some, divInt_one]
    have e0 : ((0 : Int) == 0) = true := rfl
    simp only [e0, cond_true]
    rw [rcmpRat_ok (by decide) vx, Option.bind_some, cdec p1, cond_true, rQFrom (by omega) (by omega), Option.bind_some]
    have e2 : (((1 : Int) : Rat)) = (1 : Rat) := rfl
    rw [e2, rQAdd (by decide), Option.bind_some, rcmpRat_ok (by decide) vx, Option.bind_some]
    have e3 : x.A - ((flo x : Rat) + 1) = x.A - (flo x : Rat) - 1 := by grind
    rw [e3, cdec p2]
end Go.Proofs.YtbjkpogfgijmaaaGreat
