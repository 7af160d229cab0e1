/- The plain law RootMul: Mul returns the product of two roots with a common radicand, in reduced form, and otherwise ErrInvalid; its sign is the product of the signs. -/
import Derived.Test.YtbjkpogfgijmaaaGreatLawRootSign
namespace Go.Proofs.YtbjkpogfgijmaaaGreat
open Go
set_option linter.unusedVariables false
set_option linter.unusedSimpArgs false
theorem wrap_sgR_sgR (x y : Rt) : IntKind.i64.wrap (sgR x * sgR y) = sgR x * sgR y := by
  rcases sgR_range x with h1 | h1 | h1 <;> rcases sgR_range y with h2 | h2 | h2 <;> rw [h1, h2] <;> rfl
/-- A root that is not rational, or may have any radicand. -/
theorem sgR_as (x : Rt) (c : Rat) (h : x.B ≠ 0 → x.C = c) : sgR x = sgR ⟨x.A, x.B, c⟩ := by
  by_cases hb : x.B = 0
  · rw [hb, sgR_rat]; unfold sgR; rw [if_pos hb]
  · rw [← h hb]
theorem sgR_mulR {x y : Rt} (vx : Vr x) (vy : Vr y) (h : comOk x y) : sgR (mulR x y) = sgR x * sgR y := by
  by_cases hr : x.B = 0 ∧ y.B = 0
  · unfold mulR red
    rw [hr.1, hr.2]
    have e : x.A * 0 + 0 * y.A = 0 := by grind
    rw [e, if_pos rfl]
    unfold rat
    rw [sgR_rat]
    unfold sgR
    rw [if_pos hr.1, if_pos hr.2, ← sg_mul]
    congr 1; grind
  · have hp := com_prop vx vy (by grind)
    generalize hc : com x y = c at hp
    have ex : sgR x = sgR ⟨x.A, x.B, c⟩ := sgR_as x c (fun hb => by rw [← hc]; unfold com; rw [if_neg hb])
    have ey : sgR y = sgR ⟨y.A, y.B, c⟩ := sgR_as y c (fun hb => by rw [← hc]; unfold com comOk at *; grind)
    have em : sgR (mulR x y) = sgR ⟨x.A * y.A + x.B * y.B * c, x.A * y.B + x.B * y.A, c⟩ := by
      unfold mulR red
      rw [hc]
      split
      · rename_i hb; rw [hb, sgR_rat]; unfold rat; rw [sgR_rat]
      · rfl
    rw [ex, ey, em]
    rcases sgR_mul (a := x.A) (b := x.B) (a' := y.A) (b' := y.B) (c := c) (by grind) with h1 | h1 | h1
    · exact h1
    · -- a factor 0
      have : x.A = 0 ∧ x.B = 0 := by
        by_cases h2 : x.A = 0 ∧ x.B = 0
        · exact h2
        · exfalso
          by_cases hb : x.B = 0
          · have : x.A ≠ 0 := fun h => h2 ⟨h, hb⟩
            have := sq_pos this
            unfold norm at h1; dsimp only at h1; rw [hb] at h1; grind
          · exact norm_ne (x := ⟨x.A, x.B, c⟩) (.inr ⟨hb, hp⟩) (.inr hb) h1
      rw [this.1, this.2]
      have e1 : (0 : Rat) * y.A + 0 * y.B * c = 0 := by grind
      have e2 : (0 : Rat) * y.B + 0 * y.A = 0 := by grind
      rw [e1, e2, sgR_rat]; simp [sg_zero.2 rfl]
    · have : y.A = 0 ∧ y.B = 0 := by
        by_cases h2 : y.A = 0 ∧ y.B = 0
        · exact h2
        · exfalso
          by_cases hb : y.B = 0
          · have : y.A ≠ 0 := fun h => h2 ⟨h, hb⟩
            have := sq_pos this
            unfold norm at h1; dsimp only at h1; rw [hb] at h1; grind
          · exact norm_ne (x := ⟨y.A, y.B, c⟩) (.inr ⟨hb, hp⟩) (.inr hb) h1
      rw [this.1, this.2]
      have e1 : x.A * (0 : Rat) + x.B * 0 * c = 0 := by grind
      have e2 : x.A * (0 : Rat) + x.B * 0 = 0 := by grind
      rw [e1, e2, sgR_rat]; simp [sg_zero.2 rfl]
theorem law_RootMul (r s : RootD) (hr : WfRoot r) (hs : WfRoot s) : ∃ k, swarflaw03_RootMul k r s = some true := by
  obtain ⟨k, F⟩ := fuel_exists
  refine ⟨k, ?_⟩
  unfold swarflaw03_RootMul
  rw [awake03, Option.bind_some, Bool.not_true, cond_false]
  obtain ⟨t1, e1, f1⟩ := guard2 (k := k) hr hs
  rw [e1, Option.bind_some]
  cases t1 with
  | false => rfl
  | true =>
    obtain ⟨⟨x, rfl, zx, vx⟩, ⟨y, rfl, zy, vy⟩⟩ := f1 rfl
    have z := mulR_zt zx zy (by decide)
    rw [Bool.not_true, cond_false, mul_ok (by decide), Option.bind_some, rmul_ok (by decide) vx vy, Option.bind_some, mul_ok (by decide), Option.bind_some]
    by_cases hc : comOk x y
    · have e2 := mulR_comm vx vy hc
      have e3 := sgR_mulR vx vy hc
      rw [if_pos hc, if_pos ((comOk_comm x y).1 hc), lawSame_R z (by decide), Option.bind_some, cond_true]
      dsimp only
      rw [← e2, lawSame_R z (by decide), Option.bind_some, cond_true]
      show ((root_Sign k (R (mulR x y))).bind _) = _
      rw [sign_ok (by decide), Option.bind_some, rsign_ok (by decide) (norm_ne' vx), Option.bind_some, rsign_ok (by decide) (norm_ne' vy), Option.bind_some, wrap_sgR_sgR, e3]
      simp
    · rw [if_neg hc, if_neg (fun h => hc ((comOk_comm x y).2 h)), lawSame_zero, Option.bind_some, cond_true]
      first | rfl | (rw [lawSame_zero]; rfl)
end Go.Proofs.YtbjkpogfgijmaaaGreat
