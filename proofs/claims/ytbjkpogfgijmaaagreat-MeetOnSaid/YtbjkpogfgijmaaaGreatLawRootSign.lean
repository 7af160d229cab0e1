/- The plain law RootSign: Sign, Neg and Scale return the specified results; the sign of a multiple is the product of the signs. -/
import Derived.Test.YtbjkpogfgijmaaaGreatLawA
namespace Go.Proofs.YtbjkpogfgijmaaaGreat
open Go
set_option linter.unusedVariables false
set_option linter.unusedSimpArgs false
theorem sgR_scale {x : Rt} {q : Rat} (hv : Vr x) : sgR (scale x q) = sgR x * sg q := by
  by_cases hq : q = 0
  · subst hq
    have e : sgR (scale x 0) = 0 := by
      unfold scale red
      rw [Rat.mul_zero, Rat.mul_zero, if_pos rfl]; unfold rat; rw [sgR_rat]; rfl
    rw [e, sg_zero.2 rfl, Int.mul_zero]
  · unfold scale red
    by_cases hb : x.B = 0
    · rw [hb, Rat.zero_mul, if_pos rfl]
      unfold rat; rw [sgR_rat, sg_mul]
      unfold sgR; rw [if_pos hb]
    · have hbq : x.B * q ≠ 0 := fun h => by rcases Rat.mul_eq_zero.1 h with h | h; exact hb h; exact hq h
      rw [if_neg hbq]
      unfold sgR
      dsimp only
      rw [if_neg hbq, if_neg hb, sg_mul, sg_mul]
      have hn : norm ⟨x.A * q, x.B * q, x.C⟩ = norm x * (q * q) := by unfold norm; dsimp only; grind
      have hq2 : sg (q * q) = 1 := by have := sq_pos hq; unfold sg; grind
      have h0 : sg q = 1 ∨ sg q = -1 := by
        have := sg_range q; have h := @sg_zero q; have : sg q ≠ 0 := fun e => hq (h.1 e); omega
      rw [hn, sg_mul, hq2]
      have ha : x.A * q = 0 ↔ x.A = 0 := ⟨fun h => by rcases Rat.mul_eq_zero.1 h with h | h; exact h; exact absurd h hq, fun h => by rw [h, Rat.zero_mul]⟩
      by_cases he : sg x.A = sg x.B
      · rw [if_pos (by rw [he]), if_pos he]
      · rw [if_neg (by rcases h0 with h0 | h0 <;> rw [h0] <;> omega), if_neg he]
        by_cases hA : x.A = 0
        · rw [if_pos (ha.2 hA), if_pos hA]
        · rw [if_neg (fun h => hA (ha.1 h)), if_neg hA]; grind
theorem sgR_range (x : Rt) : sgR x = -1 ∨ sgR x = 0 ∨ sgR x = 1 := by
  unfold sgR
  have h1 := sg_range x.A; have h2 := sg_range x.B; have h3 := sg_range (norm x)
  split
  · exact h1
  · split
    · exact h1
    · split
      · exact h2
      · rcases h1 with h1 | h1 | h1 <;> rcases h3 with h3 | h3 | h3 <;> rw [h1, h3] <;> decide
theorem wrap_sgR_sg (x : Rt) (q : Rat) : IntKind.i64.wrap (sgR x * sg q) = sgR x * sg q := by
  rcases sgR_range x with h1 | h1 | h1 <;> rcases sg_range q with h2 | h2 | h2 <;> rw [h1, h2] <;> rfl
theorem law_RootSign (r : RootD) (q : RatD) (hr : WfRoot r) (hq : WfQ q) : ∃ k, swarflaw03_RootSign k r q = some true := by
  obtain ⟨k, F⟩ := fuel_exists
  refine ⟨k, ?_⟩
  unfold swarflaw03_RootSign
  rw [awake03, Option.bind_some, Bool.not_true, cond_false]
  obtain ⟨t1, e1, f1⟩ := guard1 (k := k) hr
  obtain ⟨t2, e2, f2⟩ := small4 (k := k) hq
  rw [e1, Option.bind_some]
  cases t1 with
  | false => rfl
  | true =>
    rw [Bool.not_true, cond_false, e2, Option.bind_some]
    cases t2 with
    | false => rfl
    | true =>
      obtain ⟨x, rfl, zx, vx⟩ := f1 rfl
      obtain ⟨q, rfl, zq⟩ := f2 rfl
      have hv : x.B ≠ 0 → x.C ≠ 0 := fun hb => by unfold Vr at vx; grind
      have zn : Zt 4 (neg x) := ⟨rzNeg zx.A, rzNeg zx.B, zx.C⟩
      have zs := scale_zt zx zq (by decide)
      rw [Bool.not_true, cond_false, sign_ok (by decide), Option.bind_some, rsign_ok (by decide) (norm_ne' vx), Option.bind_some, show (sgR x == sgR x) = true by simp, cond_true, rneg_ok (by decide), Option.bind_some, rrneg_ok (by decide), Option.bind_some,
        rSameRoot_self zn (by decide), Option.bind_some, cond_true, scale_ok (by decide), Option.bind_some, rscale_ok (by decide) hv, Option.bind_some, rSameRoot_self zs (by decide), Option.bind_some, cond_true, Option.bind_some, sign_ok (by decide), Option.bind_some, rQSign, Option.bind_some,
        wrap_sgR_sg, sgR_scale vx]
      simp
end Go.Proofs.YtbjkpogfgijmaaaGreat
