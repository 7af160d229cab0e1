/- The plain law RootInv: Inv returns the inverse, with which the product is 1, or ErrZero; the inverse of the inverse is the root. -/
import Derived.Test.YtbjkpogfgijmaaaGreatLawRootSign
namespace Go.Proofs.YtbjkpogfgijmaaaGreat
open Go
set_option linter.unusedVariables false
set_option linter.unusedSimpArgs false
theorem law_RootInv (r : RootD) (hr : WfRoot r) : ∃ k, swarflaw03_RootInv k r = some true := by
  obtain ⟨k, F⟩ := fuel_exists
  refine ⟨k, ?_⟩
  unfold swarflaw03_RootInv
  rw [awake03, Option.bind_some, Bool.not_true, cond_false]
  obtain ⟨t1, e1, f1⟩ := guard1 (k := k) hr
  rw [e1, Option.bind_some]
  cases t1 with
  | false => rfl
  | true =>
    obtain ⟨x, rfl, zx, vx⟩ := f1 rfl
    have hv : x.B ≠ 0 → x.C ≠ 0 := fun hb => by unfold Vr at vx; grind
    have zi := invR_zt zx (by decide)
    rw [Bool.not_true, cond_false, inv_ok (by decide) (sgR_norm_ne vx), Option.bind_some, rinv_ok (by decide) (norm_ne' vx) (sgR_norm_ne vx) hv, Option.bind_some]
    by_cases h0 : sgR x = 0
    · rw [if_pos h0, lawSame_zero]; rfl
    · have hn := sgR_norm_ne vx h0
      rw [if_neg h0, lawSame_R zi (by decide), Option.bind_some, Bool.not_true, cond_false]
      show ((root_Mul k (R x) (R (invR x))).bind _) = _
      -- the inverse
      have hk : 1 / norm x ≠ 0 := by grind
      have vi : Vr (invR x) := scale_vr (x := ⟨x.A, -x.B, x.C⟩) (by unfold Vr at *; dsimp only; grind)
      have hiA : (invR x).A = x.A * (1 / norm x) := by unfold invR scale red; dsimp only; split <;> rfl
      have hiB : (invR x).B = -x.B * (1 / norm x) := by unfold invR scale red; dsimp only; split; rename_i h; rw [h]; rfl; rfl
      have hiC : (invR x).C = x.C := by
        unfold invR scale red; dsimp only; split
        · rename_i h
          have hb : x.B = 0 := by rcases Rat.mul_eq_zero.1 h with h | h; grind; exact absurd h hk
          unfold Vr at vx; unfold rat; dsimp only; grind
        · rfl
      have hco : comOk x (invR x) := by unfold comOk; rw [hiC]; right; right; rfl
      have hcom : com x (invR x) = x.C := by unfold com; rw [hiC]; split <;> rfl
      have e1 : mulR x (invR x) = rat 1 := by
        unfold mulR
        rw [hiA, hiB, hcom]
        have a1 : x.A * (-x.B * (1 / norm x)) + x.B * (x.A * (1 / norm x)) = 0 := by grind
        have a2 : x.A * (x.A * (1 / norm x)) + x.B * (-x.B * (1 / norm x)) * x.C = 1 := by
          have : x.A * (x.A * (1 / norm x)) + x.B * (-x.B * (1 / norm x)) * x.C = norm x * (1 / norm x) := by unfold norm; grind
          rw [this]; grind
        rw [a1, a2]; unfold red; rw [if_pos rfl]
      have ni0 : norm (invR x) = (x.A * x.A - x.B * x.B * x.C) * ((1 / norm x) * (1 / norm x)) := by
        show (invR x).A * (invR x).A - (invR x).B * (invR x).B * (invR x).C = _
        rw [hiA, hiB, hiC]
        generalize 1 / norm x = t
        grind
      have ni : norm (invR x) = 1 / norm x := by
        rw [ni0]
        show norm x * ((1 / norm x) * (1 / norm x)) = _
        generalize norm x = m at hn ⊢
        grind
      have hs : sgR (invR x) ≠ 0 := fun h => by
        have h1 := (sgR_zero vi).1 h
        have h2 : norm (invR x) = 0 := by
          show (invR x).A * (invR x).A - (invR x).B * (invR x).B * (invR x).C = 0
          rw [h1.1, h1.2]; grind
        exact hk (ni ▸ h2)
      have e2 : invR (invR x) = x := by
        have hii : (1 : Rat) / norm (invR x) = norm x := by rw [ni]; grind
        unfold invR
        rw [show norm (scale ⟨x.A, -x.B, x.C⟩ (1 / norm x)) = norm (invR x) from rfl, hii]
        rw [show (scale ⟨x.A, -x.B, x.C⟩ (1 / norm x)) = invR x from rfl, hiA, hiB, hiC]
        unfold scale; dsimp only
        have a1 : x.A * (1 / norm x) * norm x = x.A := by grind
        have a2 : -(-x.B * (1 / norm x)) * norm x = x.B := by grind
        rw [a1, a2]
        unfold red; split
        · rename_i hb; unfold rat; cases x; unfold Vr at vx; dsimp only at *; grind
        · rfl
      have z1 : Zt 4 (rat 1) := rat_zt (one_rz.mono (by decide)) (by decide)
      have zx' : Zt 27 x := zx.mono (by decide)
      rw [mul_ok (z := zx') (w := zi) (by decide), if_pos hco, Option.bind_some, inv_ok (by decide) (fun _ => by rw [ni]; exact hk), if_neg hs, Option.bind_some, e1, e2]
      show ((swarfref03_Int k 1).bind _) = _
      have eone : swarfref03_Int k 1 = some (R (rat 1)) := by
        unfold swarfref03_Int
        rw [rQFrom (by omega) (by omega), Option.bind_some, rfromRat_ok]; rfl
      rw [eone, Option.bind_some, rSameRoot_self z1 (by decide), Option.bind_some, cond_true, rSameRoot_self zx (by decide)]; rfl
end Go.Proofs.YtbjkpogfgijmaaaGreat
