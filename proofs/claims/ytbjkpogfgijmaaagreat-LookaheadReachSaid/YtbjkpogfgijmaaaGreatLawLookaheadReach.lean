/- The plain law LookaheadReach: the distance is that of the reference; it grows with the time, and does not fall with the speed. -/
import Derived.Test.YtbjkpogfgijmaaaGreatLa4
import Derived.Test.YtbjkpogfgijmaaaGreatAwake48
namespace Go.Proofs.YtbjkpogfgijmaaaGreat
open Go
set_option linter.unusedVariables false
set_option linter.unusedSimpArgs false
theorem law_LookaheadReach (t v a : Int) (ht : In64 t) (hv : In64 v) (ha : In64 a) : ∃ k, swarflaw48_LookaheadReach k t v a = some true := by
  obtain ⟨k, F⟩ := fuel_exists
  refine ⟨k, ?_⟩
  unfold swarflaw48_LookaheadReach
  rw [awake48, Option.bind_some, Bool.not_true, cond_false, reach_ok, Option.bind_some, rReach_ok, Option.bind_some]
  by_cases g : okR t v a = true
  · rw [if_pos g]
    rw [okR_iff] at g
    obtain ⟨o1, o2, o3⟩ := g
    have z := rr_rz o1 o2 o3
    have e0 : ((0 : Int) != 0) = false := rfl
    obtain ⟨s, e, f⟩ := rQSame (k := k) (Q (rr t v a)) (Q (rr t v a)) (by have := z.num.lim; exact Nat.le_trans this (by decide)) (by have := z.den.lim; exact Nat.le_trans this (by decide))
    rw [f.2 rfl] at e
    simp only [e0, cond_false]
    rw [rQValid_Q z (by decide), Option.bind_some, Bool.not_true, cond_false, e, Option.bind_some, Bool.not_true, cond_false, wI64 (x := t + 1) (by omega) (by omega), wI64 (x := v + 1) (by omega) (by omega), reach_ok, Option.bind_some, reach_ok, Option.bind_some]
    have hu := Int.mul_nonneg o1.1 (show 0 ≤ a by omega)
    have tail : ∀ b : Bool, b = false → True := fun _ _ => trivial
    have step2 : ∀ (x : RatD × Int), x = (if okR t (v + 1) a = true then (Q (rr t (v + 1) a), 0) else (zR, 1)) → (bif x.2 != 0 then some true else (swarfref02_Cmp k x.1 (Q (rr t v a))).bind fun x8 => some (decide (x8 ≥ 0))) = some true := by
      rintro x rfl
      by_cases c : okR t (v + 1) a = true
      · rw [if_pos c]
        rw [okR_iff] at c
        have z2 := rr_rz c.1 c.2.1 c.2.2
        simp only [e0, cond_false]
        rw [rQCmp (x := z2) (y := z) (by decide), Option.bind_some]
        rw [cdec]
        rw [cmp_ge, rr_le (by omega)]
        exact hh_speed hu (by omega)
      · rw [if_neg c]; rfl
    have s2 := step2 _ rfl
    by_cases c : okR (t + 1) v a = true
    · rw [if_pos c]
      rw [okR_iff] at c
      have z2 := rr_rz c.1 c.2.1 c.2.2
      simp only [e0, cond_false]
      rw [rQCmp (x := z2) (y := z) (by decide), Option.bind_some]
      have hgt : cmpQ (rr (t + 1) v a) (rr t v a) > 0 := by
        rw [gt_iff_lt, cmpQ_pos, ← Rat.not_le, rr_le (by omega), Int.not_le]
        refine hh_lt hu ?_ (by omega)
        rw [Int.add_mul]; omega
      rw [cdec hgt, cond_true]
      exact s2
    · rw [if_neg c]
      have e1 : ((1 : Int) != 0) = true := rfl
      simp only [e1, cond_true]
      exact s2
  · rw [if_neg g]; rfl
end Go.Proofs.YtbjkpogfgijmaaaGreat
