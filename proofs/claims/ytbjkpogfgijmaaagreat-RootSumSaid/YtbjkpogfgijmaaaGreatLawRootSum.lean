/- The plain law RootSum: Add returns the sum of two roots with a common radicand, in reduced form, and otherwise ErrInvalid; sums are commutative. -/
import Derived.Test.YtbjkpogfgijmaaaGreatLawB
namespace Go.Proofs.YtbjkpogfgijmaaaGreat
open Go
set_option linter.unusedVariables false
set_option linter.unusedSimpArgs false
theorem law_RootSum (r s : RootD) (hr : WfRoot r) (hs : WfRoot s) : ∃ k, swarflaw03_RootSum k r s = some true := by
  obtain ⟨k, F⟩ := fuel_exists
  refine ⟨k, ?_⟩
  unfold swarflaw03_RootSum
  rw [awake03, Option.bind_some, Bool.not_true, cond_false]
  obtain ⟨t1, e1, f1⟩ := guard2 (k := k) hr hs
  rw [e1, Option.bind_some]
  cases t1 with
  | false => rfl
  | true =>
    obtain ⟨⟨x, rfl, zx, vx⟩, ⟨y, rfl, zy, vy⟩⟩ := f1 rfl
    have z := addR_zt zx zy (by decide)
    rw [Bool.not_true, cond_false, add_ok (by decide), Option.bind_some, radd_ok (by decide) vx vy, Option.bind_some, add_ok (by decide), Option.bind_some]
    by_cases hc : comOk x y
    · rw [if_pos hc, if_pos ((comOk_comm x y).1 hc), lawSame_R z (by decide), Option.bind_some, cond_true]
      dsimp only
      rw [addR_comm vx vy hc] at z ⊢
      rw [lawSame_R z (by decide)]; rfl
    · rw [if_neg hc, if_neg (fun h => hc ((comOk_comm x y).2 h)), lawSame_zero, Option.bind_some, cond_true]
      first | rfl | (rw [lawSame_zero]; rfl)
end Go.Proofs.YtbjkpogfgijmaaaGreat
