/- The plain law LookaheadFeasible: the program accepts exactly the feasible lists. -/
import Derived.Test.YtbjkpogfgijmaaaLa0
import Derived.Test.YtbjkpogfgijmaaaAwake48
namespace Go.Proofs.Ytbjkpogfgijmaaa
open Go
set_option linter.unusedVariables false
set_option linter.unusedSimpArgs false
theorem law_LookaheadFeasible (l : List PartD) (n : Int) (s : List Int) (hl : ∀ x ∈ l, WfPart x) (hn : In64 n) (hs : ∀ x ∈ s, In64 x) : ∃ k, swarflaw48_LookaheadFeasible k l n s = some true := by
  obtain ⟨k, F⟩ := fuel_exists
  refine ⟨k, ?_⟩
  unfold swarflaw48_LookaheadFeasible
  rw [awake48, Option.bind_some, Bool.not_true, cond_false]
  by_cases h1 : l.length > 60
  · rw [cdec (show ((l.length : Int) > 60) by omega), cond_true]
  rw [cdecF (show ¬ ((l.length : Int) > 60) by omega), cond_false]
  by_cases h2 : s.length > 70
  · rw [cdec (show ((s.length : Int) > 70) by omega), cond_true]
  rw [cdecF (show ¬ ((s.length : Int) > 70) by omega), cond_false]
  refine Exists.elim (iter_ok (fun (x3 : (List PartD × Int × List Int × List Int × Int × Int × Unit)) => swarflaw48_LookaheadFeasible_L0 k x3.1 x3.2.1 x3.2.2.1 x3.2.2.2.1 x3.2.2.2.2.1 x3.2.2.2.2.2.1) (fun m (x : List PartD × Int × List Int × List Int × Int × Int × Unit) => ∃ i : Nat, x = (l, n, s, s, (s.length : Int), (i : Int), ()) ∧ m + i = s.length)
    (fun x => x = .inl (l, n, s, ()) ∨ x = .inr (true, ())) ?_ k s.length (l, n, s, s, (s.length : Int), 0, ()) (F.len (show s.length ≤ LM by rw [LM_val]; omega)) ⟨0, rfl, rfl⟩) ?_
  · rintro m x ⟨i, rfl, hm⟩
    simp only []
    unfold swarflaw48_LookaheadFeasible_L0
    by_cases hi : i < s.length
    · rw [cdec (show ((i : Int) < (s.length : Int)) by omega), cond_true, ixOk_of (by omega) (by omega), cond_true]
      by_cases c1 : s.getD (i : Int).toNat 0 < -100000000
      · rw [cdec c1, cond_true]; right; exact ⟨_, rfl, Or.inr rfl⟩
      rw [cdecF c1, cond_false]
      by_cases c2 : s.getD (i : Int).toNat 0 > 100000000
      · rw [cdec c2, cond_true]; right; exact ⟨_, rfl, Or.inr rfl⟩
      rw [cdecF c2, cond_false]
      left
      refine ⟨_, m - 1, rfl, by omega, i + 1, ?_, by omega⟩
      rw [wI64 (by omega) (by omega)]; rfl
    · rw [cdecF (show ¬ ((i : Int) < (s.length : Int)) by omega), cond_false]
      right
      exact ⟨_, rfl, Or.inl rfl⟩
  · rintro x ⟨hx, rfl | rfl⟩
    · rw [hx, Option.bind_some]
      simp only []
      rw [of_ok l (by omega), Option.bind_some, feas_ok, Option.bind_some, rfeas_ok, Option.bind_some, beq_self_eq_true]
    · rw [hx, Option.bind_some]
end Go.Proofs.Ytbjkpogfgijmaaa
