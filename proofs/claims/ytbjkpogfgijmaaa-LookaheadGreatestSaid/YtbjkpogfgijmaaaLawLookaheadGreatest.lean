/- The plain law LookaheadGreatest: the speeds of the program are feasible, and are not if one of them is increased. -/
import Derived.Test.YtbjkpogfgijmaaaLa3
import Derived.Test.YtbjkpogfgijmaaaAwake48
namespace Go.Proofs.Ytbjkpogfgijmaaa
open Go
set_option linter.unusedVariables false
set_option linter.unusedSimpArgs false
open Classical in
theorem law_LookaheadGreatest (l : List PartD) (n : Int) (c : Int × Int) (hl : ∀ x ∈ l, WfPart x) (hn : In64 n) (hc : (0 ≤ c.1 ∧ c.1 < 65536) ∧ (0 ≤ c.2 ∧ c.2 < 65536)) : ∃ k, swarflaw48_LookaheadGreatest k l n c = some true := by
  obtain ⟨k, F⟩ := fuel_exists
  refine ⟨k, ?_⟩
  unfold swarflaw48_LookaheadGreatest
  rw [awake48, Option.bind_some, Bool.not_true, cond_false]
  by_cases h60 : l.length > 60
  · rw [cdec (show ((l.length : Int) > 60) by omega), cond_true]
  rw [cdecF (show ¬ ((l.length : Int) > 60) by omega), cond_false, rvalid_ok, Option.bind_some]
  rcases speeds_ok (k := k) l n with ⟨hv, _⟩ | ⟨hv, s, hs, w⟩
  · rw [show (vE l n != 0) = true by rw [bne_iff_ne]; exact hv, cond_true]
  rw [show (vE l n != 0) = false by rw [bne_eq_false_iff_eq]; exact hv, cond_false, of_ok l (by omega), Option.bind_some, hs, Option.bind_some]
  have e0 : ((0 : Int) != 0) = false := rfl
  have hf : Feas l n s := (feas_iff hv).2 w.toCl
  have hlen := w.len
  simp only [e0, cond_false]
  rw [rfeas_ok, Option.bind_some, decide_eq_true hf, Bool.not_true, cond_false, Option.bind_some, feas_ok, Option.bind_some, decide_eq_true hf, Bool.not_true, cond_false,
    show ((s.length : Int) == 0) = false by rw [beq_eq_false_iff_ne]; omega, cond_false, wI64 (x := c.1) (by omega) (by omega), wI64 (x := c.2) (by omega) (by omega), wI64 (x := 1 + c.2) (by omega) (by omega)]
  rw [Int.tmod_eq_emod_of_nonneg (by omega)]
  have m1 := Int.emod_nonneg c.1 (show (s.length : Int) ≠ 0 by omega)
  have m2 := Int.emod_lt_of_pos c.1 (show 0 < (s.length : Int) by omega)
  obtain ⟨i, hi⟩ : ∃ i : Nat, c.1 % (s.length : Int) = (i : Int) := ⟨(c.1 % (s.length : Int)).toNat, by omega⟩
  rw [hi] at m1 m2 ⊢
  have b := w.toCl.le (vE_zero hv).2.2 i
  rw [ixOk_of m1 m2, cond_true, cond_true, Int.toNat_natCast, wI64 (x := s.getD i 0 + (1 + c.2)) (by omega) (by omega)]
  have hnot : ¬ Feas l n (s.set i (s.getD i 0 + (1 + c.2))) := by
    intro h
    have h1 := w.top _ ((feas_iff hv).1 h) i
    rw [getD_set _ _ _ _ (by omega), if_pos rfl] at h1
    omega
  rw [rfeas_ok, Option.bind_some, decide_eq_false hnot, Bool.not_false, cond_true, Option.bind_some, feas_ok, Option.bind_some, decide_eq_false hnot]
  rfl
end Go.Proofs.Ytbjkpogfgijmaaa
