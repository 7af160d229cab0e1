/- The plain law LookaheadCorner: the speed is allowed at the corner, and the next greater one is not; or the specified error. -/
import Derived.Test.YtbjkpogfgijmaaaGreatLa7
import Derived.Test.YtbjkpogfgijmaaaGreatLa5
import Derived.Test.YtbjkpogfgijmaaaGreatAwake48
namespace Go.Proofs.YtbjkpogfgijmaaaGreat
open Go
set_option linter.unusedVariables false
set_option linter.unusedSimpArgs false
theorem alw_zero {x y m n ch : Int} : alw 0 x y m n ch sgR mk ≤ 0 := by
  unfold alw
  have e0 : ((0 : Int) : Rat) = 0 := rfl
  rw [e0]
  generalize (1 / ((m : Rat) * (n : Rat))) = c
  generalize ((((x * x : Int) : Rat) / (m : Rat) + ((y * y : Int) : Rat) / (n : Rat))) = p
  generalize (-2 * ((x : Rat) * y)) / ((m : Rat) * n) * ((m : Rat) * n) = q
  have h2 : 0 ≤ (ch : Rat) * ch := by
    have := mul_self_nonneg ch
    have h : ((0 : Int) : Rat) ≤ ((ch * ch : Int) : Rat) := Rat.intCast_le_intCast.2 this
    rw [Rat.intCast_mul] at h; exact h
  have key : ∃ r : Rat, mk (0 * 0 * p - (ch : Rat) * ch) (q * (0 * 0)) c = rat r ∧ r ≤ 0 := by
    have e1 : q * (0 * 0) = (0 : Rat) := by grind
    rw [e1]
    unfold mk
    split
    · exact ⟨_, rfl, by grind⟩
    · rw [if_pos rfl]; exact ⟨_, rfl, by grind⟩
  obtain ⟨r, e, h⟩ := key
  rw [e]
  unfold rat
  rw [sgR_rat]
  unfold sg
  grind
section
variable {k : Nat} [F : Fuel k] {a b : PosD} {ch : Int}
theorem near_sq (h : nearP a = true) : IntKind.i64.wrap ((IntKind.i64.wrap ((IntKind.i64.wrap (a.X * a.X)) + (IntKind.i64.wrap (a.Y * a.Y)))) + (IntKind.i64.wrap (a.Z * a.Z))) = sqP a ∧ 0 ≤ sqP a ∧ sqP a ≤ 1200000000000000 := by
  rw [nearP_iff] at h
  exact sqP_wrap 10000000 (Or.inl rfl) h.1 h.2.1 h.2.2
theorem corner1_ok (ha : nearP a = true) (hb : nearP b = true) (h0 : sqP a ≠ 0) (h1 : sqP b ≠ 0) (hc : 0 ≤ ch ∧ ch ≤ 1000000) {i : Int} (hi : 0 ≤ i ∧ i < 1000000) : lookahead_Corner_1 k i a b (sqP a) (sqP b) ch = some (!(turn a b (i + 1) ch)) := by
  have s1 := near_sq ha
  have s2 := near_sq hb
  rw [nearP_iff] at ha hb
  unfold lookahead_Corner_1 turn
  rw [wI64 (x := i + 1) (by omega) (by omega), allowed_ok (by omega) ha.1 hb.1 (by omega) (by omega) hc, allowed_ok (by omega) ha.2.1 hb.2.1 (by omega) (by omega) hc, allowed_ok (by omega) ha.2.2 hb.2.2 (by omega) (by omega) hc]
  cases decide (alw (i + 1) a.X b.X (sqP a) (sqP b) ch sgR mk ≤ 0) <;> cases decide (alw (i + 1) a.Y b.Y (sqP a) (sqP b) ch sgR mk ≤ 0) <;> rfl
theorem turns_ok (ha : nearP a = true) (hb : nearP b = true) (h0 : sqP a ≠ 0) (h1 : sqP b ≠ 0) (hc : 0 ≤ ch ∧ ch ≤ 1000000) {i : Int} (hi : 0 ≤ i ∧ i ≤ 1000000) : swarfref48_Turns k a b i ch = some (turn a b i ch) := by
  have s1 := near_sq ha
  have s2 := near_sq hb
  rw [nearP_iff] at ha hb
  unfold swarfref48_Turns turn swarfref48_Square
  rw [s1.1, s2.1, Option.bind_some, Option.bind_some, rallowed_ok (by omega) ha.1 hb.1 (by omega) (by omega) hc, rallowed_ok (by omega) ha.2.1 hb.2.1 (by omega) (by omega) hc, rallowed_ok (by omega) ha.2.2 hb.2.2 (by omega) (by omega) hc]
  cases decide (alw i a.X b.X (sqP a) (sqP b) ch sgR mk ≤ 0) <;> cases decide (alw i a.Y b.Y (sqP a) (sqP b) ch sgR mk ≤ 0) <;> rfl
theorem csearch_ok (ha : nearP a = true) (hb : nearP b = true) (h0 : sqP a ≠ 0) (h1 : sqP b ≠ 0) (hc : 0 ≤ ch ∧ ch ≤ 1000000) :
    ∃ r, sort_Search_lookahead_Corner_1 k 1000000 (a, b, sqP a, sqP b, ch, ()) = some r ∧ (0 ≤ r ∧ r ≤ 1000000) ∧ (r = 0 ∨ turn a b r ch = true) ∧ (r = 1000000 ∨ turn a b (r + 1) ch = false) := by
  unfold sort_Search_lookahead_Corner_1
  refine Exists.elim (iter_ok (fun (x3 : ((PosD × PosD × Int × Int × Int × Unit) × Int × Int × Unit)) => sort_Search_lookahead_Corner_1_L0 k x3.1 x3.2.1 x3.2.2.1)
    (fun n s => ∃ i j : Int, s = ((a, b, sqP a, sqP b, ch, ()), i, j, ()) ∧ 0 ≤ i ∧ i ≤ j ∧ j ≤ 1000000 ∧ (n : Int) = j - i ∧ (i = 0 ∨ turn a b i ch = true) ∧ (j = 1000000 ∨ turn a b (j + 1) ch = false))
    (fun x => ∃ r, x = (r, ()) ∧ (0 ≤ r ∧ r ≤ 1000000) ∧ (r = 0 ∨ turn a b r ch = true) ∧ (r = 1000000 ∨ turn a b (r + 1) ch = false)) ?_ k 1000000 ((a, b, sqP a, sqP b, ch, ()), 0, 1000000, ()) (F.len (by rw [LM_val]; omega))
    ⟨0, 1000000, rfl, by omega, by omega, by omega, by omega, Or.inl rfl, Or.inl rfl⟩) ?_
  · rintro n s ⟨i, j, rfl, g1, g2, g3, g4, g5, g6⟩
    simp only []
    unfold sort_Search_lookahead_Corner_1_L0
    by_cases c : i < j
    · left
      rw [cdec c, cond_true, mid_eq (by omega) (by omega)]
      generalize hm : (i + j) / 2 = m
      simp only []
      rw [corner1_ok ha hb h0 h1 hc (i := m) (by omega), Option.bind_some, Bool.not_not]
      cases g : turn a b (m + 1) ch with
      | false =>
        rw [cond_false]
        exact ⟨_, (m - i).toNat, rfl, by omega, i, m, rfl, g1, by omega, by omega, by omega, g5, Or.inr g⟩
      | true =>
        rw [cond_true, wI64 (x := m + 1) (by omega) (by omega)]
        exact ⟨_, (j - (m + 1)).toNat, rfl, by omega, m + 1, j, rfl, by omega, by omega, g3, by omega, Or.inr g, g6⟩
    · right
      rw [cdecF c, cond_false]
      have : i = j := by omega
      subst this
      exact ⟨_, rfl, i, rfl, ⟨g1, g3⟩, g5, g6⟩
  · rintro x ⟨hx, r, rfl, h⟩
    exact ⟨r, by rw [hx]; rfl, h⟩
end
theorem law_LookaheadCorner (a b : PosD) (ch : Int) (ha : WfPos a) (hb : WfPos b) (hc : In64 ch) : ∃ k, swarflaw48_LookaheadCorner k a b ch = some true := by
  obtain ⟨k, F⟩ := fuel_exists
  refine ⟨k, ?_⟩
  unfold swarflaw48_LookaheadCorner lookahead_Corner swarfref48_CornerError
  rw [awake48, Option.bind_some, Bool.not_true, cond_false, within_ok, Option.bind_some, speed_ok, Option.bind_some, far_ok, Option.bind_some, far_ok, Option.bind_some, inside_ok, Option.bind_some, inside_ok, Option.bind_some]
  by_cases c1 : inB ch 0 1000000 = true
  rotate_left
  · rw [Bool.eq_false_iff.2 c1]; rfl
  rw [c1, Bool.not_true, cond_false, cond_false]
  cases na : nearP a with
  | false => rfl
  | true =>
    rw [Bool.not_true, cond_false, cond_false]
    cases nb : nearP b with
    | false => rfl
    | true =>
      rw [Bool.not_true, cond_false, cond_false]
      have s1 := near_sq na
      have s2 := near_sq nb
      unfold lookahead_square swarfref48_Square
      rw [s1.1, s2.1, Option.bind_some, Option.bind_some, Option.bind_some, Option.bind_some]
      by_cases z1 : sqP a = 0
      · rw [show (sqP a == 0) = true by rw [beq_iff_eq]; exact z1]; rfl
      rw [show (sqP a == 0) = false by rw [beq_eq_false_iff_ne]; exact z1, cond_false, cond_false]
      by_cases z2 : sqP b = 0
      · rw [show (sqP b == 0) = true by rw [beq_iff_eq]; exact z2]; rfl
      rw [show (sqP b == 0) = false by rw [beq_eq_false_iff_ne]; exact z2, cond_false, cond_false]
      rw [inB_iff] at c1
      obtain ⟨r, e, h1, h2, h3⟩ := csearch_ok (k := k) na nb z1 z2 c1
      have e0 : ((0 : Int) != 0) = false := rfl
      rw [e]
      simp only [Option.bind_some, e0, cond_false]
      rw [speed_ok, Option.bind_some, show inB r 0 1000000 = true by rw [inB_iff]; omega, Bool.not_true, cond_false, turns_ok na nb z1 z2 c1 (by omega), Option.bind_some]
      have ht : turn a b r ch = true := by
        rcases h2 with rfl | h2
        · unfold turn
          rw [decide_eq_true alw_zero, decide_eq_true alw_zero, decide_eq_true alw_zero]; rfl
        · exact h2
      rw [ht, Bool.not_true, cond_false]
      by_cases z3 : r = 1000000
      · rw [show (r == 1000000) = true by rw [beq_iff_eq]; exact z3]; rfl
      · rw [show (r == 1000000) = false by rw [beq_eq_false_iff_ne]; exact z3, cond_false, wI64 (by omega) (by omega), turns_ok na nb z1 z2 c1 (by omega), Option.bind_some]
        rcases h3 with h3 | h3
        · exact absurd h3 z3
        · rw [h3]; rfl
end Go.Proofs.YtbjkpogfgijmaaaGreat
