/- Plain laws: the least time for a distance, and the time of motions (chapter 48). -/
import Derived.Test.YtbjkpogfgijmaaaGreatLa4
namespace Go.Proofs.YtbjkpogfgijmaaaGreat
open Go
set_option linter.unusedVariables false
set_option linter.unusedSimpArgs false

theorem mid_eq {i j : Int} (h0 : 0 ≤ i + j) (h1 : i + j < 9223372036854775808) : IntKind.i64.wrap ((IntKind.u64.wrap (IntKind.i64.wrap (i + j))).fdiv (2 ^ (min 1 IntKind.u64.bits))) = (i + j) / 2 := by
  have e : ((2 : Int) ^ (min 1 IntKind.u64.bits)) = 2 := rfl
  rw [e, wI64 (x := i + j) (by omega) (by omega), wU64 (by omega) (by omega), Int.fdiv_eq_ediv_of_nonneg _ (by omega), wI64 (by omega) (by omega)]
/-- What the least time for a distance is. -/
def Str (d v a r : Int) : Prop := (0 ≤ r ∧ r ≤ 1000000000000) ∧ (∀ x, 0 ≤ x → x < r → ¬ ((d : Rat) ≤ rr x v a)) ∧ (∀ x, r ≤ x → x < 1000000000000 → (d : Rat) ≤ rr x v a)
theorem Str.eq {d v a r s : Int} (x : Str d v a r) (y : Str d v a s) : r = s := by
  obtain ⟨h1, h2, h3⟩ := x
  obtain ⟨g1, g2, g3⟩ := y
  rcases (by omega : r = s ∨ r < s ∨ s < r) with h | h | h
  · exact h
  · exact absurd (h3 r (Int.le_refl _) (by omega)) (g2 r (by omega) h)
  · exact absurd (g3 s (Int.le_refl _) (by omega)) (h2 s (by omega) h)
theorem rr_mono {d v a x y : Int} (o2 : 1 ≤ v) (o3 : 1 ≤ a) (h0 : 0 ≤ x) (h : x ≤ y) (g : (d : Rat) ≤ rr x v a) : (d : Rat) ≤ rr y v a := by
  rw [le_rr (by omega)] at g ⊢
  have := Int.mul_nonneg h0 (show 0 ≤ a by omega)
  have := Int.mul_le_mul_of_nonneg_right h (show 0 ≤ a by omega)
  have := hh_le (w := 2000 * v) (show 0 ≤ x * a by omega) this (by omega)
  omega
section
variable {k : Nat} [F : Fuel k] {d v a : Int}
theorem straight_at (o0 : 0 ≤ d ∧ d ≤ 100000000) (o2 : 1 ≤ v ∧ v ≤ 1000000) (o3 : 1 ≤ a ∧ a ≤ 100000000) {t : Int} (o1 : 0 ≤ t ∧ t ≤ 1000000000000) : lookahead_Straight_1 k t v a (Q (d : Rat)) = some (decide ((d : Rat) ≤ rr t v a)) := by
  unfold lookahead_Straight_1
  rw [reach_ok, Option.bind_some, if_pos (okR_iff.2 ⟨o1, o2, o3⟩)]
  have z := rr_rz o1 o2 o3
  have y : Rz 5 (d : Rat) := rz5 (by omega) (by omega)
  have e0 : ((0 : Int) == 0) = true := rfl
  simp only [e0, cond_true]
  rw [qCmp (x := z) (y := y) (by decide), Option.bind_some]
  by_cases c : (d : Rat) ≤ rr t v a
  · rw [cdec c, cdec (cmp_ge.2 c)]
  · rw [cdecF c, cdecF (fun g => c (cmp_ge.1 g))]
theorem search_ok (o0 : 0 ≤ d ∧ d ≤ 100000000) (o2 : 1 ≤ v ∧ v ≤ 1000000) (o3 : 1 ≤ a ∧ a ≤ 100000000) : ∃ r, Str d v a r ∧ sort_Search_lookahead_Straight_1 k 1000000000000 (v, a, Q (d : Rat), ()) = some r := by
  unfold sort_Search_lookahead_Straight_1
  refine Exists.elim (iter_ok (fun (x3 : ((Int × Int × RatD × Unit) × Int × Int × Unit)) => sort_Search_lookahead_Straight_1_L0 k x3.1 x3.2.1 x3.2.2.1)
    (fun n s => ∃ i j : Int, s = ((v, a, Q (d : Rat), ()), i, j, ()) ∧ 0 ≤ i ∧ i ≤ j ∧ j ≤ 1000000000000 ∧ (n : Int) = j - i ∧ (∀ x, 0 ≤ x → x < i → ¬ ((d : Rat) ≤ rr x v a)) ∧ (∀ x, j ≤ x → x < 1000000000000 → (d : Rat) ≤ rr x v a))
    (fun x => ∃ r, x = (r, ()) ∧ Str d v a r) ?_ k 1000000000000 ((v, a, Q (d : Rat), ()), 0, 1000000000000, ()) (F.lt (m := 2) (by simp only [bp]; omega) (by rw [LM_val]; omega))
    ⟨0, 1000000000000, rfl, by omega, by omega, by omega, by omega, fun x h g => by omega, fun x h g => by omega⟩) ?_
  · rintro n s ⟨i, j, rfl, h1, h2, h3, h4, h5, h6⟩
    simp only []
    unfold sort_Search_lookahead_Straight_1_L0
    by_cases c : i < j
    · left
      rw [cdec c, cond_true, mid_eq (by omega) (by omega)]
      generalize hm : (i + j) / 2 = m
      simp only []
      rw [straight_at o0 o2 o3 (t := m) (by omega), Option.bind_some]
      by_cases g : (d : Rat) ≤ rr m v a
      · rw [cdec g, Bool.not_true, cond_false]
        exact ⟨_, (m - i).toNat, rfl, by omega, i, m, rfl, h1, by omega, by omega, by omega, h5, fun x hx hx2 => rr_mono o2.1 o3.1 (by omega) hx g⟩
      · rw [cdecF g, Bool.not_false, cond_true, wI64 (x := m + 1) (by omega) (by omega)]
        exact ⟨_, (j - (m + 1)).toNat, rfl, by omega, m + 1, j, rfl, by omega, by omega, h3, by omega, fun x hx hx2 e => g (rr_mono o2.1 o3.1 hx (by omega) e), h6⟩
    · right
      rw [cdecF c, cond_false]
      have : i = j := by omega
      subst this
      exact ⟨_, rfl, i, rfl, ⟨h1, h3⟩, h5, h6⟩
  · rintro x ⟨hx, r, rfl, h⟩
    exact ⟨r, h, by rw [hx]; rfl⟩
theorem rsearch_ok (o0 : 0 ≤ d ∧ d ≤ 100000000) (o2 : 1 ≤ v ∧ v ≤ 1000000) (o3 : 1 ≤ a ∧ a ≤ 100000000) :
    ∃ x, iter (fun (x8 : (Int × Int × Int × Int × Int × Unit)) => swarfref48_Straight_L0 k x8.1 x8.2.1 x8.2.2.1 x8.2.2.2.1 x8.2.2.2.2.1) k (d, v, a, 0, 1000000000000, ()) = some x ∧ ∃ r, x = (r, ()) ∧ Str d v a r := by
  refine iter_ok _
    (fun n s => ∃ i j : Int, s = (d, v, a, i, j, ()) ∧ 0 ≤ i ∧ i ≤ j ∧ j ≤ 1000000000000 ∧ (n : Int) = j - i ∧ (∀ x, 0 ≤ x → x < i → ¬ ((d : Rat) ≤ rr x v a)) ∧ (∀ x, j ≤ x → x < 1000000000000 → (d : Rat) ≤ rr x v a))
    _ ?_ k 1000000000000 _ (F.lt (m := 2) (by simp only [bp]; omega) (by rw [LM_val]; omega))
    ⟨0, 1000000000000, rfl, by omega, by omega, by omega, by omega, fun x h g => by omega, fun x h g => by omega⟩
  rintro n s ⟨i, j, rfl, h1, h2, h3, h4, h5, h6⟩
  simp only []
  unfold swarfref48_Straight_L0
  by_cases c : i < j
  · left
    rw [cdec c, cond_true, wI64 (x := i + j) (by omega) (by omega), Int.tdiv_eq_ediv_of_nonneg (by omega)]
    generalize hm : (i + j) / 2 = m
    have o1 : 0 ≤ m ∧ m ≤ 1000000000000 := by omega
    have z := rr_rz o1 o2 o3
    have y : Rz 5 (d : Rat) := rz5 (by omega) (by omega)
    rw [wI64 (x := m) (by omega) (by omega), rreach_in o1 o2 o3, Option.bind_some, rQFrom (by omega) (by omega), Option.bind_some, rQCmp (x := z) (y := y) (by decide), Option.bind_some]
    by_cases g : (d : Rat) ≤ rr m v a
    · rw [cdec (cmp_ge.2 g), cond_true]
      exact ⟨_, (m - i).toNat, rfl, by omega, i, m, rfl, h1, by omega, by omega, by omega, h5, fun x hx hx2 => rr_mono o2.1 o3.1 (by omega) hx g⟩
    · rw [cdecF (fun e => g (cmp_ge.1 e)), cond_false, wI64 (x := m + 1) (by omega) (by omega)]
      exact ⟨_, (j - (m + 1)).toNat, rfl, by omega, m + 1, j, rfl, by omega, by omega, h3, by omega, fun x hx hx2 e => g (rr_mono o2.1 o3.1 hx (by omega) e), h6⟩
  · right
    rw [cdecF c, cond_false]
    have : i = j := by omega
    subst this
    exact ⟨_, rfl, i, rfl, ⟨h1, h3⟩, h5, h6⟩
/-- Whether a distance, a speed and an acceleration are within range. -/
def okS (d v a : Int) : Bool := inB d 0 100000000 && (inB v 1 1000000 && inB a 1 100000000)
theorem okS_iff {d v a : Int} : okS d v a = true ↔ (0 ≤ d ∧ d ≤ 100000000) ∧ (1 ≤ v ∧ v ≤ 1000000) ∧ (1 ≤ a ∧ a ≤ 100000000) := by
  rw [okS, Bool.and_eq_true, Bool.and_eq_true, inB_iff, inB_iff, inB_iff]
theorem straight_ok (d v a : Int) : (okS d v a = true ∧ ∃ r, Str d v a r ∧ lookahead_Straight k d v a = some (r, 0) ∧ swarfref48_Straight k d v a = some (r, 0)) ∨
    (okS d v a = false ∧ lookahead_Straight k d v a = some (0, 1) ∧ swarfref48_Straight k d v a = some (0, 1)) := by
  unfold lookahead_Straight swarfref48_Straight
  rw [within_ok, Option.bind_some, within_ok, Option.bind_some, within_ok, Option.bind_some, long_ok, Option.bind_some, speed_ok, Option.bind_some, accel_ok, Option.bind_some]
  by_cases g : okS d v a = true
  · left
    refine ⟨g, ?_⟩
    rw [okS_iff] at g
    obtain ⟨o0, o2, o3⟩ := g
    obtain ⟨r, hr, e⟩ := search_ok (k := k) o0 o2 o3
    obtain ⟨x, hx, r', rfl, hr'⟩ := rsearch_ok (k := k) o0 o2 o3
    have := hr.eq hr'
    subst this
    refine ⟨r, hr, ?_, ?_⟩
    · rw [show inB d 0 100000000 = true by rw [inB_iff]; omega, show inB v 1 1000000 = true by rw [inB_iff]; omega, show inB a 1 100000000 = true by rw [inB_iff]; omega, Bool.not_true, cond_false, cond_false, cond_false,
        qFrom (by omega) (by omega), Option.bind_some, e]; rfl
    · rw [show inB d 0 100000000 = true by rw [inB_iff]; omega, show inB v 0 1000000 = true by rw [inB_iff]; omega, show inB a 1 100000000 = true by rw [inB_iff]; omega, Bool.not_true, cond_false, cond_false, cdecF (by omega), cond_false, cond_false, hx]; rfl
  · right
    refine ⟨Bool.eq_false_iff.2 g, ?_⟩
    rw [okS_iff] at g
    by_cases c1 : inB d 0 100000000 = true
    · rw [c1, Bool.not_true, cond_false]
      by_cases c2 : inB v 1 1000000 = true
      · rw [c2, Bool.not_true, cond_false]
        have c3 : inB a 1 100000000 = false := by
          rw [Bool.eq_false_iff, Ne, inB_iff]; rw [inB_iff] at c1 c2
          exact fun h => g ⟨c1, c2, h⟩
        rw [c3]
        rw [inB_iff] at c2
        rw [show inB v 0 1000000 = true by rw [inB_iff]; omega, cdecF (by omega)]
        exact ⟨rfl, rfl⟩
      · rw [Bool.eq_false_iff.2 c2]
        refine ⟨rfl, ?_⟩
        by_cases c3 : inB v 0 1000000 = true
        · rw [c3]
          rw [inB_iff] at c2 c3
          rw [cdec (by omega)]; rfl
        · rw [Bool.eq_false_iff.2 c3]; rfl
    · rw [Bool.eq_false_iff.2 c1]
      exact ⟨rfl, rfl⟩
end
end Go.Proofs.YtbjkpogfgijmaaaGreat
