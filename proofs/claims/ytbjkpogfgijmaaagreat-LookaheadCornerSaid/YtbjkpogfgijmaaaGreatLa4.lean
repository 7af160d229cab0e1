/- Plain laws: the greatest distance from rest to rest in a time (chapter 48). -/
import Derived.Test.YtbjkpogfgijmaaaGreatLa1
import Derived.Test.YtbjkpogfgijmaaaGreatLawRootEnclose
namespace Go.Proofs.YtbjkpogfgijmaaaGreat
open Go
set_option linter.unusedVariables false
set_option linter.unusedSimpArgs false

theorem mul_le_iff {x y c : Rat} (hc : 0 < c) : x ≤ y ↔ x * c ≤ y * c := by
  constructor
  · intro h; exact Rat.mul_le_mul_of_nonneg_right h (Rat.le_of_lt hc)
  · intro h
    rw [← Rat.not_lt]
    intro g
    have := Rat.mul_lt_mul_of_pos_right g hc
    exact Rat.not_lt.2 h this
/-- The distance, as a number: with the full speed, if there is time to reach it. -/
def rr (t v a : Int) : Rat := if (v : Rat) + (v : Rat) ≤ (t : Rat) / 1000 * (a : Rat) then (v : Rat) * ((t : Rat) / 1000) - ((v * v : Int) : Rat) / (a : Rat) else (a : Rat) / 4 * ((t : Rat) / 1000 * ((t : Rat) / 1000))
/-- The same, times 4000000 a, as a whole number of u = t a and w = 2000 v. -/
def hh (u w : Int) : Int := if w ≤ u then 2 * w * u - w * w else u * u
theorem rr_eq {t v a : Int} (ha : 0 < a) : rr t v a * (4000000 * (a : Rat)) = ((hh (t * a) (2000 * v) : Int) : Rat) := by
  have ha' : (0 : Rat) < (a : Rat) := Rat.intCast_pos.2 ha
  have hc : ((v : Rat) + (v : Rat) ≤ (t : Rat) / 1000 * (a : Rat)) ↔ 2000 * v ≤ t * a := by
    rw [← @Rat.intCast_le_intCast (2000 * v) (t * a)]
    push_cast
    have : (t : Rat) / 1000 * (a : Rat) * 1000 = (t : Rat) * (a : Rat) := by grind
    constructor <;> intro h <;> grind
  unfold rr hh
  by_cases h : 2000 * v ≤ t * a
  · rw [if_pos (hc.2 h), if_pos h]
    push_cast
    generalize hq : (v : Rat) * (v : Rat) / (a : Rat) = q
    have : q * (a : Rat) = (v : Rat) * (v : Rat) := by rw [← hq]; grind
    grind
  · rw [if_neg (fun g => h (hc.1 g)), if_neg h]
    push_cast
    grind
theorem rr_le {t v s w a : Int} (ha : 0 < a) : rr t v a ≤ rr s w a ↔ hh (t * a) (2000 * v) ≤ hh (s * a) (2000 * w) := by
  have ha' : (0 : Rat) < (a : Rat) := Rat.intCast_pos.2 ha
  rw [← @Rat.intCast_le_intCast, ← rr_eq ha, ← rr_eq ha]
  exact mul_le_iff (by grind)
theorem le_rr {d t v a : Int} (ha : 0 < a) : ((d : Int) : Rat) ≤ rr t v a ↔ d * (4000000 * a) ≤ hh (t * a) (2000 * v) := by
  have ha' : (0 : Rat) < (a : Rat) := Rat.intCast_pos.2 ha
  rw [← @Rat.intCast_le_intCast (d * (4000000 * a)), ← rr_eq ha]
  push_cast
  exact mul_le_iff (by grind)

/-! ### Whole numbers -/
theorem mul_self_nonneg (x : Int) : 0 ≤ x * x := by
  rcases Int.le_total 0 x with h | h
  · exact Int.mul_nonneg h h
  · have := Int.mul_nonneg (show 0 ≤ -x by omega) (show 0 ≤ -x by omega); rwa [Int.neg_mul_neg] at this
theorem hh_lt {u u' w : Int} (h0 : 0 ≤ u) (h : u < u') (hw : 0 < w) : hh u w < hh u' w := by
  unfold hh
  by_cases c1 : w ≤ u
  · rw [if_pos c1, if_pos (by omega)]
    have := Int.mul_lt_mul_of_pos_left h (show 0 < 2 * w by omega)
    omega
  · rw [if_neg c1]
    by_cases c2 : w ≤ u'
    · rw [if_pos c2]
      have h1 := sq_lt_of h0 (show u < w by omega)
      have h2 := Int.mul_le_mul_of_nonneg_left c2 (show 0 ≤ 2 * w by omega)
      have h3 : 2 * w * w = w * w + w * w := by grind
      omega
    · rw [if_neg c2]; exact sq_lt_of h0 h
theorem hh_le {u u' w : Int} (h0 : 0 ≤ u) (h : u ≤ u') (hw : 0 < w) : hh u w ≤ hh u' w := by
  rcases (by omega : u = u' ∨ u < u') with rfl | g
  · exact Int.le_refl _
  · exact Int.le_of_lt (hh_lt h0 g hw)
theorem hh_speed {u w w' : Int} (h0 : 0 ≤ u) (h : w ≤ w') : hh u w ≤ hh u w' := by
  unfold hh
  by_cases c1 : w' ≤ u
  · rw [if_pos c1, if_pos (by omega)]
    have h1 := Int.mul_nonneg (show 0 ≤ w' - w by omega) (show 0 ≤ (u - w) + (u - w') by omega)
    have h2 : 2 * w' * u - w' * w' - (2 * w * u - w * w) = (w' - w) * ((u - w) + (u - w')) := by grind
    omega
  · rw [if_neg c1]
    by_cases c2 : w ≤ u
    · rw [if_pos c2]
      have h1 := mul_self_nonneg (u - w)
      have h2 : u * u - (2 * w * u - w * w) = (u - w) * (u - w) := by grind
      omega
    · rw [if_neg c2]; exact Int.le_refl _
/-- The distance of two times is at least the sum of theirs. -/
theorem hh_add {x y w : Int} (hx : 0 ≤ x) (hy : 0 ≤ y) (hw : 0 < w) : hh x w + hh y w ≤ hh (x + y) w := by
  have hxy := Int.mul_nonneg hx hy
  have e1 : (x + y) * (x + y) = x * x + y * y + 2 * (x * y) := by grind
  have e2 : 2 * w * (x + y) = 2 * w * x + 2 * w * y := by grind
  have hww := mul_self_nonneg w
  have quad : ∀ z : Int, 0 ≤ z → z ≤ w → z * z ≤ 2 * w * z := by
    intro z h1 h2
    have := Int.mul_le_mul_of_nonneg_right (show z ≤ 2 * w by omega) h1
    exact this
  unfold hh
  by_cases c : w ≤ x + y
  · rw [if_pos c, e2]
    by_cases c1 : w ≤ x
    · rw [if_pos c1]
      by_cases c2 : w ≤ y
      · rw [if_pos c2]; omega
      · rw [if_neg c2]; have := quad y hy (by omega); omega
    · rw [if_neg c1]
      by_cases c2 : w ≤ y
      · rw [if_pos c2]; have := quad x hx (by omega); omega
      · rw [if_neg c2]
        have h1 := Int.mul_nonneg (show 0 ≤ w - x by omega) (show 0 ≤ w - y by omega)
        have h2 := sq_le (x := (w - x) + (w - y)) (c := w) (by omega) (by omega)
        have h3 : ((w - x) + (w - y)) * ((w - x) + (w - y)) = 4 * (w * w) - 2 * (2 * w * x) - 2 * (2 * w * y) + x * x + y * y + 2 * (x * y) := by grind
        have h4 : (w - x) * (w - y) = w * w - w * x - w * y + x * y := by grind
        have h5 : 2 * w * x = 2 * (w * x) := by grind
        have h6 : 2 * w * y = 2 * (w * y) := by grind
        omega
  · rw [if_neg c, if_neg (by omega), if_neg (by omega), e1]; omega

/-! ### The functions -/
/-- Whether a time, a speed and an acceleration are within range. -/
def okR (t v a : Int) : Bool := inB t 0 1000000000000 && (inB v 1 1000000 && inB a 1 100000000)
theorem okR_iff {t v a : Int} : okR t v a = true ↔ (0 ≤ t ∧ t ≤ 1000000000000) ∧ (1 ≤ v ∧ v ≤ 1000000) ∧ (1 ≤ a ∧ a ≤ 100000000) := by
  rw [okR, Bool.and_eq_true, Bool.and_eq_true, inB_iff, inB_iff, inB_iff]
theorem sz3 {z : Int} (h0 : -9223372036854775808 ≤ z) (h1 : z < 9223372036854775808) : Sz 3 z := Sz.of (by simp only [bp]; omega)
theorem rz5 {z : Int} (h0 : -9223372036854775808 ≤ z) (h1 : z < 9223372036854775808) : Rz 5 (z : Rat) := rzOfInt (sz3 h0 h1)
theorem divInt_div {n d : Int} : Rat.divInt n d = (n : Rat) / (d : Rat) := Rat.divInt_eq_div n d
theorem rr_rz {t v a : Int} (ht : 0 ≤ t ∧ t ≤ 1000000000000) (hv : 1 ≤ v ∧ v ≤ 1000000) (ha : 1 ≤ a ∧ a ≤ 100000000) : Rz 30 (rr t v a) := by
  have h1 : Rz 5 (t : Rat) := rz5 (by omega) (by omega)
  have h2 : Rz 5 (v : Rat) := rz5 (by omega) (by omega)
  have h3 : Rz 5 (a : Rat) := rz5 (by omega) (by omega)
  have hq := sq_le (x := v) (c := 1000000) (by omega) hv.2
  have h4 : Rz 5 ((v * v : Int) : Rat) := rz5 (by omega) (by omega)
  have h5 : Rz 5 ((1000 : Int) : Rat) := rz5 (by omega) (by omega)
  have h6 : Rz 5 ((4 : Int) : Rat) := rz5 (by omega) (by omega)
  have e5 : ((1000 : Int) : Rat) = (1000 : Rat) := rfl
  have e6 : ((4 : Int) : Rat) = (4 : Rat) := rfl
  rw [e5] at h5
  rw [e6] at h6
  have hT := rzQuo h1 h5
  unfold rr
  split
  · exact (rzSub (rzMul h2 hT) (rzQuo h4 h3)).mono (by omega)
  · exact (rzMul (rzQuo h3 h6) (rzMul hT hT)).mono (by omega)
theorem cmp_ge {x y : Rat} : cmpQ x y ≥ 0 ↔ y ≤ x := by
  have := @cmpQ_neg x y
  constructor
  · intro h
    have : ¬ x < y := fun g => by have := cmpQ_neg.2 g; omega
    exact Rat.not_lt.1 this
  · intro h
    have : ¬ cmpQ x y < 0 := fun g => Rat.not_lt.2 h (cmpQ_neg.1 g)
    omega
theorem reach_ok {k : Nat} [F : Fuel k] {t v a : Int} : lookahead_Reach k t v a = some (if okR t v a = true then (Q (rr t v a), 0) else (zR, 1)) := by
  unfold lookahead_Reach
  rw [within_ok, Option.bind_some, within_ok, Option.bind_some, within_ok, Option.bind_some]
  cases o1 : inB t 0 1000000000000 with
  | false => rw [okR, o1]; rfl
  | true =>
    cases o2 : inB v 1 1000000 with
    | false => rw [okR, o1, o2]; rfl
    | true =>
      cases o3 : inB a 1 100000000 with
      | false => rw [okR, o1, o2, o3]; rfl
      | true =>
        rw [if_pos (by rw [okR, o1, o2, o3]; rfl)]
        rw [inB_iff] at o1 o2 o3
        simp only [Bool.not_true, cond_false]
        have hq := sq_le (x := v) (c := 1000000) (by omega) o2.2
        have h1 : Rz 5 (t : Rat) := rz5 (by omega) (by omega)
        have h2 : Rz 5 (v : Rat) := rz5 (by omega) (by omega)
        have h3 : Rz 5 (a : Rat) := rz5 (by omega) (by omega)
        have h4 : Rz 5 ((v * v : Int) : Rat) := rz5 (by omega) (by omega)
        have h5 : Rz 5 ((1000 : Int) : Rat) := rz5 (by omega) (by omega)
        have h6 : Rz 5 ((4 : Int) : Rat) := rz5 (by omega) (by omega)
        have e5 : ((1000 : Int) : Rat) = (1000 : Rat) := rfl
        have e6 : ((4 : Int) : Rat) = (4 : Rat) := rfl
        rw [e5] at h5
        rw [e6] at h6
        have hT := rzQuo h1 h5
        rw [wI64 (x := v * v) (by omega) (by omega), qFrac (by omega) (by omega) (by omega) (by omega) (by omega), divInt_div, e5, Option.bind_some, qFrom (by omega) (by omega), Option.bind_some, qFrom (by omega) (by omega), Option.bind_some,
          qMul (x := hT) (y := h3) (by decide), Option.bind_some, qAdd (x := h2) (y := h2) (by decide), Option.bind_some, qCmp (x := rzMul hT h3) (y := rzAdd h2 h2) (by decide), Option.bind_some]
        unfold rr
        by_cases c : (v : Rat) + (v : Rat) ≤ (t : Rat) / 1000 * (a : Rat)
        · rw [cdec (cmp_ge.2 c), cond_true, if_pos c, qMul (x := h2) (y := hT) (by decide), Option.bind_some, qFrac (by omega) (by omega) (by omega) (by omega) (by omega), divInt_div, Option.bind_some,
            qSub (x := rzMul h2 hT) (y := rzQuo h4 h3) (by decide)]; rfl
        · rw [cdecF (fun g => c (cmp_ge.1 g)), cond_false, if_neg c, qFrac (by omega) (by omega) (by omega) (by omega) (by omega), divInt_div, e6, Option.bind_some, qMul (x := hT) (y := hT) (by decide), Option.bind_some,
            qMul (x := rzQuo h3 h6) (y := rzMul hT hT) (by decide)]; rfl
theorem rreach_in {k : Nat} [F : Fuel k] {t v a : Int} (o1 : 0 ≤ t ∧ t ≤ 1000000000000) (o2 : 1 ≤ v ∧ v ≤ 1000000) (o3 : 1 ≤ a ∧ a ≤ 100000000) : swarfref48_reach k t v a = some (Q (rr t v a)) := by
  unfold swarfref48_reach
  have hq := sq_le (x := v) (c := 1000000) (by omega) o2.2
  have h1 : Rz 5 (t : Rat) := rz5 (by omega) (by omega)
  have h2 : Rz 5 (v : Rat) := rz5 (by omega) (by omega)
  have h3 : Rz 5 (a : Rat) := rz5 (by omega) (by omega)
  have h5 : Rz 5 ((1000 : Int) : Rat) := rz5 (by omega) (by omega)
  have h6 : Rz 5 ((4 : Int) : Rat) := rz5 (by omega) (by omega)
  have h7 : Rz 5 ((1 : Int) : Rat) := rz5 (by omega) (by omega)
  have e5 : ((1000 : Int) : Rat) = (1000 : Rat) := rfl
  have e6 : ((4 : Int) : Rat) = (4 : Rat) := rfl
  have e7 : ((1 : Int) : Rat) = (1 : Rat) := rfl
  rw [e5] at h5
  rw [e6] at h6
  rw [e7] at h7
  have hT := rzQuo h1 h5
  have a0 : (a : Rat) ≠ 0 := by
    have : (0 : Rat) < (a : Rat) := Rat.intCast_pos.2 (by omega)
    grind
  rw [rQFrac (by omega) (by omega) (by omega) (by omega) (by omega), divInt_div, e5, Option.bind_some, rQFrom (by omega) (by omega), Option.bind_some, rQFrom (by omega) (by omega), Option.bind_some,
    rQMul (x := hT) (y := h3) (by decide), Option.bind_some, rQAdd (x := h2) (y := h2) (by decide), Option.bind_some, rQCmp (x := rzMul hT h3) (y := rzAdd h2 h2) (by decide), Option.bind_some]
  unfold rr
  by_cases c : (v : Rat) + (v : Rat) ≤ (t : Rat) / 1000 * (a : Rat)
  · rw [cdec (cmp_ge.2 c), cond_true, if_pos c, rQMul (x := h2) (y := hT) (by decide), Option.bind_some, rQMul (x := h2) (y := h2) (by decide), Option.bind_some, rQOver (x := rzMul h2 h2) (y := h3) (by decide) a0, Option.bind_some,
      rQSub (x := rzMul h2 hT) (y := rzQuo (rzMul h2 h2) h3) (by decide), Rat.intCast_mul]; rfl
  · rw [cdecF (fun g => c (cmp_ge.1 g)), cond_false, if_neg c, rQFrac (by omega) (by omega) (by omega) (by omega) (by omega), divInt_div, e6, e7, Option.bind_some, rQMul (x := h3) (y := rzQuo h7 h6) (by decide), Option.bind_some, rQMul (x := hT) (y := hT) (by decide), Option.bind_some,
      rQMul (x := rzMul h3 (rzQuo h7 h6)) (y := rzMul hT hT) (by decide)]
    have e : (a : Rat) * (1 / 4) = (a : Rat) / 4 := by grind
    rw [e]; rfl
theorem rReach_ok {k : Nat} [F : Fuel k] {t v a : Int} : swarfref48_Reach k t v a = some (if okR t v a = true then (Q (rr t v a), 0) else (zR, 1)) := by
  unfold swarfref48_Reach
  rw [speed_ok, Option.bind_some, accel_ok, Option.bind_some]
  by_cases g : okR t v a = true
  · rw [if_pos g]
    rw [okR_iff] at g
    rw [cdecF (by omega), cond_false, cdecF (by omega), cond_false, show inB v 0 1000000 = true by rw [inB_iff]; omega, Bool.not_true, cond_false, cdecF (by omega), cond_false, show inB a 1 100000000 = true by rw [inB_iff]; omega, Bool.not_true, cond_false, rreach_in g.1 g.2.1 g.2.2]
    rfl
  · rw [if_neg g]
    rw [okR_iff] at g
    by_cases c1 : t < 0
    · rw [cdec c1]; rfl
    rw [cdecF c1, cond_false]
    by_cases c2 : t > 1000000000000
    · rw [cdec c2]; rfl
    rw [cdecF c2, cond_false]
    by_cases c3 : inB v 0 1000000 = true
    · rw [c3, Bool.not_true, cond_false]
      by_cases c4 : v < 1
      · rw [cdec c4]; rfl
      rw [cdecF c4, cond_false]
      by_cases c5 : inB a 1 100000000 = true
      · rw [inB_iff] at c3 c5
        omega
      · rw [Bool.eq_false_iff.2 c5]; rfl
    · rw [Bool.eq_false_iff.2 c3]; rfl
end Go.Proofs.YtbjkpogfgijmaaaGreat
