/- Plain laws: the program's whole numbers. -/
import Derived.Test.YtbjkpogfgijmaaaGreatTh6
namespace Go.Proofs.YtbjkpogfgijmaaaGreat
open Go
set_option linter.unusedVariables false
set_option linter.unusedSimpArgs false

/-! ### Sizes -/
class Sz (n : outParam Nat) (z : Int) : Prop where
  h : len z ≤ n
theorem Sz.lim {n : Nat} {z : Int} (s : Sz n z) : (lim z.natAbs).length ≤ n := s.h
theorem Sz.lt {n : Nat} {z : Int} (s : Sz n z) : (z.natAbs : Int) < bp n := len_le_iff.1 s.h
theorem Sz.of {n : Nat} {z : Int} (h : (z.natAbs : Int) < bp n) : Sz n z := ⟨len_le_iff.2 h⟩
theorem Sz.mono {m n : Nat} {z : Int} (s : Sz m z) (h : m ≤ n) : Sz n z := ⟨Nat.le_trans s.h h⟩
theorem Sz.abs {n : Nat} {x y : Int} (s : Sz n x) (h : y.natAbs ≤ x.natAbs) : Sz n y := Sz.of (by have := s.lt; omega)
theorem szAdd {m n : Nat} {x y : Int} (a : Sz m x) (b : Sz n y) : Sz (max m n + 1) (x + y) := Sz.of (by
  have h1 := a.lt; have h2 := b.lt
  have h3 := bp_mono (Nat.le_max_left m n); have h4 := bp_mono (Nat.le_max_right m n)
  simp only [bp]; have := bp_pos (max m n); omega)
theorem szMul {m n : Nat} {x y : Int} (a : Sz m x) (b : Sz n y) : Sz (m + n) (x * y) := Sz.of (by
  have h1 := a.lt; have h2 := b.lt
  rw [Int.natAbs_mul, bp_add, Int.natCast_mul]
  have h3 : (x.natAbs : Int) * y.natAbs ≤ (x.natAbs : Int) * bp n := Int.mul_le_mul_of_nonneg_left (by omega) (by omega)
  have h4 : (x.natAbs : Int) * bp n < bp m * bp n := Int.mul_lt_mul_of_pos_right h1 (bp_pos n)
  omega)
theorem szNeg {n : Nat} {x : Int} (a : Sz n x) : Sz n (-x) := ⟨by have := a.h; unfold len at *; rwa [Int.natAbs_neg]⟩
theorem szSmall {x : Int} {n : Nat} (h : x.natAbs < n) : Sz n x := Sz.of (by have := bp_ge n; omega)

/-! ### Signs, comparing -/
def sgI (z : Int) : Int := if z < 0 then -1 else if z > 0 then 1 else 0
theorem nat_pos_iff {z : Int} : 0 < (lim z.natAbs).length ↔ z ≠ 0 := by rw [lim_length_pos]; omega
theorem integer_Sign_eq {k : Nat} (z : Int) : integer_Sign k (I z) = some (sgI z) := by
  unfold integer_Sign sgI
  rw [I_neg, I_limbs]
  by_cases h : z < 0
  · simp [h]
  · by_cases h2 : z > 0
    · have : 0 < (lim z.natAbs).length := nat_pos_iff.2 (by omega)
      simp [h, h2, this]
    · have : (lim z.natAbs).length = 0 := by have := @nat_pos_iff z; omega
      simp [h, h2, this]
theorem cmp_abs {x y : Int} (h : decide (x < 0) = decide (y < 0)) : cmpI x y = if x < 0 then cmpI y.natAbs x.natAbs else cmpI x.natAbs y.natAbs := by
  have h1 : x < 0 ↔ y < 0 := by simpa using h
  unfold cmpI
  by_cases hx : x < 0
  · have hy := h1.1 hx
    simp only [hx, if_true]
    have e1 : (x < y) ↔ ((y.natAbs : Int) < x.natAbs) := by omega
    have e2 : (x > y) ↔ ((y.natAbs : Int) > x.natAbs) := by omega
    simp only [e1, e2]
  · have hy : ¬ y < 0 := fun h => hx (h1.2 h)
    simp only [hx, if_false]
    have e1 : (x < y) ↔ ((x.natAbs : Int) < y.natAbs) := by omega
    have e2 : (x > y) ↔ ((x.natAbs : Int) > y.natAbs) := by omega
    simp only [e1, e2]
theorem cmp_sign {x y : Int} (h : decide (x < 0) ≠ decide (y < 0)) : cmpI x y = if x < 0 then -1 else 1 := by
  have h1 : ¬ (x < 0 ↔ y < 0) := by simpa using h
  unfold cmpI
  by_cases hx : x < 0
  · have hy : ¬ y < 0 := fun hy => h1 ⟨fun _ => hy, fun _ => hx⟩
    simp [hx]; omega
  · have hy : y < 0 := by by_cases hy : y < 0; exact hy; exact absurd ⟨fun h => absurd h hx, fun h => absurd h hy⟩ h1
    simp [hx]; omega
theorem integer_Cmp_eq {k : Nat} [F : Fuel k] {x y : Int} {m n : Nat} [a : Sz m x] [b : Sz n y] (hm : m ≤ LM := by decide) (hn : n ≤ LM := by decide) :
    integer_Cmp k (I x) (I y) = some (cmpI x y) := by
  unfold integer_Cmp
  simp only [I_neg, I_limbs]
  have e1 := compare_ok (k := k) (lim_dig x.natAbs) (lim_dig y.natAbs) (Nat.le_trans a.lim hm) (Nat.le_trans b.lim hn)
  have e2 := compare_ok (k := k) (lim_dig y.natAbs) (lim_dig x.natAbs) (Nat.le_trans b.lim hn) (Nat.le_trans a.lim hm)
  rw [lim_val, lim_val] at e1 e2
  rw [e1, e2]
  by_cases h : decide (x < 0) = decide (y < 0)
  · have : (!(decide (x < 0) == decide (y < 0))) = false := by simp [h]
    rw [this, cond_false, cmp_abs h]
    by_cases hx : x < 0 <;> simp [hx]
  · have : (!(decide (x < 0) == decide (y < 0))) = true := by simpa using h
    rw [this, cond_true, cmp_sign h]
    by_cases hx : x < 0 <;> simp [hx]

/-! ### Sums -/
theorem integer_Add_eq {k : Nat} [F : Fuel k] {x y : Int} {m n : Nat} [a : Sz m x] [b : Sz n y] (h : max m n + 1 ≤ LM := by decide) :
    integer_Add k (I x) (I y) = some (I (x + y)) := by
  have ha := a.lim; have hb := b.lim
  have dx := lim_dig x.natAbs; have dy := lim_dig y.natAbs
  unfold integer_Add
  simp only [I_neg, I_limbs]
  by_cases hs : decide (x < 0) = decide (y < 0)
  · have h1 : x < 0 ↔ y < 0 := by simpa using hs
    have : (decide (x < 0) == decide (y < 0)) = true := by simp [hs]
    rw [this, cond_true]
    obtain ⟨r, hr, r1, r2, r3⟩ := plus_ok (k := k) dx dy (by omega) (by omega)
    rw [lim_val, lim_val] at r2
    rw [hr, Option.bind_some, signed_ok _ r1 (by omega), Option.bind_some, r2]
    congr 2
    by_cases hx : x < 0
    · simp [hx]; omega
    · simp [hx]; omega
  · have h1 : ¬ (x < 0 ↔ y < 0) := by simpa using hs
    have : (decide (x < 0) == decide (y < 0)) = false := by simpa using hs
    rw [this, cond_false, compare_ok dx dy (by omega) (by omega), lim_val, lim_val, Option.bind_some]
    by_cases hlt : x.natAbs < y.natAbs
    · rw [cdec (cmpI_neg_iff.2 (by omega)), cond_true]
      obtain ⟨r, hr, r1, r2, r3⟩ := minus_ok (k := k) dy dx (lim_len_mono (by omega)) (by omega) (by rw [lim_val, lim_val]; omega)
      rw [lim_val, lim_val] at r2
      rw [hr, Option.bind_some, signed_ok _ r1 (by omega), Option.bind_some, r2]
      congr 2
      by_cases hy : y < 0
      · simp [hy]; omega
      · simp [hy]; omega
    · rw [cdecF (fun h => hlt (by have := cmpI_neg_iff.1 h; omega)), cond_false]
      obtain ⟨r, hr, r1, r2, r3⟩ := minus_ok (k := k) dx dy (lim_len_mono (by omega)) (by omega) (by rw [lim_val, lim_val]; omega)
      rw [lim_val, lim_val] at r2
      rw [hr, Option.bind_some, signed_ok _ r1 (by omega), Option.bind_some, r2]
      congr 2
      by_cases hx : x < 0
      · simp [hx]; omega
      · simp [hx]; omega
theorem integer_Sub_eq {k : Nat} [F : Fuel k] {x y : Int} {m n : Nat} [a : Sz m x] [b : Sz n y] (h : max m n + 1 ≤ LM := by decide) :
    integer_Sub k (I x) (I y) = some (I (x - y)) := by
  have b' : Sz n (-y) := szNeg b
  unfold integer_Sub
  rw [I_neg, I_limbs]
  have e := integer_Add_eq (k := k) (x := x) (y := -y) h
  by_cases hy : y < 0
  · have : (⟨false, lim y.natAbs⟩ : IntD) = I (-y) := by unfold I; simp; omega
    rw [cdec hy, this, e]; simp; rw [Int.sub_eq_add_neg]
  · have : (⟨decide (((lim y.natAbs).length : Int) > 0), lim y.natAbs⟩ : IntD) = I (-y) := by
      unfold I; rw [Int.natAbs_neg]; congr 1
      have := @nat_pos_iff y
      simp only [decide_eq_decide]; omega
    rw [cdecF hy, this, e]; simp; rw [Int.sub_eq_add_neg]
theorem integer_Neg_eq {k : Nat} [F : Fuel k] {x : Int} {n : Nat} [a : Sz n x] (h : n ≤ LM := by decide) : integer_Neg k (I x) = some (I (-x)) := by
  have hlm := LM_val
  have ha := a.lim
  unfold integer_Neg
  rw [cdec (by rw [I_limbs]; simp; omega), cond_true, I_neg, I_limbs, signed_ok _ (lim_dig _) (by omega), Option.bind_some, lim_val]
  congr 2
  by_cases hx : x < 0
  · simp [hx]; omega
  · simp [hx]; omega
theorem integer_Mul_eq {k : Nat} [F : Fuel k] {x y : Int} {m n : Nat} [a : Sz m x] [b : Sz n y] (h : m + n ≤ LM := by decide) :
    integer_Mul k (I x) (I y) = some (I (x * y)) := by
  have ha := a.lim; have hb := b.lim
  unfold integer_Mul
  simp only [I_neg, I_limbs]
  obtain ⟨r, hr, r1, r2, r3⟩ := times_ok (k := k) (lim_dig x.natAbs) (lim_dig y.natAbs) (by omega)
  rw [lim_val, lim_val] at r2
  rw [hr, Option.bind_some, signed_ok _ r1 (by omega), Option.bind_some, r2]
  congr 2
  by_cases hx : x < 0 <;> by_cases hy : y < 0 <;> simp only [hx, hy, decide_true, decide_false]
  · rw [show (x.natAbs : Int) = -x by omega, show (y.natAbs : Int) = -y by omega]; simp <;> grind
  · rw [show (x.natAbs : Int) = -x by omega, show (y.natAbs : Int) = y by omega]; simp <;> grind
  · rw [show (x.natAbs : Int) = x by omega, show (y.natAbs : Int) = -y by omega]; simp <;> grind
  · rw [show (x.natAbs : Int) = x by omega, show (y.natAbs : Int) = y by omega]; simp <;> grind
theorem split_ok {k : Nat} {u : Int} (h0 : 0 ≤ u) (h1 : u < 18446744073709551616) : ∃ l, integer_split k u = some l ∧ Dig l ∧ l.length = 3 ∧ val l = u := by
  unfold integer_split
  rw [Int.tmod_eq_emod_of_nonneg h0, Int.tdiv_eq_ediv_of_nonneg h0, wU64 (x := u / 1000000000) (by omega) (by omega), Int.tmod_eq_emod_of_nonneg (by omega), Int.tdiv_eq_ediv_of_nonneg (by omega)]
  rw [wU32 (x := u % 1000000000) (by omega) (by omega), wU32 (x := u / 1000000000 % 1000000000) (by omega) (by omega), wU64 (x := u / 1000000000 / 1000000000) (by omega) (by omega), wU32 (x := u / 1000000000 / 1000000000) (by omega) (by omega)]
  refine ⟨_, rfl, Dig.cons (by omega) (by omega) (Dig.cons (by omega) (by omega) (Dig.cons (by omega) (by omega) Dig.nil)), rfl, ?_⟩
  simp only [val]; omega
theorem integer_FromInt64_eq {k : Nat} [F : Fuel k] {z : Int} (h0 : -9223372036854775808 ≤ z) (h1 : z < 9223372036854775808) : integer_FromInt64 k z = some (I z) := by
  have hlm := LM_val
  unfold integer_FromInt64
  by_cases hz : z < 0
  · have e1 : IntKind.u64.wrap (0 - IntKind.u64.wrap z) = -z := by
      have : IntKind.u64.wrap z = z + 18446744073709551616 := by simp only [IntKind.wrap, IntKind.bits, IntKind.signed]; simp; omega
      rw [this]; simp only [IntKind.wrap, IntKind.bits, IntKind.signed]; simp; omega
    obtain ⟨l, hl, l1, l2, l3⟩ := split_ok (k := k) (u := -z) (by omega) (by omega)
    rw [cdec hz, cond_true, e1, hl, Option.bind_some, signed_ok _ l1 (by omega), Option.bind_some, l3]
    simp
  · obtain ⟨l, hl, l1, l2, l3⟩ := split_ok (k := k) (u := z) (by omega) (by omega)
    rw [cdecF hz, cond_false, wU64 (by omega) (by omega), hl, Option.bind_some, signed_ok _ l1 (by omega), Option.bind_some, l3]
    simp

theorem dec_congr {p q : Prop} [Decidable p] [Decidable q] (h : p ↔ q) : decide p = decide q := by simp [h]
/-! ### Quotients -/
theorem fdiv_of {x y q r : Int} (h : x = y * q + r) (hr : (0 ≤ r ∧ r < y) ∨ (y < r ∧ r ≤ 0)) : x.fdiv y = q ∧ x.fmod y = r := by
  have hy : y ≠ 0 := by omega
  have h1 := Int.mul_fdiv_add_fmod x y
  have h2 : (0 ≤ x.fmod y ∧ x.fmod y < y) ∨ (y < x.fmod y ∧ x.fmod y ≤ 0) := by
    rcases Int.lt_or_lt_of_ne hy with h3 | h3
    · right
      rw [Int.fmod_eq_emod]
      have e1 := Int.emod_nonneg x hy
      have e2 : x % y < -y := by have := Int.emod_lt_of_neg x h3; omega
      by_cases hd : y ∣ x
      · rw [Int.emod_eq_zero_of_dvd hd, if_pos (.inr hd)]; omega
      · have e3 : x % y ≠ 0 := fun h => hd (Int.dvd_of_emod_eq_zero h)
        rw [if_neg (by omega)]; omega
    · left; exact ⟨Int.fmod_nonneg_of_pos _ h3, Int.fmod_lt_of_pos _ h3⟩
  have h3 : y * (q - x.fdiv y) = x.fmod y - r := by grind
  have h4 : q - x.fdiv y = 0 := by
    rcases Int.lt_trichotomy (q - x.fdiv y) 0 with h5 | h5 | h5
    · exfalso
      rcases hr with hr | hr
      · have : y * (q - x.fdiv y) ≤ y * (-1) := Int.mul_le_mul_of_nonneg_left (by omega) (by omega)
        omega
      · have : y * (q - x.fdiv y) ≥ y * (-1) := Int.mul_le_mul_of_nonpos_left (by omega) (by omega)
        omega
    · exact h5
    · exfalso
      rcases hr with hr | hr
      · have : y * 1 ≤ y * (q - x.fdiv y) := Int.mul_le_mul_of_nonneg_left (by omega) (by omega)
        omega
      · have : y * (q - x.fdiv y) ≤ y * 1 := Int.mul_le_mul_of_nonpos_left (by omega) (by omega)
        omega
  rw [h4] at h3
  omega
/-- The quotient rounded down, out of absolute values. -/
theorem fdiv_abs (x y : Int) (hy : y ≠ 0) {q r : Int} (hq : q = (x.natAbs : Int) / (y.natAbs : Int)) (hr : r = (x.natAbs : Int) % (y.natAbs : Int)) :
    (decide (x < 0) = decide (y < 0) → x.fdiv y = q ∧ x.fmod y = if x < 0 then -r else r) ∧
    (decide (x < 0) ≠ decide (y < 0) → (r = 0 → x.fdiv y = -q ∧ x.fmod y = 0) ∧ (r ≠ 0 → x.fdiv y = -q - 1 ∧ x.fmod y = (if x < 0 then -r else r) + y)) := by
  have h1 := Int.mul_ediv_add_emod (x.natAbs : Int) (y.natAbs : Int)
  rw [← hq, ← hr] at h1
  have h2 : 0 ≤ r := by rw [hr]; exact Int.emod_nonneg _ (by omega)
  have h3 : r < y.natAbs := by rw [hr]; exact Int.emod_lt_of_pos _ (by omega)
  clear hq hr
  constructor
  · intro h
    have h4 : x < 0 ↔ y < 0 := by simpa using h
    by_cases hx : x < 0
    · have e1 : (x.natAbs : Int) = -x := by omega
      have e2 : (y.natAbs : Int) = -y := by have := h4.1 hx; omega
      rw [e1, e2] at h1; rw [e2] at h3
      simp only [hx, if_true]
      exact fdiv_of (by grind) (.inr (by omega))
    · have e1 : (x.natAbs : Int) = x := by omega
      have e2 : (y.natAbs : Int) = y := by omega
      rw [e1, e2] at h1; rw [e2] at h3
      simp only [hx, if_false]
      exact fdiv_of (by grind) (.inl (by omega))
  · intro h
    have h4 : ¬ (x < 0 ↔ y < 0) := by simpa using h
    constructor
    · rintro rfl
      by_cases hx : x < 0
      · have e1 : (x.natAbs : Int) = -x := by omega
        have e2 : (y.natAbs : Int) = y := by omega
        rw [e1, e2] at h1
        exact fdiv_of (by grind) (by omega)
      · have e1 : (x.natAbs : Int) = x := by omega
        have e2 : (y.natAbs : Int) = -y := by omega
        rw [e1, e2] at h1
        exact fdiv_of (by grind) (by omega)
    · intro hr
      by_cases hx : x < 0
      · have e1 : (x.natAbs : Int) = -x := by omega
        have e2 : (y.natAbs : Int) = y := by omega
        rw [e1, e2] at h1; rw [e2] at h3
        simp only [hx, if_true]
        exact fdiv_of (by grind) (.inl (by omega))
      · have e1 : (x.natAbs : Int) = x := by omega
        have e2 : (y.natAbs : Int) = -y := by omega
        rw [e1, e2] at h1; rw [e2] at h3
        simp only [hx, if_false]
        exact fdiv_of (by grind) (.inr (by omega))
theorem fdiv_le_abs (x y : Int) (hy : y ≠ 0) : (x.fdiv y).natAbs ≤ x.natAbs := by
  obtain ⟨h1, h2⟩ := fdiv_abs x y hy rfl rfl
  have h3 := Int.mul_ediv_add_emod (x.natAbs : Int) (y.natAbs : Int)
  have h4 : 0 ≤ (x.natAbs : Int) / (y.natAbs : Int) := Int.ediv_nonneg (by omega) (by omega)
  have h5 : (x.natAbs : Int) / (y.natAbs : Int) ≤ x.natAbs := Int.ediv_le_self _ (by omega)
  have h6 := Int.emod_nonneg (x.natAbs : Int) (show (y.natAbs : Int) ≠ 0 by omega)
  have h7 := Int.emod_lt_of_pos (x.natAbs : Int) (show 0 < (y.natAbs : Int) by omega)
  generalize hq : (x.natAbs : Int) / (y.natAbs : Int) = q at *
  generalize hr : (x.natAbs : Int) % (y.natAbs : Int) = r at *
  by_cases h : decide (x < 0) = decide (y < 0)
  · obtain ⟨e, _⟩ := h1 h; rw [e]; omega
  · by_cases hr0 : r = 0
    · obtain ⟨e, _⟩ := (h2 h).1 hr0; rw [e]; omega
    · obtain ⟨e, _⟩ := (h2 h).2 hr0; rw [e]
      have : q < x.natAbs := by
        have : 1 * q ≤ (y.natAbs : Int) * q := Int.mul_le_mul_of_nonneg_right (by omega) h4
        omega
      omega
theorem szDiv {n : Nat} {x y : Int} (a : Sz n x) : Sz n (x.fdiv y) := by
  by_cases hy : y = 0
  · subst hy; rw [Int.fdiv_zero]; exact a.abs (by simp)
  · exact a.abs (fdiv_le_abs x y hy)
theorem sz_emod {m n : Nat} {x y : Nat} (b : Sz n (y : Int)) (hy : 0 < y) : Sz n ((x : Int) % (y : Int)) := b.abs (by
  have := Int.emod_nonneg (x : Int) (show (y : Int) ≠ 0 by omega); have := Int.emod_lt_of_pos (x : Int) (show 0 < (y : Int) by omega); omega)
theorem integer_DivMod_eq {k : Nat} [F : Fuel k] {x y : Int} {m n : Nat} [a : Sz m x] [b : Sz n y] (hy : y ≠ 0) (h : m + n + 2 ≤ LM := by decide) :
    integer_DivMod k (I x) (I y) = some (I (x.fdiv y), I (x.fmod y), 0) := by
  have hlm := LM_val
  have ha := a.lim; have hb := b.lim
  unfold integer_DivMod
  simp only [I_neg, I_limbs]
  have hl := nat_pos_iff.2 hy
  have e0 : (((lim y.natAbs).length : Int) == 0) = false := beq_eq_false_iff_ne.2 (by omega)
  obtain ⟨q, r, hqr, q1, r1, q2, r2, q3, r3⟩ := divide_ok (k := k) (lim_dig x.natAbs) (lim_dig y.natAbs) (by rw [lim_val]; omega) (by omega) (by omega)
  rw [lim_val, lim_val] at q3 r3
  obtain ⟨f1, f2⟩ := fdiv_abs x y hy q3 r3
  rw [e0, cond_false, hqr, Option.bind_some]
  rw [signed_ok _ q1 (by omega), Option.bind_some, signed_ok _ r1 (by omega), Option.bind_some]
  have hr0 := val_nonneg r1
  have hrl : ∀ s : Bool, (((I (if s = true then -val r else val r)).limbs.length : Int) > 0) ↔ val r ≠ 0 := fun s => by
    have := @nat_pos_iff (if s = true then -val r else val r)
    have e : (if s = true then -val r else val r) ≠ 0 ↔ val r ≠ 0 := by cases s <;> simp
    rw [e] at this; rw [I_limbs]; omega
  by_cases h0 : val r = 0
  · rw [cdecF (p := (((I (if decide (x < 0) = true then -val r else val r)).limbs.length : Int) > 0)) (by rw [hrl]; simpa using h0), cond_false]
    by_cases hs : decide (x < 0) = decide (y < 0)
    · obtain ⟨g1, g2⟩ := f1 hs
      rw [g1, g2]
      simp [hs, h0]
    · obtain ⟨g1, g2⟩ := (f2 hs).1 h0
      rw [g1, g2]
      have : (!(decide (x < 0) == decide (y < 0))) = true := by simpa using hs
      simp [this, h0]
  · rw [cdec (p := (((I (if decide (x < 0) = true then -val r else val r)).limbs.length : Int) > 0)) (by rw [hrl]; exact h0), cond_true]
    have hsr : (if decide (x < 0) = true then -val r else val r) < 0 ↔ x < 0 := by
      by_cases hx : x < 0
      · simp [hx]; omega
      · simp [hx]; omega
    rw [I_neg, dec_congr hsr]
    by_cases hs : decide (x < 0) = decide (y < 0)
    · obtain ⟨g1, g2⟩ := f1 hs
      have hi : (x < 0) = (y < 0) := propext (by simpa using hs)
      rw [g1, g2]
      simp [hi]
    · obtain ⟨g1, g2⟩ := (f2 hs).2 h0
      have : (!(decide (x < 0) == decide (y < 0))) = true := by simpa using hs
      simp only [this, cond_true]
      rw [integer_FromInt64_eq (by omega) (by omega), Option.bind_some]
      have s1 : Sz m (-(val q)) := szNeg (a.abs (by
        rw [q3]
        have h4 : 0 ≤ (x.natAbs : Int) / (y.natAbs : Int) := Int.ediv_nonneg (by omega) (by omega)
        have h5 : (x.natAbs : Int) / (y.natAbs : Int) ≤ x.natAbs := Int.ediv_le_self _ (by omega)
        omega))
      have s2 : Sz 2 (1 : Int) := szSmall (by decide)
      have s3 : Sz n (val r) := by rw [r3]; exact sz_emod (m := 0) (b.abs (by simp)) (by omega)
      have s4 : Sz n (if decide (x < 0) = true then -val r else val r) := by split; exact szNeg s3; exact s3
      have t1 := integer_Sub_eq (k := k) (x := -(val q)) (y := 1) (a := s1) (b := s2) (by omega)
      have t2 := integer_Add_eq (k := k) (x := if decide (x < 0) = true then -val r else val r) (y := y) (a := s4) (b := b) (by omega)
      simp only [if_true]
      rw [t1, Option.bind_some, t2, Option.bind_some, g1, g2]
      simp
end Go.Proofs.YtbjkpogfgijmaaaGreat
