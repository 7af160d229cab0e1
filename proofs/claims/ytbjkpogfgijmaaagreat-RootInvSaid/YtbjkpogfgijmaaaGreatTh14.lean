/- Plain laws: the program's and the reference's fractions. -/
import Derived.Test.YtbjkpogfgijmaaaGreatTh13
namespace Go.Proofs.YtbjkpogfgijmaaaGreat
open Go
set_option linter.unusedVariables false
set_option linter.unusedSimpArgs false

/-! ### Signs and order -/
def sg (q : Rat) : Int := if q < 0 then -1 else if 0 < q then 1 else 0
def cmpQ (a b : Rat) : Int := if a < b then -1 else if b < a then 1 else 0
theorem num_neg_iff {q : Rat} : q.num < 0 ↔ q < 0 := by
  have := @Rat.num_nonneg q
  have h2 := @Rat.not_le 0 q
  constructor
  · intro h; apply h2.1; intro h3; have := this.2 h3; omega
  · intro h; rcases Int.lt_or_le q.num 0 with h3 | h3
    · exact h3
    · exact absurd (this.1 h3) (h2.2 h)
theorem num_pos_iff {q : Rat} : 0 < q.num ↔ 0 < q := by
  have h1 := @num_neg_iff q
  have h2 := @Rat.num_eq_zero q
  rw [Rat.lt_iff_le_and_ne, ← @Rat.num_nonneg q]
  constructor
  · intro h; exact ⟨by omega, fun e => by have := h2.2 e.symm; omega⟩
  · rintro ⟨h, e⟩
    have : q.num ≠ 0 := fun h3 => e (h2.1 h3).symm
    omega
theorem sg_num (q : Rat) : sgI q.num = sg q := by
  unfold sgI sg
  have h1 := @num_neg_iff q
  have h2 := @num_pos_iff q
  simp only [h1, gt_iff_lt, h2]
theorem sg_zero {q : Rat} : sg q = 0 ↔ q = 0 := by unfold sg; grind
theorem sg_neg {q : Rat} : sg q < 0 ↔ q < 0 := by unfold sg; grind
theorem sg_pos {q : Rat} : 0 < sg q ↔ 0 < q := by unfold sg; grind
theorem cmpQ_num (a b : Rat) : cmpI (a.num * b.den) (b.num * a.den) = cmpQ a b := by
  unfold cmpI cmpQ
  simp only [Rat.lt_iff a b, Rat.lt_iff b a, gt_iff_lt]
theorem cmpQ_zero {a b : Rat} : cmpQ a b = 0 ↔ a = b := by unfold cmpQ; grind
theorem cmpQ_neg {a b : Rat} : cmpQ a b < 0 ↔ a < b := by unfold cmpQ; grind
theorem cmpQ_pos {a b : Rat} : 0 < cmpQ a b ↔ b < a := by unfold cmpQ; grind

section
variable {k : Nat} [F : Fuel k] {a b : Rat} {m n : Nat}
/-! ### The program -/
omit [F : Fuel k] in
theorem qSign : rational_Sign k (Q a) = some (sg a) := by
  unfold rational_Sign
  rw [Q_num, integer_Sign_eq, Option.bind_some, sg_num]
theorem qNeg [x : Rz n a] (h : n ≤ LM) : rational_Neg k (Q a) = some (Q (-a)) := by
  unfold rational_Neg
  rw [Q_num, integer_Neg_eq h, Option.bind_some]; rfl
theorem qMul [x : Rz m a] [y : Rz n b] (h : 4 * (m + n) + 30 ≤ LM) : rational_Mul k (Q a) (Q b) = some (Q (a * b)) := by
  unfold rational_Mul
  have s1 := szMul x.num y.num
  have s2 := szMul x.den y.den
  rw [Q_num, Q_num, Q_den, Q_den, integer_Mul_eq (by omega), Option.bind_some, integer_Mul_eq (by omega), Option.bind_some, rational_reduce_eq (Int.mul_ne_zero (by have := den_pos a; omega) (by have := den_pos b; omega)) (by omega), Option.bind_some, ← mul_divInt]
theorem add_same_den {a b : Rat} (h : (a.den : Int) = b.den) : Rat.divInt (a.num + b.num) a.den = a + b := by
  rw [add_divInt]
  have ha := den_pos a
  rw [Rat.divInt_eq_divInt_iff (by omega) (by exact Int.ne_of_gt (Int.mul_pos (by omega) (by omega)))]
  rw [← h]; grind
theorem qAdd [x : Rz m a] [y : Rz n b] (h : 4 * (m + n) + 40 ≤ LM) : rational_Add k (Q a) (Q b) = some (Q (a + b)) := by
  unfold rational_Add
  have ha := den_pos a
  have hb := den_pos b
  rw [Q_num, Q_num, Q_den, Q_den, integer_Cmp_eq (by omega) (by omega), Option.bind_some]
  by_cases hd : (a.den : Int) = b.den
  · have e : (cmpI (a.den : Int) (b.den : Int) == 0) = true := by rw [cmpI_eq_zero.2 hd]; rfl
    have s1 := szAdd x.num y.num
    rw [e, cond_true, integer_Add_eq (by omega), Option.bind_some, rational_reduce_eq (by omega) (by omega), Option.bind_some, add_same_den hd]
  · have e : (cmpI (a.den : Int) (b.den : Int) == 0) = false := beq_eq_false_iff_ne.2 fun h => hd (cmpI_eq_zero.1 h)
    have s1 := szMul x.num y.den
    have s2 := szMul y.num x.den
    have s3 := szAdd s1 s2
    have s4 := szMul x.den y.den
    rw [e, cond_false, integer_Mul_eq (by omega), Option.bind_some, integer_Mul_eq (by omega), Option.bind_some, integer_Add_eq (by omega), Option.bind_some, integer_Mul_eq (by omega), Option.bind_some,
      rational_reduce_eq (Int.mul_ne_zero (by omega) (by omega)) (by omega), Option.bind_some, ← add_divInt]
theorem qSub [x : Rz m a] [y : Rz n b] (h : 4 * (m + n) + 40 ≤ LM) : rational_Sub k (Q a) (Q b) = some (Q (a - b)) := by
  unfold rational_Sub
  have y' := rzNeg y
  rw [qNeg (by omega), Option.bind_some, qAdd h, Option.bind_some, Rat.sub_eq_add_neg]
def zR : RatD := ⟨⟨false, []⟩, ⟨false, []⟩⟩
theorem qDiv [x : Rz m a] [y : Rz n b] (h : 4 * (m + n) + 40 ≤ LM) : rational_Div k (Q a) (Q b) = some (if b = 0 then (zR, 6) else (Q (a / b), 0)) := by
  unfold rational_Div
  rw [qSign, Option.bind_some]
  by_cases hb : b = 0
  · have e : (sg b == 0) = true := by rw [sg_zero.2 hb]; rfl
    rw [e, cond_true, if_pos hb]; rfl
  · have e : (sg b == 0) = false := beq_eq_false_iff_ne.2 fun h => hb (sg_zero.1 h)
    have hn : b.num ≠ 0 := fun h => hb (Rat.num_eq_zero.1 h)
    have s1 := szMul x.num y.den
    have s2 := szMul x.den y.num
    rw [e, cond_false, if_neg hb, Q_num, Q_num, Q_den, Q_den, integer_Mul_eq (by omega), Option.bind_some, integer_Mul_eq (by omega), Option.bind_some, rational_reduce_eq (Int.mul_ne_zero (by have := den_pos a; omega) hn) (by omega), Option.bind_some, ← div_divInt a b hb]
omit [F : Fuel k] in
theorem isNaN_ok (x : Int) : cmp_isNaN k x = some false := by unfold cmp_isNaN; simp
omit [F : Fuel k] in
theorem compare_eq (x y : Int) : cmp_Compare k x y = some (cmpI x y) := by
  unfold cmp_Compare
  rw [isNaN_ok, isNaN_ok, Option.bind_some, Option.bind_some, cond_false, cond_false]
  unfold cmpI
  by_cases h1 : x < y
  · rw [cdec h1, cond_true, if_pos h1]
  · rw [cdecF h1, cond_false, if_neg h1]
    by_cases h2 : x > y
    · rw [cdec h2, cond_true, if_pos h2]
    · rw [cdecF h2, cond_false, if_neg h2]
theorem qCmp [x : Rz m a] [y : Rz n b] (h : m + n ≤ LM) : rational_Cmp k (Q a) (Q b) = some (cmpQ a b) := by
  unfold rational_Cmp
  rw [qSign, Option.bind_some, qSign, Option.bind_some, compare_eq, Option.bind_some]
  by_cases hc : cmpI (sg a) (sg b) = 0
  · rw [hc]
    have s1 := szMul x.num y.den
    have s2 := szMul y.num x.den
    show ((integer_Mul k (I a.num) (I b.den)).bind _) = _
    rw [integer_Mul_eq (by omega), Option.bind_some]
    show ((integer_Mul k (I b.num) (I a.den)).bind _) = _
    rw [integer_Mul_eq (by omega), Option.bind_some, integer_Cmp_eq (by omega) (by omega), Option.bind_some, cmpQ_num]
  · have e : (cmpI (sg a) (sg b) != 0) = true := by simpa using hc
    rw [e, cond_true]
    congr 1
    unfold cmpI cmpQ sg at *
    grind
theorem qFrom {z : Int} (h0 : -9223372036854775808 ≤ z) (h1 : z < 9223372036854775808) : rational_FromInt64 k z = some (Q (z : Rat)) := by
  unfold rational_FromInt64 rational_whole
  rw [integer_FromInt64_eq h0 h1, Option.bind_some, unit_ok, Option.bind_some, Option.bind_some]; rfl
theorem qFrac {n d : Int} (h0 : -9223372036854775808 ≤ n) (h1 : n < 9223372036854775808) (h2 : -9223372036854775808 ≤ d) (h3 : d < 9223372036854775808) (hd : d ≠ 0) : rational_Frac k n d = some (Q (Rat.divInt n d)) := by
  unfold rational_Frac
  have s1 : Sz 3 n := Sz.of (by simp [bp]; omega)
  have s2 : Sz 3 d := Sz.of (by simp [bp]; omega)
  rw [beq_eq_false_iff_ne.2 hd, cond_false, integer_FromInt64_eq h0 h1, Option.bind_some, integer_FromInt64_eq h2 h3, Option.bind_some, rational_reduce_eq hd (by decide), Option.bind_some]
theorem qFloor [x : Rz n a] (h : 2 * n + 2 ≤ LM) : rational_Floor k (Q a) = some (I a.floor) := by
  unfold rational_Floor
  have ha := den_pos a
  rw [Q_num, Q_den, integer_DivMod_eq (by omega) (by omega), Option.bind_some, Rat.floor_def, Int.fdiv_eq_ediv_of_nonneg _ (by omega)]
theorem qMake {x y : Int} [u : Sz m x] [v : Sz n y] (h : 2 * (m + n) + 20 ≤ LM) : rational_Make k (I x) (I y) = some (if y = 0 then (zR, 6) else (Q (Rat.divInt x y), 0)) := by
  unfold rational_Make
  rw [integer_Sign_eq, Option.bind_some]
  by_cases hy : y = 0
  · subst hy; rfl
  · have e : (sgI y == 0) = false := beq_eq_false_iff_ne.2 (by unfold sgI; split <;> (try split) <;> omega)
    rw [e, cond_false, if_neg hy, rational_reduce_eq hy h, Option.bind_some]

/-! ### The reference -/
omit [F : Fuel k] in
theorem rQSign : swarfref02_Sign k (Q a) = some (sg a) := by
  unfold swarfref02_Sign
  rw [Q_num, rSign_eq, Option.bind_some, sg_num]
theorem rQNeg [x : Rz n a] (h : n ≤ LM) : swarfref02_Neg k (Q a) = some (Q (-a)) := by
  unfold swarfref02_Neg
  rw [Q_num, rNeg_eq h, Option.bind_some]; rfl
theorem rQMul [x : Rz m a] [y : Rz n b] (h : 4 * (m + n) + 30 ≤ LM) : swarfref02_Mul k (Q a) (Q b) = some (Q (a * b)) := by
  unfold swarfref02_Mul
  have s1 := szMul x.num y.num
  have s2 := szMul x.den y.den
  rw [Q_num, Q_num, Q_den, Q_den, rMul_eq (by omega), Option.bind_some, rMul_eq (by omega), Option.bind_some, rOf_eq (Int.mul_ne_zero (by have := den_pos a; omega) (by have := den_pos b; omega)) (by omega), Option.bind_some, ← mul_divInt]
theorem rQAdd [x : Rz m a] [y : Rz n b] (h : 4 * (m + n) + 40 ≤ LM) : swarfref02_Add k (Q a) (Q b) = some (Q (a + b)) := by
  unfold swarfref02_Add
  have s1 := szMul x.num y.den
  have s2 := szMul y.num x.den
  have s3 := szAdd s1 s2
  have s4 := szMul x.den y.den
  rw [Q_num, Q_num, Q_den, Q_den, rMul_eq (by omega), Option.bind_some, rMul_eq (by omega), Option.bind_some, rAdd_eq (by omega), Option.bind_some, rMul_eq (by omega), Option.bind_some,
    rOf_eq (Int.mul_ne_zero (by have := den_pos a; omega) (by have := den_pos b; omega)) (by omega), Option.bind_some, ← add_divInt]
theorem rQSub [x : Rz m a] [y : Rz n b] (h : 4 * (m + n) + 40 ≤ LM) : swarfref02_Sub k (Q a) (Q b) = some (Q (a - b)) := by
  unfold swarfref02_Sub
  have y' := rzNeg y
  rw [rQNeg (by omega), Option.bind_some, rQAdd h, Option.bind_some, Rat.sub_eq_add_neg]
theorem rQCmp [x : Rz m a] [y : Rz n b] (h : m + n ≤ LM) : swarfref02_Cmp k (Q a) (Q b) = some (cmpQ a b) := by
  unfold swarfref02_Cmp
  have s1 := szMul x.num y.den
  have s2 := szMul y.num x.den
  rw [Q_num, Q_num, Q_den, Q_den, rMul_eq (by omega), Option.bind_some, rMul_eq (by omega), Option.bind_some, rCmp_eq (by omega) (by omega), Option.bind_some, cmpQ_num]
theorem runit_ok : swarfref02_unit k = some (I 1) := by
  unfold swarfref02_unit
  rw [rFromInt64_eq (by omega) (by omega)]; rfl
theorem rQFrom {z : Int} (h0 : -9223372036854775808 ≤ z) (h1 : z < 9223372036854775808) : swarfref02_FromInt64 k z = some (Q (z : Rat)) := by
  unfold swarfref02_FromInt64
  rw [rFromInt64_eq h0 h1, Option.bind_some, runit_ok, Option.bind_some]; rfl
theorem rQFromInt {z : Int} : swarfref02_FromInt k (I z) = some (Q (z : Rat)) := by
  unfold swarfref02_FromInt
  rw [runit_ok, Option.bind_some]; rfl
theorem rQFrac {n d : Int} (h0 : -9223372036854775808 ≤ n) (h1 : n < 9223372036854775808) (h2 : -9223372036854775808 ≤ d) (h3 : d < 9223372036854775808) (hd : d ≠ 0) : swarfref02_Frac k n d = some (Q (Rat.divInt n d)) := by
  unfold swarfref02_Frac
  have s1 : Sz 3 n := Sz.of (by simp [bp]; omega)
  have s2 : Sz 3 d := Sz.of (by simp [bp]; omega)
  rw [beq_eq_false_iff_ne.2 hd, cond_false, rFromInt64_eq h0 h1, Option.bind_some, rFromInt64_eq h2 h3, Option.bind_some, rOf_eq hd (by decide), Option.bind_some]
theorem rQMake {x y : Int} [u : Sz m x] [v : Sz n y] (h : 2 * (m + n) + 20 ≤ LM) : swarfref02_Make k (I x) (I y) = some (if y = 0 then (zR, 6) else (Q (Rat.divInt x y), 0)) := by
  unfold swarfref02_Make
  rw [rSign_eq, Option.bind_some]
  by_cases hy : y = 0
  · subst hy; rfl
  · have e : (sgI y == 0) = false := beq_eq_false_iff_ne.2 (by unfold sgI; split <;> (try split) <;> omega)
    rw [e, cond_false, if_neg hy, rOf_eq hy h, Option.bind_some]
theorem rQDiv [x : Rz m a] [y : Rz n b] (h : 4 * (m + n) + 40 ≤ LM) : swarfref02_Div k (Q a) (Q b) = some (if b = 0 then (zR, 6) else (Q (a / b), 0)) := by
  unfold swarfref02_Div
  have s1 := szMul x.num y.den
  have s2 := szMul x.den y.num
  rw [Q_num, Q_num, Q_den, Q_den, rMul_eq (by omega), Option.bind_some, rMul_eq (by omega), Option.bind_some, rQMake (by omega), Option.bind_some]
  by_cases hb : b = 0
  · subst hb; simp
  · have hn : b.num ≠ 0 := fun h => hb (Rat.num_eq_zero.1 h)
    have hd : (a.den : Int) * b.num ≠ 0 := Int.mul_ne_zero (by have := den_pos a; omega) hn
    rw [if_neg hd, if_neg hb, ← div_divInt a b hb]
theorem rQOver [x : Rz m a] [y : Rz n b] (h : 4 * (m + n) + 40 ≤ LM) (hb : b ≠ 0) : swarfref02_Over k (Q a) (Q b) = some (Q (a / b)) := by
  unfold swarfref02_Over
  rw [rQDiv h, if_neg hb]; rfl
theorem rQFloor [x : Rz n a] (h : 2 * n + 10 ≤ LM) : swarfref02_Floor k (Q a) = some (I a.floor) := by
  unfold swarfref02_Floor
  have ha := den_pos a
  rw [Q_num, Q_den, rDivMod_eq (by omega) (by omega), Option.bind_some, Rat.floor_def, Int.fdiv_eq_ediv_of_nonneg _ (by omega)]

/-! ### Equal data -/
theorem rQSame (x y : RatD) (h1 : x.num.limbs.length ≤ LM) (h2 : x.den.limbs.length ≤ LM) : ∃ t, swarfref02_Same k x y = some t ∧ (t = true ↔ x = y) := by
  unfold swarfref02_Same
  obtain ⟨t1, e1, f1⟩ := rSame_iff (k := k) x.num y.num h1
  obtain ⟨t2, e2, f2⟩ := rSame_iff (k := k) x.den y.den h2
  rw [e1, Option.bind_some]
  cases t1 with
  | true =>
    rw [cond_true, e2]
    refine ⟨t2, rfl, f2.trans ⟨fun h => ?_, fun h => by rw [h]⟩⟩
    cases x; cases y; simp at f1 h ⊢; exact ⟨f1, h⟩
  | false =>
    rw [cond_false]
    refine ⟨false, rfl, by simp; intro h; have := f1.2 (by rw [h]); simp at this⟩
theorem rQSame_self (x : RatD) (h1 : x.num.limbs.length ≤ LM) (h2 : x.den.limbs.length ≤ LM) : swarfref02_Same k x x = some true := by
  obtain ⟨t, h, e⟩ := rQSame (k := k) x x h1 h2
  rw [h, e.2 rfl]
end
end Go.Proofs.YtbjkpogfgijmaaaGreat
