/- Plain laws: fractions. -/
import Derived.Test.YtbjkpogfgijmaaaGreatTh12
import Derived.Test.YtbjkpogfgijmaaaGreatRow1
namespace Go.Proofs.YtbjkpogfgijmaaaGreat
open Go
set_option linter.unusedVariables false
set_option linter.unusedSimpArgs false

/-! ### Fractions as data -/
def Q (q : Rat) : RatD := ⟨I q.num, I q.den⟩
theorem Q_inj {a b : Rat} (h : Q a = Q b) : a = b := by
  have h1 := I_inj (congrArg RatD.num h)
  have h2 := I_inj (congrArg RatD.den h)
  exact Rat.ext h1 (by have : (a.den : Int) = b.den := h2; omega)
theorem Q_num (q : Rat) : (Q q).num = I q.num := rfl
theorem Q_den (q : Rat) : (Q q).den = I q.den := rfl
theorem den_pos (q : Rat) : 0 < (q.den : Int) := by have := q.den_pos; omega
/-- How many limbs the parts have at most. -/
class Rz (n : outParam Nat) (q : Rat) : Prop where
  num : Sz n q.num
  den : Sz n (q.den : Int)
instance instNum {n : Nat} {q : Rat} [a : Rz n q] : Sz n q.num := a.num
instance instDen {n : Nat} {q : Rat} [a : Rz n q] : Sz n (q.den : Int) := a.den
theorem Rz.mono {m n : Nat} {q : Rat} (a : Rz m q) (h : m ≤ n) : Rz n q := ⟨a.num.mono h, a.den.mono h⟩
/-- A quotient of whole numbers is as short as they are. -/
theorem num_div_le (n d : Int) (hd : d ≠ 0) : (Rat.divInt n d).num.natAbs ≤ n.natAbs ∧ (Rat.divInt n d).den ≤ d.natAbs := by
  rw [Rat.num_divInt, Rat.den_divInt, if_neg hd]
  have hg : 0 < Int.gcd d n := Int.gcd_pos_of_ne_zero_left n hd
  constructor
  · have h1 : (d.sign * n).natAbs = n.natAbs := by rw [Int.natAbs_mul, Int.natAbs_sign_of_ne_zero hd, Nat.one_mul]
    rw [Int.natAbs_ediv_of_dvd, h1]
    · exact Nat.div_le_self _ _
    · exact Int.dvd_mul_of_dvd_right (Int.gcd_dvd_right d n)
  · exact Nat.div_le_self _ _
theorem rzDiv {m k : Nat} {n d : Int} (a : Sz m n) (b : Sz k d) (hd : d ≠ 0) : Rz (max m k) (Rat.divInt n d) := by
  obtain ⟨h1, h2⟩ := num_div_le n d hd
  exact ⟨(a.abs h1).mono (by omega), (b.abs (by rw [Int.natAbs_natCast]; exact h2)).mono (by omega)⟩
theorem add_divInt (a b : Rat) : a + b = Rat.divInt (a.num * b.den + b.num * a.den) (a.den * b.den) := by
  have := Rat.divInt_add_divInt a.num b.num (d₁ := a.den) (d₂ := b.den) (by have := den_pos a; omega) (by have := den_pos b; omega)
  rw [Rat.num_divInt_den, Rat.num_divInt_den] at this
  exact this
theorem mul_divInt (a b : Rat) : a * b = Rat.divInt (a.num * b.num) (a.den * b.den) := by
  have := Rat.divInt_mul_divInt a.num b.num (d₁ := a.den) (d₂ := b.den)
  rw [Rat.num_divInt_den, Rat.num_divInt_den] at this
  exact this
theorem div_divInt (a b : Rat) (hb : b ≠ 0) : a / b = Rat.divInt (a.num * b.den) (a.den * b.num) := by
  rw [Rat.div_def, Rat.inv_def]
  have := Rat.divInt_mul_divInt a.num (b.den : Int) (d₁ := a.den) (d₂ := b.num)
  rw [Rat.num_divInt_den] at this
  exact this
theorem rzAdd {m n : Nat} {a b : Rat} (x : Rz m a) (y : Rz n b) : Rz (m + n + 1) (a + b) := by
  rw [add_divInt]
  have h1 := szAdd (szMul x.num y.den) (szMul y.num x.den)
  have h2 := szMul x.den y.den
  exact (rzDiv h1 h2 (by have := den_pos a; have := den_pos b; exact Int.ne_of_gt (Int.mul_pos (by omega) (by omega)))).mono (by omega)
theorem rzMul {m n : Nat} {a b : Rat} (x : Rz m a) (y : Rz n b) : Rz (m + n) (a * b) := by
  rw [mul_divInt]
  exact (rzDiv (szMul x.num y.num) (szMul x.den y.den) (by have := den_pos a; have := den_pos b; exact Int.ne_of_gt (Int.mul_pos (by omega) (by omega)))).mono (by omega)
theorem rzNeg {n : Nat} {a : Rat} (x : Rz n a) : Rz n (-a) := ⟨by rw [Rat.neg_num]; exact szNeg x.num, by rw [Rat.neg_den]; exact x.den⟩
theorem rzSub {m n : Nat} {a b : Rat} (x : Rz m a) (y : Rz n b) : Rz (m + n + 1) (a - b) := by rw [Rat.sub_eq_add_neg]; exact rzAdd x (rzNeg y)
theorem rzQuo {m n : Nat} {a b : Rat} (x : Rz m a) (y : Rz n b) : Rz (m + n) (a / b) := by
  by_cases hb : b = 0
  · subst hb
    rw [Rat.div_def, Rat.inv_zero, Rat.mul_zero]
    exact ⟨Sz.of (by have := bp_pos (m + n); simp; omega), Sz.of (by
      have h1 := x.den.lt; have h2 := bp_mono (show m ≤ m + n by omega)
      have := den_pos a
      rw [Rat.zero_den]; simp at h1 ⊢; omega)⟩
  · rw [div_divInt a b hb]
    have hn : b.num ≠ 0 := fun h => hb (Rat.num_eq_zero.1 h)
    exact (rzDiv (szMul x.num y.den) (szMul x.den y.num) (Int.mul_ne_zero (by have := den_pos a; omega) hn)).mono (by omega)
theorem rzInt {z : Int} {n : Nat} (h : z.natAbs < n) (hn : 1 < n) : Rz n (z : Rat) := ⟨szSmall (by rw [Rat.num_intCast]; exact h), szSmall (by rw [Rat.den_intCast]; simp; omega)⟩
theorem rzOfInt {z : Int} {n : Nat} (h : Sz n z) : Rz (n + 2) (z : Rat) := ⟨(show Sz n (z : Rat).num by rw [Rat.num_intCast]; exact h).mono (by omega), (szSmall (n := 2) (by rw [Rat.den_intCast]; decide)).mono (by omega)⟩

/-! ### Reduction -/
theorem neg_gcd_eq (n d : Int) : Int.gcd (-n) (-d) = Int.gcd n d := by rw [Int.neg_gcd, Int.gcd_neg]
theorem fdiv_gcd_pos {n d : Int} (hd : 0 < d) : n.fdiv (Int.gcd n d : Nat) = (Rat.divInt n d).num ∧ d.fdiv (Int.gcd n d : Nat) = (Rat.divInt n d).den := by
  have hg : 0 < Int.gcd d n := Int.gcd_pos_of_ne_zero_left n (by omega)
  rw [Rat.num_divInt, Rat.den_divInt, if_neg (by omega), Int.gcd_comm n d, Int.sign_eq_one_of_pos hd, Int.one_mul]
  constructor
  · rw [Int.fdiv_eq_ediv_of_nonneg _ (by omega)]
  · rw [Int.fdiv_eq_ediv_of_nonneg _ (by omega), Int.natCast_ediv]
    congr 1; omega
theorem gcd_szl {m : Nat} {n d : Int} (b : Sz m d) (hd : d ≠ 0) : Sz m ((Int.gcd n d : Nat) : Int) := b.abs (by
  rw [Int.natAbs_natCast]; exact Nat.le_of_dvd (by omega) (Nat.gcd_dvd_right _ _))
theorem gcd_one_self {n d : Int} (hd : 0 < d) (h : Int.gcd n d = 1) : n = (Rat.divInt n d).num ∧ d = (Rat.divInt n d).den := by
  obtain ⟨h1, h2⟩ := fdiv_gcd_pos (n := n) hd
  rw [h] at h1 h2
  rw [← h1, ← h2]
  exact ⟨by simp, by simp⟩
theorem unit_ok {k : Nat} [F : Fuel k] : rational_unit k = some (I 1) := by
  unfold rational_unit
  rw [integer_FromInt64_eq (by omega) (by omega)]; rfl
theorem reduce_pos {k : Nat} [F : Fuel k] {n d : Int} {m p : Nat} [a : Sz m n] [b : Sz p d] (hd : 0 < d) (h : 2 * (m + p) + 20 ≤ LM) :
    ((integer_GCD k (I n) (I d)).bind fun x9 =>
    (rational_unit k).bind fun x10 =>
    (integer_Cmp k x9 x10).bind fun x11 =>
    bif x11 != 0 then
      (rational_exact k (I n) x9).bind fun x12 =>
      (rational_exact k (I d) x9).bind fun x13 =>
      some (⟨x12, x13⟩ : RatD)
    else
      some (⟨I n, I d⟩ : RatD)) = some (Q (Rat.divInt n d)) := by
  have s1 : Sz p ((Int.gcd n d : Nat) : Int) := gcd_szl b (by omega)
  have s2 : Sz 2 (1 : Int) := szSmall (by decide)
  rw [integer_GCD_eq (by omega), Option.bind_some, unit_ok, Option.bind_some, integer_Cmp_eq (by omega) (by omega), Option.bind_some]
  have hg0 : ((Int.gcd n d : Nat) : Int) ≠ 0 := by
    have : 0 < Int.gcd n d := Int.gcd_pos_of_ne_zero_right n (by omega)
    omega
  by_cases hg : Int.gcd n d = 1
  · have e1 : cmpI ((Int.gcd n d : Nat) : Int) 1 = 0 := cmpI_eq_zero.2 (by omega)
    obtain ⟨h1, h2⟩ := gcd_one_self hd hg
    rw [e1]
    show some (⟨I n, I d⟩ : RatD) = _
    unfold Q
    rw [← h1, ← h2]
  · have e1 : (cmpI ((Int.gcd n d : Nat) : Int) 1 != 0) = true := by
      have : cmpI ((Int.gcd n d : Nat) : Int) 1 ≠ 0 := fun h => hg (by have := cmpI_eq_zero.1 h; omega)
      simpa using this
    rw [e1, cond_true]
    unfold rational_exact
    rw [integer_DivMod_eq hg0 (by omega), Option.bind_some, Option.bind_some, integer_DivMod_eq hg0 (by omega), Option.bind_some, Option.bind_some]
    obtain ⟨h1, h2⟩ := fdiv_gcd_pos (n := n) hd
    unfold Q
    dsimp only
    rw [h1, h2]
theorem rational_reduce_eq {k : Nat} [F : Fuel k] {n d : Int} {m p : Nat} [a : Sz m n] [b : Sz p d] (hd : d ≠ 0) (h : 2 * (m + p) + 20 ≤ LM := by decide) :
    rational_reduce k (I n) (I d) = some (Q (Rat.divInt n d)) := by
  unfold rational_reduce
  rw [integer_Sign_eq, Option.bind_some]
  by_cases hneg : d < 0
  · have e1 : decide (sgI d < 0) = true := by simp [sgI, hneg]
    have a' : Sz m (-n) := szNeg a
    have b' : Sz p (-d) := szNeg b
    rw [e1, cond_true, integer_Neg_eq (by omega), Option.bind_some, integer_Neg_eq (by omega), Option.bind_some, reduce_pos (by omega) h, Rat.neg_divInt_neg]
  · have e1 : decide (sgI d < 0) = false := by
      have : d > 0 := by omega
      simp [sgI, hneg, this]
    rw [e1, cond_false, reduce_pos (by omega) h]
theorem rOf_pos {k : Nat} [F : Fuel k] {n d : Int} {m p : Nat} [a : Sz m n] [b : Sz p d] (hd : 0 < d) (h : 2 * (m + p) + 20 ≤ LM) :
    ((swarfref01_GCD k (I n) (I d)).bind fun x7 =>
    (swarfref01_DivMod k (I n) x7).bind fun x8 =>
    (swarfref01_DivMod k (I d) x7).bind fun x9 =>
    some (⟨x8.1, x9.1⟩ : RatD)) = some (Q (Rat.divInt n d)) := by
  have s1 : Sz p ((Int.gcd n d : Nat) : Int) := gcd_szl b (by omega)
  have hg0 : ((Int.gcd n d : Nat) : Int) ≠ 0 := by
    have : 0 < Int.gcd n d := Int.gcd_pos_of_ne_zero_right n (by omega)
    omega
  rw [rGCD_eq (by omega), Option.bind_some, rDivMod_eq hg0 (by omega), Option.bind_some, rDivMod_eq hg0 (by omega), Option.bind_some]
  obtain ⟨h1, h2⟩ := fdiv_gcd_pos (n := n) hd
  unfold Q
  dsimp only
  rw [h1, h2]
theorem rOf_eq {k : Nat} [F : Fuel k] {n d : Int} {m p : Nat} [a : Sz m n] [b : Sz p d] (hd : d ≠ 0) (h : 2 * (m + p) + 20 ≤ LM := by decide) :
    swarfref02_Of k (I n) (I d) = some (Q (Rat.divInt n d)) := by
  unfold swarfref02_Of
  rw [rSign_eq, Option.bind_some]
  by_cases hneg : d < 0
  · have e1 : decide (sgI d < 0) = true := by simp [sgI, hneg]
    have a' : Sz m (-n) := szNeg a
    have b' : Sz p (-d) := szNeg b
    rw [e1, cond_true, rNeg_eq (by omega), Option.bind_some, rNeg_eq (by omega), Option.bind_some, rOf_pos (by omega) h, Rat.neg_divInt_neg]
  · have e1 : decide (sgI d < 0) = false := by
      have : d > 0 := by omega
      simp [sgI, hneg, this]
    rw [e1, cond_false, rOf_pos (by omega) h]
end Go.Proofs.YtbjkpogfgijmaaaGreat
