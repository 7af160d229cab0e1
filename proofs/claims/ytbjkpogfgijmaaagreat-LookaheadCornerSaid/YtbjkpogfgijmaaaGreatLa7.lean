/- Plain laws: the greatest speed at a corner (chapter 48). -/
import Derived.Test.YtbjkpogfgijmaaaGreatLa4
namespace Go.Proofs.YtbjkpogfgijmaaaGreat
open Go
set_option linter.unusedVariables false
set_option linter.unusedSimpArgs false

theorem isSq_inv {c : Rat} (hc : 0 < c) (h : IsSq c) : IsSq (1 / c) ∧ rsq (1 / c) = rsq c / c := by
  have h1 := rsq_nonneg h
  have h2 := rsq_sq h
  refine rsq_eq ?_ ?_
  · generalize rsq c = s at *
    have := Rat.inv_pos.2 hc
    have := Rat.mul_nonneg h1 (Rat.le_of_lt this)
    rw [Rat.div_def]; exact this
  · generalize rsq c = s at *
    grind
theorem not_isSq_inv {c : Rat} (hc : 0 < c) (h : ¬ IsSq c) : ¬ IsSq (1 / c) := by
  intro g
  have h1 : (0 : Rat) < 1 / c := by rw [Rat.div_def, Rat.one_mul]; exact Rat.inv_pos.2 hc
  have := (isSq_inv h1 g).1
  have e : 1 / (1 / c) = c := by grind
  rw [e] at this
  exact h this
theorem corner_sign {a b c q w : Rat} (hc : 0 < c) : sgR (addR (scale (mk a b c) q) (rat (-w))) = sgR (mk (q * a - w) (b * c * q) (1 / c)) := by
  by_cases hs : IsSq c
  · obtain ⟨g1, g2⟩ := isSq_inv hc hs
    have h2 := rsq_sq hs
    have e1 : mk a b c = rat (a + b * rsq c) := by unfold mk; rw [if_pos hs]
    have e2 : mk (q * a - w) (b * c * q) (1 / c) = rat (q * a - w + b * c * q * rsq (1 / c)) := by unfold mk; rw [if_pos g1]
    have e3 : scale (rat (a + b * rsq c)) q = rat ((a + b * rsq c) * q) := by
      unfold scale red rat; simp only [Rat.zero_mul, if_true]
    have e4 : ∀ x y : Rat, addR (rat x) (rat y) = rat (x + y) := by
      intro x y; unfold addR red rat; simp only [Rat.add_zero, if_true]
    rw [e1, e2, e3, e4, g2]
    generalize rsq c = s at *
    congr 2
    grind
  · have g := not_isSq_inv hc hs
    have e2 : mk (q * a - w) (b * c * q) (1 / c) = red (q * a - w) (b * c * q) (1 / c) := by unfold mk red; rw [if_neg g]
    have e1 : mk a b c = red a b c := by unfold mk red; rw [if_neg hs]
    rw [e1, e2]
    by_cases hb : b = 0
    · subst hb
      have e3 : red a 0 c = rat a := by unfold red; rw [if_pos rfl]
      have e4 : scale (rat a) q = rat (a * q) := by unfold scale red rat; simp only [Rat.zero_mul, if_true]
      have e5 : addR (rat (a * q)) (rat (-w)) = rat (a * q + -w) := by unfold addR red rat; simp only [Rat.add_zero, if_true]
      have e6 : red (q * a - w) (0 * c * q) (1 / c) = rat (q * a - w) := by unfold red; rw [if_pos (by grind)]
      rw [e3, e4, e5, e6]
      congr 2
      grind
    · have e3 : red a b c = ⟨a, b, c⟩ := by unfold red; rw [if_neg hb]
      rw [e3]
      by_cases hq : q = 0
      · subst hq
        have e4 : scale ⟨a, b, c⟩ 0 = rat 0 := by unfold scale red; simp only [Rat.mul_zero, if_true]
        have e5 : addR (rat 0) (rat (-w)) = rat (0 + -w) := by unfold addR red rat; simp only [Rat.add_zero, if_true]
        have e6 : red (0 * a - w) (b * c * 0) (1 / c) = rat (0 * a - w) := by unfold red; rw [if_pos (by grind)]
        rw [e4, e5, e6]
        congr 2
        grind
      · have hbq : b * q ≠ 0 := by grind
        have hbcq : b * c * q ≠ 0 := by grind
        have e4 : scale ⟨a, b, c⟩ q = ⟨a * q, b * q, c⟩ := by unfold scale red; simp only []; rw [if_neg hbq]
        have e5 : addR ⟨a * q, b * q, c⟩ (rat (-w)) = ⟨a * q + -w, b * q + 0, c⟩ := by
          unfold addR red com rat; simp only []; rw [if_neg (by grind), if_neg hbq]
        have e6 : red (q * a - w) (b * c * q) (1 / c) = ⟨q * a - w, b * c * q, 1 / c⟩ := by unfold red; rw [if_neg hbcq]
        rw [e4, e5, e6]
        unfold sgR norm
        simp only []
        have k1 : a * q + -w = q * a - w := by grind
        have k2 : b * q + 0 = b * q := by grind
        have k3 : sg (b * q) = sg (b * c * q) := by
          have : b * c * q = b * q * c := by grind
          rw [this, sg_mul (b * q) c]
          have : sg c = 1 := by unfold sg; grind
          rw [this]; omega
        have k4 : b * q * (b * q) * c = b * c * q * (b * c * q) * (1 / c) := by grind
        rw [k1, k2, k3, k4, if_neg hbq, if_neg hbcq]
/-- Whether a velocity's change is allowed. -/
def alw (v x y m n ch : Int) (s : Rt → Int) (r : Rat → Rat → Rat → Rt) : Int :=
  s (r ((v : Rat) * v * (((x * x : Int) : Rat) / m + ((y * y : Int) : Rat) / n) - (ch : Rat) * ch) ((-2 * ((x : Rat) * y)) / ((m : Rat) * n) * ((m : Rat) * n) * ((v : Rat) * v)) (1 / ((m : Rat) * n)))
section
variable {k : Nat} [F : Fuel k] {v x y m n ch : Int}
theorem allowed_ok (hv : 0 ≤ v ∧ v ≤ 1000000) (hx : -10000000 ≤ x ∧ x ≤ 10000000) (hy : -10000000 ≤ y ∧ y ≤ 10000000) (hm : 0 < m ∧ m ≤ 1200000000000000) (hn : 0 < n ∧ n ≤ 1200000000000000) (hc : 0 ≤ ch ∧ ch ≤ 1000000) :
    lookahead_allowed k v x y m n ch = some (decide (alw v x y m n ch sgR mk ≤ 0)) := by
  unfold lookahead_allowed
  have q1 := abs_sq hx.1 hx.2
  have q2 := abs_sq hy.1 hy.2
  have zm : Rz 5 (m : Rat) := rz5 (by omega) (by omega)
  have zn : Rz 5 (n : Rat) := rz5 (by omega) (by omega)
  have zv : Rz 5 (v : Rat) := rz5 (by omega) (by omega)
  have zx : Rz 5 (x : Rat) := rz5 (by omega) (by omega)
  have zy : Rz 5 (y : Rat) := rz5 (by omega) (by omega)
  have zc : Rz 5 (ch : Rat) := rz5 (by omega) (by omega)
  have zxx : Rz 5 ((x * x : Int) : Rat) := rz5 (by omega) (by omega)
  have zyy : Rz 5 ((y * y : Int) : Rat) := rz5 (by omega) (by omega)
  have z2 : Rz 5 ((-2 : Int) : Rat) := rz5 (by omega) (by omega)
  have e2 : ((-2 : Int) : Rat) = (-2 : Rat) := rfl
  have pm : (0 : Rat) < (m : Rat) := Rat.intCast_pos.2 hm.1
  have pn : (0 : Rat) < (n : Rat) := Rat.intCast_pos.2 hn.1
  have pmn : (0 : Rat) < (m : Rat) * (n : Rat) := Rat.mul_pos pm pn
  have zmn := rzMul zm zn
  have za := rzAdd (rzQuo zxx zm) (rzQuo zyy zn)
  have zb0 := rzMul z2 (rzMul zx zy)
  have zb := rzQuo zb0 zmn
  have zw := rzMul zc zc
  have zq := rzMul zv zv
  have pne : (m : Rat) * (n : Rat) ≠ 0 := by grind
  have nlt : ¬ (m : Rat) * (n : Rat) < 0 := by grind
  rw [wI64 (x := x * x) (by omega) (by omega), wI64 (x := y * y) (by omega) (by omega), qFrom (by omega) (by omega), Option.bind_some, qFrom (by omega) (by omega), Option.bind_some, qMul (x := zm) (y := zn) (by decide), Option.bind_some,
    qFrac (by omega) (by omega) (by omega) (by omega) (by omega), divInt_div, Option.bind_some, qFrac (by omega) (by omega) (by omega) (by omega) (by omega), divInt_div, Option.bind_some, qAdd (x := rzQuo zxx zm) (y := rzQuo zyy zn) (by decide), Option.bind_some,
    qFrom (by omega) (by omega), Option.bind_some, qFrom (by omega) (by omega), Option.bind_some, qFrom (by omega) (by omega), Option.bind_some, qMul (x := zx) (y := zy) (by decide), Option.bind_some, qMul (x := z2) (y := rzMul zx zy) (by decide), Option.bind_some,
    qDiv (x := zb0) (y := zmn) (by decide), Option.bind_some, if_neg pne]
  have e0 : ((0 : Int) != 0) = false := rfl
  have e00 : ((0 : Int) == 0) = true := rfl
  simp only [e0, cond_false]
  have t1 := mk_zt (za.mono (show _ ≤ 40 by omega)) (zb.mono (show _ ≤ 40 by omega)) (zmn.mono (show _ ≤ 40 by omega)) (by omega)
  have t2 := scale_zt t1 zq (by omega)
  have t3 : Zt (3 * 40 + 1 + (5 + 5)) (rat (-((ch : Rat) * (ch : Rat)))) := rat_zt ((rzNeg zw).mono (by omega)) (by omega)
  have t4 := addR_zt t2 t3 (by omega)
  rw [make_eq (x := za.mono (show _ ≤ 40 by omega)) (y := zb.mono (show _ ≤ 40 by omega)) (z := zmn.mono (show _ ≤ 40 by omega)) (by decide), if_neg nlt, Option.bind_some]
  simp only [e0, cond_false]
  rw [qFrom (by omega) (by omega), Option.bind_some, Option.bind_some, qMul (x := zv) (y := zv) (by decide), Option.bind_some, scale_ok (z := t1) (y := zq) (by decide), Option.bind_some,
    qFrom (by omega) (by omega), Option.bind_some, Option.bind_some, qMul (x := zc) (y := zc) (by decide), Option.bind_some, qNeg (x := zw) (by decide), Option.bind_some, fromRat_ok, Option.bind_some,
    add_ok (z := t2) (w := t3) (by decide), if_pos (show comOk _ (rat (-((ch : Rat) * (ch : Rat)))) from Or.inr (Or.inl rfl)), Option.bind_some]
  simp only [e00, cond_true]
  rw [sign_ok (z := t4) (by decide), Option.bind_some, corner_sign pmn, e2]
  rfl
theorem rallowed_ok (hv : 0 ≤ v ∧ v ≤ 1000000) (hx : -10000000 ≤ x ∧ x ≤ 10000000) (hy : -10000000 ≤ y ∧ y ≤ 10000000) (hm : 0 < m ∧ m ≤ 1200000000000000) (hn : 0 < n ∧ n ≤ 1200000000000000) (hc : 0 ≤ ch ∧ ch ≤ 1000000) :
    swarfref48_Allowed k x y m n v ch = some (decide (alw v x y m n ch sgR mk ≤ 0)) := by
  unfold swarfref48_Allowed
  have q1 := abs_sq hx.1 hx.2
  have q2 := abs_sq hy.1 hy.2
  have q3 := sq_le hv.1 hv.2
  have q4 := sq_le hc.1 hc.2
  have zm : Rz 5 (m : Rat) := rz5 (by omega) (by omega)
  have zn : Rz 5 (n : Rat) := rz5 (by omega) (by omega)
  have zx : Rz 5 (x : Rat) := rz5 (by omega) (by omega)
  have zy : Rz 5 (y : Rat) := rz5 (by omega) (by omega)
  have zvv : Rz 5 ((v * v : Int) : Rat) := rz5 (by omega) (by omega)
  have zcc : Rz 5 ((ch * ch : Int) : Rat) := rz5 (by omega) (by omega)
  have zxx : Rz 5 ((x * x : Int) : Rat) := rz5 (by omega) (by omega)
  have zyy : Rz 5 ((y * y : Int) : Rat) := rz5 (by omega) (by omega)
  have z2 : Rz 5 ((-2 : Int) : Rat) := rz5 (by omega) (by omega)
  have z1 : Rz 5 ((1 : Int) : Rat) := rz5 (by omega) (by omega)
  have e2 : ((-2 : Int) : Rat) = (-2 : Rat) := rfl
  have e1 : ((1 : Int) : Rat) = (1 : Rat) := rfl
  have pm : (0 : Rat) < (m : Rat) := Rat.intCast_pos.2 hm.1
  have pn : (0 : Rat) < (n : Rat) := Rat.intCast_pos.2 hn.1
  have pmn : (0 : Rat) < (m : Rat) * (n : Rat) := Rat.mul_pos pm pn
  have zmn := rzMul zm zn
  have pm0 : (m : Rat) ≠ 0 := by grind
  have pn0 : (n : Rat) ≠ 0 := by grind
  have pne : (m : Rat) * (n : Rat) ≠ 0 := by grind
  have za0 := rzAdd (rzQuo zxx zm) (rzQuo zyy zn)
  have za := rzSub (rzMul zvv za0) zcc
  have zb0 := rzMul zvv (rzMul zx zy)
  have zb := rzMul z2 zb0
  have zi := rzQuo z1 zmn
  have pinv : ¬ ((1 : Int) : Rat) / ((m : Rat) * (n : Rat)) < 0 := by
    rw [e1, Rat.div_def, Rat.one_mul]
    have := Rat.inv_pos.2 pmn
    grind
  have pinv' : 0 ≤ ((1 : Int) : Rat) / ((m : Rat) * (n : Rat)) := Rat.not_lt.1 pinv
  rw [wI64 (x := x * x) (by omega) (by omega), wI64 (x := y * y) (by omega) (by omega), wI64 (x := v * v) (by omega) (by omega), wI64 (x := ch * ch) (by omega) (by omega)]
  simp only [rQFrom (k := k) (z := v * v) (by omega) (by omega), rQFrom (k := k) (z := x * x) (by omega) (by omega), rQFrom (k := k) (z := y * y) (by omega) (by omega), rQFrom (k := k) (z := m) (by omega) (by omega), rQFrom (k := k) (z := n) (by omega) (by omega),
    rQFrom (k := k) (z := ch * ch) (by omega) (by omega), rQFrom (k := k) (z := -2) (by omega) (by omega), rQFrom (k := k) (z := x) (by omega) (by omega), rQFrom (k := k) (z := y) (by omega) (by omega), rQFrom (k := k) (z := 1) (by omega) (by omega), Option.bind_some]
  rw [rQOver (x := zxx) (y := zm) (by decide) pm0, Option.bind_some, rQOver (x := zyy) (y := zn) (by decide) pn0, Option.bind_some, rQAdd (x := rzQuo zxx zm) (y := rzQuo zyy zn) (by decide), Option.bind_some, rQMul (x := zvv) (y := za0) (by decide), Option.bind_some,
    rQSub (x := rzMul zvv za0) (y := zcc) (by decide), Option.bind_some, rQMul (x := zx) (y := zy) (by decide), Option.bind_some, rQMul (x := zvv) (y := rzMul zx zy) (by decide), Option.bind_some, rQMul (x := z2) (y := zb0) (by decide), Option.bind_some,
    rQMul (x := zm) (y := zn) (by decide), Option.bind_some, rQOver (x := z1) (y := zmn) (by decide) pne, Option.bind_some]
  have t1 := mk_zt (za.mono (show _ ≤ 60 by omega)) (zb.mono (show _ ≤ 60 by omega)) (zi.mono (show _ ≤ 60 by omega)) (by omega)
  rw [rmake_eq (x := za.mono (show _ ≤ 60 by omega)) (y := zb.mono (show _ ≤ 60 by omega)) (z := zi.mono (show _ ≤ 60 by omega)) (by decide), if_neg pinv, Option.bind_some]
  simp only []
  rw [rsign_ok (z := t1) (by decide) (norm_ne' (mk_vr pinv')), Option.bind_some]
  unfold alw
  have k1 : ((v * v : Int) : Rat) * (((x * x : Int) : Rat) / (m : Rat) + ((y * y : Int) : Rat) / (n : Rat)) - ((ch * ch : Int) : Rat) = (v : Rat) * v * (((x * x : Int) : Rat) / m + ((y * y : Int) : Rat) / n) - (ch : Rat) * ch := by
    rw [Rat.intCast_mul v v, Rat.intCast_mul ch ch]
  have k2 : ((-2 : Int) : Rat) * (((v * v : Int) : Rat) * ((x : Rat) * (y : Rat))) = (-2 * ((x : Rat) * y)) / ((m : Rat) * n) * ((m : Rat) * n) * ((v : Rat) * v) := by
    rw [Rat.intCast_mul v v, e2]
    generalize (m : Rat) * (n : Rat) = c at *
    grind
  rw [k1, k2, e1]
end
/-- Whether a speed is allowed at a corner. -/
noncomputable def turn (a b : PosD) (v ch : Int) : Bool :=
  decide (alw v a.X b.X (sqP a) (sqP b) ch sgR mk ≤ 0) && (decide (alw v a.Y b.Y (sqP a) (sqP b) ch sgR mk ≤ 0) && decide (alw v a.Z b.Z (sqP a) (sqP b) ch sgR mk ≤ 0))
end Go.Proofs.YtbjkpogfgijmaaaGreat
