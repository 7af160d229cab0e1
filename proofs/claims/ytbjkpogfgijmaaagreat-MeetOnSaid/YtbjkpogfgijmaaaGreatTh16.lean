/- Plain laws: numbers a + b sqrt(c): what the program and the reference answer. Plain laws: signs of numbers a + b sqrt(c); reduced form; equal data. -/
import Derived.Test.YtbjkpogfgijmaaaGreatTh12
namespace Go.Proofs.YtbjkpogfgijmaaaGreat
/-! ## Plain laws: numbers a + b sqrt(c): what the program and the reference answer. -/
section
open Go
set_option linter.unusedVariables false
set_option linter.unusedSimpArgs false

structure Rt where
  A : Rat
  B : Rat
  C : Rat
def R (x : Rt) : RootD := ⟨Q x.A, Q x.B, Q x.C⟩
theorem R_inj {x y : Rt} (h : R x = R y) : x = y := by
  have h1 := Q_inj (congrArg RootD.A h)
  have h2 := Q_inj (congrArg RootD.B h)
  have h3 := Q_inj (congrArg RootD.C h)
  cases x; cases y; simp at *; exact ⟨h1, h2, h3⟩
class Zt (n : outParam Nat) (x : Rt) : Prop where
  A : Rz n x.A
  B : Rz n x.B
  C : Rz n x.C
theorem Zt.mono {m n : Nat} {x : Rt} (z : Zt m x) (h : m ≤ n) : Zt n x := ⟨z.A.mono h, z.B.mono h, z.C.mono h⟩
def zRoot : RootD := ⟨zR, zR, zR⟩
def rat (a : Rat) : Rt := ⟨a, 0, 0⟩
def norm (x : Rt) : Rat := x.A * x.A - x.B * x.B * x.C
open Classical in
noncomputable def mk (a b c : Rat) : Rt := if IsSq c then rat (a + b * rsq c) else if b = 0 then rat a else ⟨a, b, c⟩
def red (a b c : Rat) : Rt := if b = 0 then rat a else ⟨a, b, c⟩
def sgR (x : Rt) : Int := if x.B = 0 then sg x.A else if sg x.A = sg x.B then sg x.A else if x.A = 0 then sg x.B else sg x.A * sg (norm x)
def neg (x : Rt) : Rt := ⟨-x.A, -x.B, x.C⟩
def scale (x : Rt) (k : Rat) : Rt := red (x.A * k) (x.B * k) x.C
/-- Reduced form. -/
def Vr (x : Rt) : Prop := (x.B = 0 ∧ x.C = 0) ∨ (x.B ≠ 0 ∧ 0 < x.C ∧ ¬ IsSq x.C)
theorem zero_rz : Rz 2 (0 : Rat) := ⟨szSmall (by decide), szSmall (by decide)⟩
theorem sg_range (q : Rat) : sg q = -1 ∨ sg q = 0 ∨ sg q = 1 := by unfold sg; grind
section
variable {k : Nat} [F : Fuel k] {n : Nat}
theorem zero_ok : root_zero k = some (Q 0) := by
  unfold root_zero
  rw [qFrom (by omega) (by omega)]; rfl
theorem fromRat_ok {a : Rat} : root_FromRat k (Q a) = some (R (rat a)) := by
  unfold root_FromRat
  rw [zero_ok]; rfl
theorem beq0 {a : Rat} : (sg a == 0) = decide (a = 0) := by
  have : (sg a == 0) = decide (sg a = 0) := rfl
  rw [this]; exact dec_congr sg_zero
theorem reduced_ok {a b c : Rat} : root_reduced k (Q a) (Q b) (Q c) = some (R (red a b c)) := by
  unfold root_reduced red
  rw [qSign, Option.bind_some, beq0]
  by_cases hb : b = 0
  · rw [cdec hb, cond_true, zero_ok, if_pos hb, hb]; rfl
  · rw [cdecF hb, cond_false, if_neg hb]; rfl
theorem lt0 {a : Rat} : decide (sg a < 0) = decide (a < 0) := dec_congr sg_neg
theorem gt0 {a : Rat} : decide (sg a > 0) = decide (0 < a) := dec_congr sg_pos
theorem make_eq {a b c : Rat} [x : Rz n a] [y : Rz n b] [z : Rz n c] (h : 100 * n + 1000 ≤ LM) : root_Make k (Q a) (Q b) (Q c) = some (if c < 0 then (zRoot, 7) else (R (mk a b c), 0)) := by
  unfold root_Make
  rw [qSign, Option.bind_some, lt0]
  by_cases hc : c < 0
  · rw [cdec hc, cond_true, if_pos hc]; rfl
  · rw [cdecF hc, cond_false, if_neg hc]
    unfold mk
    by_cases hs : IsSq c
    · have z' := rzSqrt z
      have w := rzMul y z'
      rw [qSqrt_pos (by omega) hs, Option.bind_some, cond_true, qMul (by omega), Option.bind_some, qAdd (by omega), Option.bind_some, fromRat_ok, Option.bind_some, if_pos hs]
    · rw [qSqrt_neg (by omega) hs, Option.bind_some, cond_false, reduced_ok, Option.bind_some, if_neg hs]; rfl
theorem nrm_ok {x : Rt} [z : Zt n x] (h : 100 * n + 1000 ≤ LM) : root_norm k (R x) = some (Q (norm x)) := by
  have a := z.A; have b := z.B; have c := z.C
  have a2 := rzMul a a
  have b2 := rzMul b b
  have b2c := rzMul b2 c
  unfold root_norm
  show ((rational_Mul k (Q x.A) (Q x.A)).bind _) = _
  rw [qMul (by omega), Option.bind_some]
  show ((rational_Mul k (Q x.B) (Q x.B)).bind _) = _
  rw [qMul (by omega), Option.bind_some]
  show ((rational_Mul k (Q (x.B * x.B)) (Q x.C)).bind _) = _
  rw [qMul (by omega), Option.bind_some, qSub (by omega), Option.bind_some]; rfl
theorem sgR_mul_wrap (a b : Rat) : IntKind.i64.wrap (sg a * sg b) = sg a * sg b := by
  rcases sg_range a with h1 | h1 | h1 <;> rcases sg_range b with h2 | h2 | h2 <;> rw [h1, h2] <;> rfl
theorem sign_ok {x : Rt} [z : Zt n x] (h : 100 * n + 1000 ≤ LM) : root_Sign k (R x) = some (sgR x) := by
  unfold root_Sign
  show ((rational_Sign k (Q x.A)).bind _) = _
  rw [qSign, Option.bind_some]
  show ((rational_Sign k (Q x.B)).bind _) = _
  rw [qSign, Option.bind_some, beq0]
  unfold sgR
  by_cases hb : x.B = 0
  · rw [cdec hb, cond_true, if_pos hb]
  · rw [cdecF hb, cond_false, if_neg hb]
    by_cases he : sg x.A = sg x.B
    · have e : (sg x.A == sg x.B) = true := by rw [he]; simp
      rw [e, cond_true, if_pos he]
    · have e : (sg x.A == sg x.B) = false := beq_eq_false_iff_ne.2 he
      rw [e, cond_false, if_neg he, beq0]
      by_cases ha : x.A = 0
      · rw [cdec ha, cond_true, if_pos ha]
      · rw [cdecF ha, cond_false, if_neg ha, nrm_ok h, Option.bind_some, qSign, Option.bind_some, sgR_mul_wrap]
theorem rneg_ok {x : Rt} [z : Zt n x] (h : 100 * n + 1000 ≤ LM) : root_Neg k (R x) = some (R (neg x)) := by
  have a := z.A; have b := z.B
  unfold root_Neg
  show ((rational_Neg k (Q x.A)).bind _) = _
  rw [qNeg (by omega), Option.bind_some]
  show ((rational_Neg k (Q x.B)).bind _) = _
  rw [qNeg (by omega)]; rfl
theorem scale_ok {x : Rt} {m : Nat} {q : Rat} [z : Zt n x] [y : Rz m q] (h : 100 * (n + m) + 1000 ≤ LM) : root_Scale k (R x) (Q q) = some (R (scale x q)) := by
  have a := z.A; have b := z.B
  unfold root_Scale
  show ((rational_Mul k (Q x.A) (Q q)).bind _) = _
  rw [qMul (by omega), Option.bind_some]
  show ((rational_Mul k (Q x.B) (Q q)).bind _) = _
  rw [qMul (by omega), Option.bind_some]
  show ((root_reduced k _ _ (Q x.C)).bind _) = _
  rw [reduced_ok]; rfl
omit [F : Fuel k] in
theorem rational_ok {x : Rt} : root_Rational k (R x) = some (if x.B = 0 then (Q x.A, true) else (zR, false)) := by
  unfold root_Rational
  show ((rational_Sign k (Q x.B)).bind _) = _
  rw [qSign, Option.bind_some]
  by_cases hb : x.B = 0
  · have : (sg x.B != 0) = false := by rw [sg_zero.2 hb]; rfl
    rw [this, if_pos hb]; rfl
  · have : (sg x.B != 0) = true := by simpa using fun h => hb (sg_zero.1 h)
    rw [this, if_neg hb]; rfl
/-- The common radicand. -/
def com (x y : Rt) : Rat := if x.B = 0 then y.C else x.C
def comOk (x y : Rt) : Prop := x.B = 0 ∨ y.B = 0 ∨ x.C = y.C
instance (x y : Rt) : Decidable (comOk x y) := by unfold comOk; infer_instance
theorem common_ok {x y : Rt} [z : Zt n x] [w : Zt n y] (h : 100 * n + 1000 ≤ LM) : root_common k (R x) (R y) = some (Q (com x y), decide (comOk x y)) := by
  have c := z.C; have c' := w.C
  unfold root_common com comOk
  show ((rational_Sign k (Q x.B)).bind _) = _
  rw [qSign, Option.bind_some, beq0]
  by_cases hb : x.B = 0
  · rw [cdec hb, cond_true, if_pos hb]; simp [hb, R]
  · rw [cdecF hb, cond_false, if_neg hb]
    show ((rational_Sign k (Q y.B)).bind _) = _
    rw [qSign, Option.bind_some, beq0]
    by_cases hb' : y.B = 0
    · rw [cdec hb', cond_true]; simp [hb', R]
    · rw [cdecF hb', cond_false]
      show ((rational_Cmp k (Q x.C) (Q y.C)).bind _) = _
      rw [qCmp (by omega), Option.bind_some]
      have : (cmpQ x.C y.C == 0) = decide (cmpQ x.C y.C = 0) := rfl
      rw [this]
      congr 2
      apply dec_congr
      rw [cmpQ_zero]; simp [hb, hb']
def addR (x y : Rt) : Rt := red (x.A + y.A) (x.B + y.B) (com x y)
def mulR (x y : Rt) : Rt := red (x.A * y.A + x.B * y.B * com x y) (x.A * y.B + x.B * y.A) (com x y)
theorem com_rz {x y : Rt} (z : Zt n x) (w : Zt n y) : Rz n (com x y) := by unfold com; split; exact w.C; exact z.C
theorem add_ok {x y : Rt} [z : Zt n x] [w : Zt n y] (h : 100 * n + 1000 ≤ LM) : root_Add k (R x) (R y) = some (if comOk x y then (R (addR x y), 0) else (zRoot, 1)) := by
  have a := z.A; have b := z.B; have a' := w.A; have b' := w.B
  unfold root_Add
  rw [common_ok h, Option.bind_some]
  by_cases hc : comOk x y
  · rw [if_pos hc, cdec hc, Bool.not_true, cond_false]
    show ((rational_Add k (Q x.A) (Q y.A)).bind _) = _
    rw [qAdd (by omega), Option.bind_some]
    show ((rational_Add k (Q x.B) (Q y.B)).bind _) = _
    rw [qAdd (by omega), Option.bind_some]
    show ((root_reduced k _ _ (Q (com x y))).bind _) = _
    rw [reduced_ok]; rfl
  · rw [if_neg hc, cdecF hc]; rfl
theorem mul_ok {x y : Rt} [z : Zt n x] [w : Zt n y] (h : 100 * n + 1000 ≤ LM) : root_Mul k (R x) (R y) = some (if comOk x y then (R (mulR x y), 0) else (zRoot, 1)) := by
  have a := z.A; have b := z.B; have a' := w.A; have b' := w.B; have c := com_rz z w
  have aa := rzMul a a'
  have bb := rzMul b b'
  have bbc := rzMul bb c
  have ab := rzMul a b'
  have ba := rzMul b a'
  unfold root_Mul
  rw [common_ok h, Option.bind_some]
  by_cases hc : comOk x y
  · rw [if_pos hc, cdec hc, Bool.not_true, cond_false]
    show ((rational_Mul k (Q x.A) (Q y.A)).bind _) = _
    simp only [R]
    rw [qMul (by omega), Option.bind_some, qMul (by omega), Option.bind_some, qMul (by omega), Option.bind_some, qAdd (by omega), Option.bind_some, qMul (by omega), Option.bind_some, qMul (by omega), Option.bind_some, qAdd (by omega), Option.bind_some, reduced_ok]
    rfl
  · rw [if_neg hc, cdecF hc]; rfl
def invR (x : Rt) : Rt := scale ⟨x.A, -x.B, x.C⟩ (1 / norm x)
theorem norm_rz {x : Rt} (z : Zt n x) : Rz (5 * n + 1) (norm x) := (rzSub (rzMul z.A z.A) (rzMul (rzMul z.B z.B) z.C)).mono (by omega)
theorem one_rz : Rz 2 (1 : Rat) := ⟨szSmall (by decide), szSmall (by decide)⟩
theorem inv_ok {x : Rt} [z : Zt n x] (h : 1000 * n + 10000 ≤ LM) (hn : sgR x ≠ 0 → norm x ≠ 0) : root_Inv k (R x) = some (if sgR x = 0 then (zRoot, 6) else (R (invR x), 0)) := by
  have b := z.B
  unfold root_Inv
  rw [sign_ok (by omega), Option.bind_some]
  by_cases h0 : sgR x = 0
  · rw [h0, if_pos rfl]; rfl
  · rw [beq_eq_false_iff_ne.2 h0, cond_false, if_neg h0]
    have hq := hn h0
    have o := one_rz
    have nz := norm_rz z
    have q := rzQuo o nz
    rw [qFrom (by omega) (by omega), Option.bind_some, nrm_ok (by omega), Option.bind_some]
    have e1 : (((1 : Int) : Rat)) = (1 : Rat) := rfl
    rw [e1, qDiv (by omega), if_neg hq, Option.bind_some]
    show ((rational_Neg k (Q x.B)).bind _) = _
    rw [qNeg (by omega), Option.bind_some]
    have z' : Zt n ⟨x.A, -x.B, x.C⟩ := ⟨z.A, rzNeg z.B, z.C⟩
    show ((root_Scale k (R ⟨x.A, -x.B, x.C⟩) (Q (1 / norm x))).bind _) = _
    rw [scale_ok (by omega)]; rfl

/-! ### The reference -/
theorem rzero_ok : swarfref03_zero k = some (Q 0) := by
  unfold swarfref03_zero
  rw [rQFrom (by omega) (by omega)]; rfl
theorem rone_ok : swarfref03_one k = some (Q 1) := by
  unfold swarfref03_one
  rw [rQFrom (by omega) (by omega)]; rfl
theorem rfromRat_ok {a : Rat} : swarfref03_FromRat k (Q a) = some (R (rat a)) := by
  unfold swarfref03_FromRat
  rw [rzero_ok]; rfl
theorem rreduced_ok {a b c : Rat} (h : b ≠ 0 → c ≠ 0) : swarfref03_reduced k (Q a) (Q b) (Q c) = some (R (red a b c)) := by
  unfold swarfref03_reduced red
  rw [rQSign, Option.bind_some, beq0]
  by_cases hb : b = 0
  · rw [cdec hb, cond_true, rfromRat_ok, if_pos hb]; rfl
  · rw [cdecF hb, cond_false, if_neg hb, rQSign, Option.bind_some, beq0, cdecF (h hb), cond_false]; rfl
theorem not_sq_ne {c : Rat} (h : ¬ IsSq c) : c ≠ 0 := fun h0 => h ⟨0, by grind, by rw [h0]; grind⟩
theorem rmake_eq {a b c : Rat} [x : Rz n a] [y : Rz n b] [z : Rz n c] (h : 100 * n + 1000 ≤ LM) : swarfref03_Make k (Q a) (Q b) (Q c) = some (if c < 0 then (zRoot, 7) else (R (mk a b c), 0)) := by
  unfold swarfref03_Make
  rw [rQSign, Option.bind_some, lt0]
  by_cases hc : c < 0
  · rw [cdec hc, cond_true, if_pos hc]; rfl
  · rw [cdecF hc, cond_false, if_neg hc]
    unfold mk
    by_cases hs : IsSq c
    · have z' := rzSqrt z
      have w := rzMul y z'
      rw [rQSqrt_pos (by omega) hs, Option.bind_some, cond_true, rQMul (by omega), Option.bind_some, rQAdd (by omega), Option.bind_some, rfromRat_ok, Option.bind_some, if_pos hs]
    · rw [rQSqrt_neg (by omega) hs, Option.bind_some, cond_false, rreduced_ok (fun _ => not_sq_ne hs), Option.bind_some, if_neg hs]; rfl
theorem rsquare_ok {a : Rat} [x : Rz n a] (h : 100 * n + 1000 ≤ LM) : swarfref03_square k (Q a) = some (Q (a * a)) := by
  unfold swarfref03_square
  rw [rQMul (by omega)]; rfl
theorem rnorm_ok {x : Rt} [z : Zt n x] (h : 100 * n + 1000 ≤ LM) : swarfref03_norm k (R x) = some (Q (norm x)) := by
  have a := z.A; have b := z.B; have c := z.C
  have a2 := rzMul a a
  have b2 := rzMul b b
  have b2c := rzMul b2 c
  unfold swarfref03_norm
  simp only [R]
  rw [rsquare_ok h, Option.bind_some, rsquare_ok h, Option.bind_some, rQMul (by omega), Option.bind_some, rQSub (by omega), Option.bind_some]; rfl
theorem rsign_ok {x : Rt} [z : Zt n x] (h : 100 * n + 1000 ≤ LM) (hn : x.A ≠ 0 → x.B ≠ 0 → norm x ≠ 0) : swarfref03_Sign k (R x) = some (sgR x) := by
  unfold swarfref03_Sign
  show ((swarfref02_Sign k (Q x.A)).bind _) = _
  rw [rQSign, Option.bind_some]
  show ((swarfref02_Sign k (Q x.B)).bind _) = _
  rw [rQSign, Option.bind_some]
  unfold sgR
  by_cases he : sg x.A = sg x.B
  · have e : (sg x.A == sg x.B) = true := by rw [he]; simp
    rw [e, cond_true]
    split
    · rfl
    · rfl
  · have e : (sg x.A == sg x.B) = false := beq_eq_false_iff_ne.2 he
    rw [e, cond_false, beq0]
    by_cases hb : x.B = 0
    · rw [cdec hb, cond_true, if_pos hb]
    · rw [cdecF hb, cond_false, if_neg hb, if_neg he, beq0]
      by_cases ha : x.A = 0
      · rw [cdec ha, cond_true, if_pos ha]
      · rw [cdecF ha, cond_false, if_neg ha, rnorm_ok h, Option.bind_some, rQSign, Option.bind_some, gt0]
        have h1 := hn ha hb
        have h2 := sg_range x.A; have h3 := sg_range x.B; have h4 := @sg_zero x.A; have h5 := @sg_zero x.B
        by_cases hp : 0 < norm x
        · rw [cdec hp, cond_true]
          have : sg (norm x) = 1 := by unfold sg; grind
          rw [this]; congr 1; omega
        · rw [cdecF hp, cond_false]
          have : sg (norm x) = -1 := by unfold sg; grind
          rw [this]; congr 1
          have h6 : sg x.A ≠ 0 := fun h => ha (h4.1 h)
          have h7 : sg x.B ≠ 0 := fun h => hb (h5.1 h)
          omega
theorem rrneg_ok {x : Rt} [z : Zt n x] (h : 100 * n + 1000 ≤ LM) : swarfref03_Neg k (R x) = some (R (neg x)) := by
  have a := z.A; have b := z.B
  unfold swarfref03_Neg
  simp only [R]
  rw [rQNeg (by omega), Option.bind_some, rQNeg (by omega)]; rfl
theorem rscale_ok {x : Rt} {m : Nat} {q : Rat} [z : Zt n x] [y : Rz m q] (h : 100 * (n + m) + 1000 ≤ LM) (hv : x.B ≠ 0 → x.C ≠ 0) : swarfref03_Scale k (R x) (Q q) = some (R (scale x q)) := by
  have a := z.A; have b := z.B
  unfold swarfref03_Scale
  simp only [R]
  rw [rQMul (by omega), Option.bind_some, rQMul (by omega), Option.bind_some, rreduced_ok (fun hb => hv (fun h0 => hb (by rw [h0, Rat.zero_mul])))]; rfl
omit [F : Fuel k] in
theorem rrational_ok {x : Rt} : swarfref03_Rational k (R x) = some (if x.B = 0 then (Q x.A, true) else (zR, false)) := by
  unfold swarfref03_Rational
  show ((swarfref02_Sign k (Q x.B)).bind _) = _
  rw [rQSign, Option.bind_some]
  by_cases hb : x.B = 0
  · have : (sg x.B != 0) = false := by rw [sg_zero.2 hb]; rfl
    rw [this, if_pos hb]; rfl
  · have : (sg x.B != 0) = true := by simpa using fun h => hb (sg_zero.1 h)
    rw [this, if_neg hb]; rfl
theorem rcommon_ok {x y : Rt} [z : Zt n x] [w : Zt n y] (h : 100 * n + 1000 ≤ LM) : swarfref03_common k (R x) (R y) = some (Q (com x y), decide (comOk x y)) := by
  have c := z.C; have c' := w.C
  unfold swarfref03_common com comOk
  show ((swarfref02_Sign k (Q x.B)).bind _) = _
  rw [rQSign, Option.bind_some, beq0]
  by_cases hb : x.B = 0
  · rw [cdec hb, cond_true, if_pos hb]; simp [hb, R]
  · rw [cdecF hb, cond_false, if_neg hb]
    show ((swarfref02_Sign k (Q y.B)).bind _) = _
    rw [rQSign, Option.bind_some, beq0]
    by_cases hb' : y.B = 0
    · rw [cdec hb', cond_true]; simp [hb', R]
    · rw [cdecF hb', cond_false]
      show ((swarfref02_Cmp k (Q x.C) (Q y.C)).bind _) = _
      rw [rQCmp (by omega), Option.bind_some]
      have : (cmpQ x.C y.C == 0) = decide (cmpQ x.C y.C = 0) := rfl
      rw [this]
      congr 2
      apply dec_congr
      rw [cmpQ_zero]; simp [hb, hb']
/-- A sum or a product that is not rational has a radicand. -/
theorem com_ne {x y : Rt} (hx : Vr x) (hy : Vr y) (hb : x.B ≠ 0 ∨ y.B ≠ 0) : com x y ≠ 0 := by
  unfold com Vr at *
  grind
theorem radd_ok {x y : Rt} [z : Zt n x] [w : Zt n y] (h : 100 * n + 1000 ≤ LM) (hx : Vr x) (hy : Vr y) : swarfref03_Add k (R x) (R y) = some (if comOk x y then (R (addR x y), 0) else (zRoot, 1)) := by
  have a := z.A; have b := z.B; have a' := w.A; have b' := w.B
  unfold swarfref03_Add
  rw [rcommon_ok h, Option.bind_some]
  by_cases hc : comOk x y
  · rw [if_pos hc, cdec hc, Bool.not_true, cond_false]
    simp only [R]
    rw [rQAdd (by omega), Option.bind_some, rQAdd (by omega), Option.bind_some, rreduced_ok (fun hb => com_ne hx hy (by grind))]; rfl
  · rw [if_neg hc, cdecF hc]; rfl
theorem rmul_ok {x y : Rt} [z : Zt n x] [w : Zt n y] (h : 100 * n + 1000 ≤ LM) (hx : Vr x) (hy : Vr y) : swarfref03_Mul k (R x) (R y) = some (if comOk x y then (R (mulR x y), 0) else (zRoot, 1)) := by
  have a := z.A; have b := z.B; have a' := w.A; have b' := w.B; have c := com_rz z w
  have aa := rzMul a a'
  have bb := rzMul b b'
  have bbc := rzMul bb c
  have ab := rzMul a b'
  have ba := rzMul b a'
  unfold swarfref03_Mul
  rw [rcommon_ok h, Option.bind_some]
  by_cases hc : comOk x y
  · rw [if_pos hc, cdec hc, Bool.not_true, cond_false]
    simp only [R]
    rw [rQMul (by omega), Option.bind_some, rQMul (by omega), Option.bind_some, rQMul (by omega), Option.bind_some, rQAdd (by omega), Option.bind_some, rQMul (by omega), Option.bind_some, rQMul (by omega), Option.bind_some, rQAdd (by omega), Option.bind_some,
      rreduced_ok (fun hb => com_ne hx hy (by grind))]
    rfl
  · rw [if_neg hc, cdecF hc]; rfl
theorem raddRat_ok {x : Rt} {m : Nat} {q : Rat} [z : Zt n x] [y : Rz m q] (h : 100 * (n + m) + 1000 ≤ LM) : swarfref03_AddRat k (R x) (Q q) = some (R ⟨x.A + q, x.B, x.C⟩) := by
  have a := z.A
  unfold swarfref03_AddRat
  simp only [R]
  rw [rQAdd (by omega)]; rfl
theorem rinv_ok {x : Rt} [z : Zt n x] (h : 1000 * n + 10000 ≤ LM) (hn : x.A ≠ 0 → x.B ≠ 0 → norm x ≠ 0) (hn' : sgR x ≠ 0 → norm x ≠ 0) (hv : x.B ≠ 0 → x.C ≠ 0) : swarfref03_Inv k (R x) = some (if sgR x = 0 then (zRoot, 6) else (R (invR x), 0)) := by
  have a := z.A; have b := z.B
  unfold swarfref03_Inv
  rw [rsign_ok (by omega) hn, Option.bind_some]
  by_cases h0 : sgR x = 0
  · rw [h0, if_pos rfl]; rfl
  · rw [beq_eq_false_iff_ne.2 h0, cond_false, if_neg h0]
    have hq := hn' h0
    have o := one_rz
    have nz := norm_rz z
    have q := rzQuo o nz
    have bq := rzMul b q
    rw [rone_ok, Option.bind_some, rnorm_ok (by omega), Option.bind_some, rQDiv (by omega), if_neg hq, Option.bind_some]
    simp only [R]
    rw [rQMul (by omega), Option.bind_some, rQMul (by omega), Option.bind_some, rQNeg (by omega), Option.bind_some, rreduced_ok (fun hb => hv (fun h0 => hb (by rw [h0]; grind))), Option.bind_some]
    have e : -x.B * (1 / norm x) = -(x.B * (1 / norm x)) := by grind
    unfold invR scale
    dsimp only
    rw [e]; rfl
end
end
/-! ## Plain laws: signs of numbers a + b sqrt(c); reduced form; equal data. -/
section
open Go
set_option linter.unusedVariables false
set_option linter.unusedSimpArgs false

/-! ### Signs -/
theorem sg_eq_of (q : Rat) : (q < 0 ∧ sg q = -1) ∨ (q = 0 ∧ sg q = 0) ∨ (0 < q ∧ sg q = 1) := by unfold sg; grind
theorem sg_mul (a b : Rat) : sg (a * b) = sg a * sg b := by
  have pp : ∀ a b : Rat, 0 < a → 0 < b → 0 < a * b := fun a b h1 h2 => Rat.mul_pos h1 h2
  rcases sg_eq_of a with ⟨h1, e1⟩ | ⟨h1, e1⟩ | ⟨h1, e1⟩ <;> rcases sg_eq_of b with ⟨h2, e2⟩ | ⟨h2, e2⟩ | ⟨h2, e2⟩ <;> rw [e1, e2]
  · have := pp (-a) (-b) (by grind) (by grind); unfold sg; grind
  · rw [h2, Rat.mul_zero]; rfl
  · have := pp (-a) b (by grind) (by grind); unfold sg; grind
  · rw [h1, Rat.zero_mul]; rfl
  · rw [h1, Rat.zero_mul]; rfl
  · rw [h1, Rat.zero_mul]; rfl
  · have := pp a (-b) (by grind) (by grind); unfold sg; grind
  · rw [h2, Rat.mul_zero]; rfl
  · have := pp a b (by grind) (by grind); unfold sg; grind
theorem sg_neg_eq (a : Rat) : sg (-a) = -sg a := by unfold sg; grind
theorem sq_pos {a : Rat} (h : a ≠ 0) : 0 < a * a := by
  rcases sg_eq_of a with ⟨h1, _⟩ | ⟨h1, _⟩ | ⟨h1, _⟩
  · have := Rat.mul_pos (show 0 < -a by grind) (show 0 < -a by grind); grind
  · exact absurd h1 h
  · exact Rat.mul_pos h1 h1
theorem sq_nonneg (a : Rat) : 0 ≤ a * a := by
  by_cases h : a = 0
  · rw [h]; grind
  · have := sq_pos h; grind
theorem lt_of_sq_lt {a b : Rat} (hb : 0 ≤ b) (h : a * a < b * b) : a < b := by
  rcases (show a < b ∨ b ≤ a by grind) with h1 | h1
  · exact h1
  · exfalso
    have := Rat.mul_le_mul_of_nonneg_left h1 hb
    have := Rat.mul_le_mul_of_nonneg_right h1 (show 0 ≤ a by grind)
    grind
/-- Of two numbers the one with the greater square gives the sum its sign. -/
theorem sg_add_of_sq {x y : Rat} (h : y * y < x * x) : sg (x + y) = sg x := by
  rcases sg_eq_of x with ⟨h1, e1⟩ | ⟨h1, e1⟩ | ⟨h1, e1⟩
  · have h2 : y < -x := lt_of_sq_lt (by grind) (by grind)
    unfold sg; grind
  · subst h1
    have := sq_nonneg y
    exfalso; grind
  · have h2 : -y < x := lt_of_sq_lt (by grind) (by grind)
    unfold sg; grind
/-- A square that is no rational square: the norm is 0 only at 0. -/
theorem norm_ne {x : Rt} (hv : Vr x) (h : x.A ≠ 0 ∨ x.B ≠ 0) : norm x ≠ 0 := by
  intro h0
  unfold norm at h0
  rcases hv with ⟨hb, hc⟩ | ⟨hb, hc, hs⟩
  · rw [hb] at h0
    have ha : x.A ≠ 0 := by grind
    have := sq_pos ha
    grind
  · apply hs
    have e : (x.A / x.B) * (x.A / x.B) = x.C := by grind
    rcases (show 0 ≤ x.A / x.B ∨ 0 ≤ -(x.A / x.B) by grind) with h1 | h1
    · exact ⟨_, h1, e⟩
    · exact ⟨_, h1, by grind⟩
theorem norm_ne' {x : Rt} (hv : Vr x) : x.A ≠ 0 → x.B ≠ 0 → norm x ≠ 0 := fun h _ => norm_ne hv (.inl h)
theorem sgR_zero {x : Rt} (hv : Vr x) : sgR x = 0 ↔ x.A = 0 ∧ x.B = 0 := by
  unfold sgR
  have h1 := @sg_zero x.A; have h2 := @sg_zero x.B; have h3 := @sg_zero (norm x)
  by_cases hb : x.B = 0
  · simp [hb, h1]
  · rw [if_neg hb]
    have h4 : sg x.B ≠ 0 := fun h => hb (h2.1 h)
    by_cases he : sg x.A = sg x.B
    · rw [if_pos he, he]; simp [hb, h4]
    · rw [if_neg he]
      by_cases ha : x.A = 0
      · rw [if_pos ha]; simp [hb, h4]
      · rw [if_neg ha]
        have h5 : sg x.A ≠ 0 := fun h => ha (h1.1 h)
        have h6 : sg (norm x) ≠ 0 := fun h => norm_ne hv (.inl ha) (h3.1 h)
        simp [hb, h5, h6]
theorem sgR_norm_ne {x : Rt} (hv : Vr x) : sgR x ≠ 0 → norm x ≠ 0 := fun h => norm_ne hv (by
  by_cases ha : x.A = 0
  · right; intro hb; exact h ((sgR_zero hv).2 ⟨ha, hb⟩)
  · exact .inl ha)
/-- Whichever part has the greater square gives the sign. -/
theorem sgR_norm_pos {x : Rt} (hc : 0 ≤ x.C) (h : 0 < norm x) : sgR x = sg x.A := by
  unfold sgR
  have h1 := @sg_zero x.A
  by_cases hb : x.B = 0
  · rw [if_pos hb]
  · rw [if_neg hb]
    by_cases he : sg x.A = sg x.B
    · rw [if_pos he]
    · rw [if_neg he]
      by_cases ha : x.A = 0
      · exfalso
        unfold norm at h
        have := Rat.mul_nonneg (sq_nonneg x.B) hc
        rw [ha] at h; grind
      · rw [if_neg ha]
        have : sg (norm x) = 1 := by unfold sg; grind
        rw [this, Int.mul_one]
theorem sgR_norm_neg {x : Rt} (h : norm x < 0) : sgR x = sg x.B := by
  unfold sgR
  by_cases hb : x.B = 0
  · exfalso
    unfold norm at h
    have := sq_nonneg x.A
    rw [hb] at h; grind
  · rw [if_neg hb]
    by_cases he : sg x.A = sg x.B
    · rw [if_pos he, he]
    · rw [if_neg he]
      by_cases ha : x.A = 0
      · rw [if_pos ha]
      · rw [if_neg ha]
        have : sg (norm x) = -1 := by unfold sg; grind
        rw [this]
        have h1 := sg_range x.A; have h2 := sg_range x.B; have h3 := @sg_zero x.A; have h4 := @sg_zero x.B
        have h6 : sg x.A ≠ 0 := fun h => ha (h3.1 h)
        have h7 : sg x.B ≠ 0 := fun h => hb (h4.1 h)
        omega
theorem sgR_rat {a c : Rat} : sgR ⟨a, 0, c⟩ = sg a := by unfold sgR; simp
/-- The sign of a product. -/
theorem sgR_mul {a b a' b' c : Rat} (hc : 0 ≤ c) : sgR ⟨a * a' + b * b' * c, a * b' + b * a', c⟩ = sgR ⟨a, b, c⟩ * sgR ⟨a', b', c⟩ ∨ norm ⟨a, b, c⟩ = 0 ∨ norm ⟨a', b', c⟩ = 0 := by
  by_cases hz : norm ⟨a, b, c⟩ = 0
  · exact .inr (.inl hz)
  by_cases hz' : norm ⟨a', b', c⟩ = 0
  · exact .inr (.inr hz')
  left
  have hm : norm ⟨a * a' + b * b' * c, a * b' + b * a', c⟩ = norm ⟨a, b, c⟩ * norm ⟨a', b', c⟩ := by unfold norm; dsimp only; grind
  have nn := fun x y (h1 : (0 : Rat) ≤ x) (h2 : (0 : Rat) ≤ y) => Rat.mul_nonneg h1 h2
  have s1 := sq_nonneg a; have s2 := sq_nonneg b; have s3 := sq_nonneg a'; have s4 := sq_nonneg b'
  have c2 := nn _ _ s2 hc; have c4 := nn _ _ s4 hc
  rcases sg_eq_of (norm ⟨a, b, c⟩) with ⟨h1, _⟩ | ⟨h1, _⟩ | ⟨h1, _⟩
  · rcases sg_eq_of (norm ⟨a', b', c⟩) with ⟨h2, _⟩ | ⟨h2, _⟩ | ⟨h2, _⟩
    · have h3 : 0 < norm ⟨a * a' + b * b' * c, a * b' + b * a', c⟩ := by rw [hm]; have := Rat.mul_pos (show 0 < -norm ⟨a, b, c⟩ by grind) (show 0 < -norm ⟨a', b', c⟩ by grind); grind
      rw [sgR_norm_pos hc h3, sgR_norm_neg h1, sgR_norm_neg h2, ← sg_mul]
      dsimp only
      have hcp : 0 < c := by unfold norm at h1; dsimp only at h1; rcases (show c = 0 ∨ 0 < c by grind) with h | h; rw [h] at h1; grind; exact h
      have e : sg (b * b') = sg (b * b' * c) := by rw [sg_mul (b * b') c]; have : sg c = 1 := by unfold sg; grind
                                                   rw [this, Int.mul_one]
      rw [e, Rat.add_comm]
      apply sg_add_of_sq
      unfold norm at h1 h2; dsimp only at h1 h2
      have k1 : a * a < b * b * c := by grind
      have k2 : a' * a' < b' * b' * c := by grind
      have k3 : a * a * (a' * a') ≤ b * b * c * (a' * a') := Rat.mul_le_mul_of_nonneg_right (by grind) s3
      have k4 : b * b * c * (a' * a') < b * b * c * (b' * b' * c) := Rat.mul_lt_mul_of_pos_left k2 (by grind)
      grind
    · exact absurd h2 hz'
    · have h3 : norm ⟨a * a' + b * b' * c, a * b' + b * a', c⟩ < 0 := by rw [hm]; have := Rat.mul_pos (show 0 < -norm ⟨a, b, c⟩ by grind) h2; grind
      rw [sgR_norm_neg h3, sgR_norm_neg h1, sgR_norm_pos hc h2, ← sg_mul]
      dsimp only
      rw [Rat.add_comm]
      apply sg_add_of_sq
      unfold norm at h1 h2; dsimp only at h1 h2
      have k1 : a * a < b * b * c := by grind
      have k2 : b' * b' * c < a' * a' := by grind
      have hb : b ≠ 0 := by intro h; rw [h] at k1; grind
      have hb2 := sq_pos hb
      have k3 : a * a * (b' * b') ≤ b * b * c * (b' * b') := Rat.mul_le_mul_of_nonneg_right (by grind) s4
      have k4 : b * b * (b' * b' * c) < b * b * (a' * a') := Rat.mul_lt_mul_of_pos_left k2 hb2
      grind
  · exact absurd h1 hz
  · rcases sg_eq_of (norm ⟨a', b', c⟩) with ⟨h2, _⟩ | ⟨h2, _⟩ | ⟨h2, _⟩
    · have h3 : norm ⟨a * a' + b * b' * c, a * b' + b * a', c⟩ < 0 := by rw [hm]; have := Rat.mul_pos h1 (show 0 < -norm ⟨a', b', c⟩ by grind); grind
      rw [sgR_norm_neg h3, sgR_norm_pos hc h1, sgR_norm_neg h2, ← sg_mul]
      dsimp only
      apply sg_add_of_sq
      unfold norm at h1 h2; dsimp only at h1 h2
      have k1 : b * b * c < a * a := by grind
      have k2 : a' * a' < b' * b' * c := by grind
      have hb : b' ≠ 0 := by intro h; rw [h] at k2; grind
      have hb2 := sq_pos hb
      have k3 : b * b * (a' * a') ≤ b * b * (b' * b' * c) := Rat.mul_le_mul_of_nonneg_left (by grind) s2
      have k4 : b * b * c * (b' * b') < a * a * (b' * b') := Rat.mul_lt_mul_of_pos_right k1 hb2
      grind
    · exact absurd h2 hz'
    · have h3 : 0 < norm ⟨a * a' + b * b' * c, a * b' + b * a', c⟩ := by rw [hm]; exact Rat.mul_pos h1 h2
      rw [sgR_norm_pos hc h3, sgR_norm_pos hc h1, sgR_norm_pos hc h2, ← sg_mul]
      dsimp only
      apply sg_add_of_sq
      unfold norm at h1 h2; dsimp only at h1 h2
      have k1 : b * b * c < a * a := by grind
      have k2 : b' * b' * c < a' * a' := by grind
      have k3 : b * b * c * (b' * b' * c) ≤ a * a * (b' * b' * c) := Rat.mul_le_mul_of_nonneg_right (by grind) c4
      have ha : a ≠ 0 := by intro h; rw [h] at k1; grind
      have k4 : a * a * (b' * b' * c) < a * a * (a' * a') := Rat.mul_lt_mul_of_pos_left k2 (sq_pos ha)
      grind

/-! ### Equal data -/
theorem R_lens {n : Nat} {x : Rt} (z : Zt n x) (h : n ≤ LM) : ((R x).A.num.limbs.length ≤ LM ∧ (R x).A.den.limbs.length ≤ LM) ∧ ((R x).B.num.limbs.length ≤ LM ∧ (R x).B.den.limbs.length ≤ LM) ∧ ((R x).C.num.limbs.length ≤ LM ∧ (R x).C.den.limbs.length ≤ LM) := by
  have a := z.A; have b := z.B; have c := z.C
  have h1 := lens_of (q := x.A); have h2 := lens_of (q := x.B); have h3 := lens_of (q := x.C)
  unfold R; dsimp only; omega
theorem zRoot_lens : ((zRoot.A.num.limbs.length ≤ LM ∧ zRoot.A.den.limbs.length ≤ LM) ∧ (zRoot.B.num.limbs.length ≤ LM ∧ zRoot.B.den.limbs.length ≤ LM) ∧ (zRoot.C.num.limbs.length ≤ LM ∧ zRoot.C.den.limbs.length ≤ LM)) := by decide
theorem rSameRoot {k : Nat} [F : Fuel k] (x y : RootD) (h : (x.A.num.limbs.length ≤ LM ∧ x.A.den.limbs.length ≤ LM) ∧ (x.B.num.limbs.length ≤ LM ∧ x.B.den.limbs.length ≤ LM) ∧ (x.C.num.limbs.length ≤ LM ∧ x.C.den.limbs.length ≤ LM)) : ∃ t, swarfref03_Same k x y = some t ∧ (t = true ↔ x = y) := by
  unfold swarfref03_Same
  obtain ⟨t1, e1, f1⟩ := rQSame (k := k) x.A y.A h.1.1 h.1.2
  obtain ⟨t2, e2, f2⟩ := rQSame (k := k) x.B y.B h.2.1.1 h.2.1.2
  obtain ⟨t3, e3, f3⟩ := rQSame (k := k) x.C y.C h.2.2.1 h.2.2.2
  rw [e1, Option.bind_some]
  cases t1 with
  | false => exact ⟨false, rfl, by simp; rintro rfl; simp at f1⟩
  | true =>
    rw [cond_true, e2, Option.bind_some]
    cases t2 with
    | false => exact ⟨false, rfl, by simp; rintro rfl; simp at f2⟩
    | true =>
      rw [cond_true, e3]
      refine ⟨t3, rfl, f3.trans ⟨fun h3 => ?_, fun h => by rw [h]⟩⟩
      have h1 := f1.1 rfl; have h2 := f2.1 rfl
      cases x; cases y; simp at *; exact ⟨h1, h2, h3⟩
theorem rSameRoot_self {k : Nat} [F : Fuel k] {n : Nat} {x : Rt} (z : Zt n x) (h : n ≤ LM) : swarfref03_Same k (R x) (R x) = some true := by
  obtain ⟨t, h1, h2⟩ := rSameRoot (k := k) (R x) (R x) (R_lens z h)
  rw [h1, h2.2 rfl]
theorem rSameRoot_zero {k : Nat} [F : Fuel k] : swarfref03_Same k zRoot zRoot = some true := by
  obtain ⟨t, h1, h2⟩ := rSameRoot (k := k) zRoot zRoot zRoot_lens
  rw [h1, h2.2 rfl]
theorem lawSame_R {k : Nat} [F : Fuel k] {n : Nat} {x : Rt} {e : Int} (z : Zt n x) (h : n ≤ LM) : swarflaw03_same k (R x) e (R x) e = some true := by
  unfold swarflaw03_same
  rw [show (e == e) = true by simp, cond_true, rSameRoot_self z h]; rfl
theorem lawSame_zero {k : Nat} [F : Fuel k] {e : Int} : swarflaw03_same k zRoot e zRoot e = some true := by
  unfold swarflaw03_same
  rw [show (e == e) = true by simp, cond_true, rSameRoot_zero]; rfl

/-! ### Reduced form -/
theorem WfQ_len {a : RatD} : True := trivial
theorem refValid {k : Nat} [F : Fuel k] {r : RootD} (hw : WfRoot r) (h : (r.A.num.limbs.length ≤ 100 ∧ r.A.den.limbs.length ≤ 100) ∧ (r.B.num.limbs.length ≤ 100 ∧ r.B.den.limbs.length ≤ 100) ∧ (r.C.num.limbs.length ≤ 100 ∧ r.C.den.limbs.length ≤ 100)) : ∃ t, swarfref03_Valid k r = some t ∧ (t = true ↔ ∃ x, r = R x ∧ Vr x) := by
  obtain ⟨t1, e1, f1⟩ := rQValid (k := k) hw.1 (by omega) (by omega)
  obtain ⟨t2, e2, f2⟩ := rQValid (k := k) hw.2.1 (by omega) (by omega)
  obtain ⟨t3, e3, f3⟩ := rQValid (k := k) hw.2.2 (by omega) (by omega)
  unfold swarfref03_Valid
  rw [e1, Option.bind_some]
  cases t1 with
  | false => exact ⟨false, rfl, by simp; rintro x rfl; simp at f1; exact absurd rfl (f1 x.A)⟩
  | true =>
    rw [Bool.not_true, cond_false, e2, Option.bind_some]
    cases t2 with
    | false => exact ⟨false, rfl, by simp; rintro x rfl; simp at f2; exact absurd rfl (f2 x.B)⟩
    | true =>
      rw [Bool.not_true, cond_false, e3, Option.bind_some]
      cases t3 with
      | false => exact ⟨false, rfl, by simp; rintro x rfl; simp at f3; exact absurd rfl (f3 x.C)⟩
      | true =>
        obtain ⟨a, ha⟩ := f1.1 rfl
        obtain ⟨b, hb⟩ := f2.1 rfl
        obtain ⟨c, hc⟩ := f3.1 rfl
        obtain ⟨ra, rb, rc⟩ := r
        dsimp only at ha hb hc h
        subst ha hb hc
        have z : Rz 100 c := rz_of h.2.2.1 h.2.2.2
        have key : ∀ P : Prop, (P ↔ Vr ⟨a, b, c⟩) → (P ↔ ∃ x, (⟨Q a, Q b, Q c⟩ : RootD) = R x ∧ Vr x) := fun P hP => hP.trans ⟨fun h => ⟨_, rfl, h⟩, fun ⟨x, hx, hv⟩ => by
          have : (⟨a, b, c⟩ : Rt) = x := R_inj hx
          rw [this]; exact hv⟩
        rw [Bool.not_true, cond_false, rQSign, Option.bind_some, beq0]
        by_cases hb : b = 0
        · rw [cdec hb, cond_true, Option.bind_some, beq0, cdec hb, cond_true, rQSign, Option.bind_some, beq0]
          refine ⟨_, rfl, key _ ?_⟩
          unfold Vr; simp [hb]
        · rw [cdecF hb, cond_false, rQSign, Option.bind_some, beq0]
          by_cases hc : c = 0
          · rw [cdec hc, cond_true, Option.bind_some, beq0, cdecF hb, cond_false]
            refine ⟨false, rfl, key _ ?_⟩
            unfold Vr; simp [hb, hc]
          · rw [cdecF hc, cond_false]
            by_cases hs : IsSq c
            · rw [rQSqrt_pos (by decide) hs, Option.bind_some, Option.bind_some, gt0]
              refine ⟨false, by cases decide (0 < c) <;> rfl, key _ ?_⟩
              unfold Vr; simp [hb, hs]
            · rw [rQSqrt_neg (by decide) hs, Option.bind_some, Option.bind_some, gt0]
              refine ⟨decide (0 < c), by cases decide (0 < c) <;> rfl, key _ ?_⟩
              unfold Vr; simp [hb, hs]
theorem rootValid {k : Nat} [F : Fuel k] {r : RootD} (hw : WfRoot r) (h : (r.A.num.limbs.length ≤ 100 ∧ r.A.den.limbs.length ≤ 100) ∧ (r.B.num.limbs.length ≤ 100 ∧ r.B.den.limbs.length ≤ 100) ∧ (r.C.num.limbs.length ≤ 100 ∧ r.C.den.limbs.length ≤ 100)) : ∃ t, root_Valid k r = some t ∧ (t = true ↔ ∃ x, r = R x ∧ Vr x) := by
  obtain ⟨t1, e1, f1⟩ := qValid (k := k) hw.1 (by omega) (by omega)
  obtain ⟨t2, e2, f2⟩ := qValid (k := k) hw.2.1 (by omega) (by omega)
  obtain ⟨t3, e3, f3⟩ := qValid (k := k) hw.2.2 (by omega) (by omega)
  unfold root_Valid
  rw [e1, Option.bind_some]
  cases t1 with
  | false => exact ⟨false, rfl, by simp; rintro x rfl; simp at f1; exact absurd rfl (f1 x.A)⟩
  | true =>
    rw [Bool.not_true, cond_false, e2, Option.bind_some]
    cases t2 with
    | false => exact ⟨false, rfl, by simp; rintro x rfl; simp at f2; exact absurd rfl (f2 x.B)⟩
    | true =>
      rw [Bool.not_true, cond_false, e3, Option.bind_some]
      cases t3 with
      | false => exact ⟨false, rfl, by simp; rintro x rfl; simp at f3; exact absurd rfl (f3 x.C)⟩
      | true =>
        obtain ⟨a, ha⟩ := f1.1 rfl
        obtain ⟨b, hb⟩ := f2.1 rfl
        obtain ⟨c, hc⟩ := f3.1 rfl
        obtain ⟨ra, rb, rc⟩ := r
        dsimp only at ha hb hc h
        subst ha hb hc
        have z : Rz 100 c := rz_of h.2.2.1 h.2.2.2
        have key : ∀ P : Prop, (P ↔ Vr ⟨a, b, c⟩) → (P ↔ ∃ x, (⟨Q a, Q b, Q c⟩ : RootD) = R x ∧ Vr x) := fun P hP => hP.trans ⟨fun h => ⟨_, rfl, h⟩, fun ⟨x, hx, hv⟩ => by
          have : (⟨a, b, c⟩ : Rt) = x := R_inj hx
          rw [this]; exact hv⟩
        rw [Bool.not_true, cond_false, qSign, Option.bind_some, beq0]
        by_cases hb : b = 0
        · rw [cdec hb, cond_true, qSign, Option.bind_some, beq0]
          refine ⟨_, rfl, key _ ?_⟩
          unfold Vr; simp [hb]
        · rw [cdecF hb, cond_false]
          by_cases hs : IsSq c
          · rw [qSqrt_pos (by decide) hs, Option.bind_some, qSign, Option.bind_some, gt0]
            refine ⟨false, by cases decide (0 < c) <;> rfl, key _ ?_⟩
            unfold Vr; simp [hb, hs]
          · rw [qSqrt_neg (by decide) hs, Option.bind_some, qSign, Option.bind_some, gt0]
            refine ⟨decide (0 < c), by cases decide (0 < c) <;> rfl, key _ ?_⟩
            unfold Vr; simp [hb, hs]
/-- What a guarded root is. -/
def Good (n : Nat) (r : RootD) : Prop := ∃ x, r = R x ∧ Zt n x ∧ Vr x
theorem refSmall {k : Nat} [F : Fuel k] {r : RootD} (hw : WfRoot r) : ∃ t, swarfref03_Small k r 4 = some t ∧ (t = true → Good 4 r) := by
  obtain ⟨t1, e1, f1⟩ := rSmall (k := k) 4 (by decide) hw.1
  obtain ⟨t2, e2, f2⟩ := rSmall (k := k) 4 (by decide) hw.2.1
  obtain ⟨t3, e3, f3⟩ := rSmall (k := k) 4 (by decide) hw.2.2
  have c4 : ((4 : Nat) : Int) = 4 := rfl
  rw [c4] at e1 e2 e3
  unfold swarfref03_Small
  rw [e1, Option.bind_some]
  cases t1 with
  | false => exact ⟨false, rfl, fun h => by cases h⟩
  | true =>
    rw [cond_true, e2, Option.bind_some]
    cases t2 with
    | false => exact ⟨false, rfl, fun h => by cases h⟩
    | true =>
      rw [cond_true, e3, Option.bind_some]
      cases t3 with
      | false => exact ⟨false, rfl, fun h => by cases h⟩
      | true =>
        obtain ⟨a, ha, za⟩ := f1.1 rfl
        obtain ⟨b, hb, zb⟩ := f2.1 rfl
        obtain ⟨c, hc, zc⟩ := f3.1 rfl
        obtain ⟨t, ht, hi⟩ := refValid (k := k) hw (by
          rw [ha, hb, hc]
          have := lens_of (q := a); have := lens_of (q := b); have := lens_of (q := c); omega)
        rw [cond_true, ht]
        refine ⟨t, rfl, fun h => ?_⟩
        obtain ⟨x, hx, hv⟩ := hi.1 h
        refine ⟨x, hx, ?_, hv⟩
        obtain ⟨ra, rb, rc⟩ := r
        dsimp only at ha hb hc
        subst ha hb hc
        have : (⟨a, b, c⟩ : Rt) = x := R_inj hx
        rw [← this]; exact ⟨za, zb, zc⟩
theorem small_loop {k : Nat} [F : Fuel k] {l : List RootD} (hl : l.length ≤ 100) (hw : ∀ r ∈ l, WfRoot r) : ∃ t, swarflaw03_small k l = some t ∧ (t = true → ∀ r ∈ l, Good 4 r) := by
  have hlm := LM_val
  unfold swarflaw03_small
  refine Exists.elim (iter_ok (fun (x3 : (List RootD × Int × Int × Unit)) => swarflaw03_small_L0 k x3.1 x3.2.1 x3.2.2.1) (fun n s => ∃ i : Nat, n = l.length - i ∧ i ≤ l.length ∧ s = (l, (l.length : Int), (i : Int), ()) ∧ ∀ j (h : j < l.length), j < i → Good 4 l[j])
    (fun x => x = .inr (false, ()) ∨ (x = .inl () ∧ ∀ r ∈ l, Good 4 r)) ?_ k l.length (l, (l.length : Int), 0, ()) (F.len (by omega)) ⟨0, by omega, by omega, rfl, fun j _ h => by omega⟩) ?_
  rotate_left
  · rintro x ⟨hx, h⟩
    rcases h with rfl | ⟨rfl, h⟩
    · rw [hx]; exact ⟨false, rfl, fun h => by cases h⟩
    · rw [hx]; exact ⟨true, rfl, fun _ => h⟩
  · rintro n s ⟨i, rfl, hi, rfl, hs⟩
    dsimp only
    unfold swarflaw03_small_L0
    by_cases h0 : i = l.length
    · right
      subst h0
      refine ⟨_, by rw [cdecF (by omega), cond_false], .inr ⟨rfl, fun r hr => ?_⟩⟩
      obtain ⟨j, hj, rfl⟩ := List.getElem_of_mem hr
      exact hs j hj hj
    · have hlt : i < l.length := by omega
      have hg : l.getD i default = l[i] := by rw [List.getD_eq_getElem?_getD, List.getElem?_eq_getElem hlt]; rfl
      rw [cdec (by omega), cond_true, ixOk_of (by omega) (by omega), cond_true, Int.toNat_natCast, hg]
      obtain ⟨t, ht, hi'⟩ := refSmall (k := k) (hw l[i] (List.getElem_mem hlt))
      show (∃ s' m, ((swarfref03_Small k l[i] 4).bind _) = some (Sum.inl s') ∧ _) ∨ (∃ x, ((swarfref03_Small k l[i] 4).bind _) = some (Sum.inr x) ∧ _)
      rw [ht]
      simp only [Option.bind_some]
      cases t with
      | false => right; exact ⟨_, rfl, .inl rfl⟩
      | true =>
        left
        refine ⟨_, l.length - (i + 1), by rw [Bool.not_true, cond_false, wI64 (by omega) (by omega)]; rfl, by omega, i + 1, rfl, by omega, rfl, fun j hj hji => ?_⟩
        by_cases hj' : j = i
        · subst hj'; exact hi' rfl
        · exact hs j hj (by omega)
end
end Go.Proofs.YtbjkpogfgijmaaaGreat
