/- Plain laws: numbers a + b sqrt(c): what the program and the reference answer. -/
import Derived.Test.YtbjkpogfgijmaaaGreatTh15
namespace Go.Proofs.YtbjkpogfgijmaaaGreat
open Go
set_option linter.unusedVariables false
set_option linter.unusedSimpArgs false

structure Rt where
  A : Rat
  B : Rat
  C : Rat
def R (x : Rt) : RootD := ⟨Q x.A, Q x.B, Q x.C⟩
theorem R_inj {x y : Rt} (h : R x = R y) : x = y := by
  have h1 := Q_inj (congrArg RootD.A h)
  have h2 := Q_inj (congrArg RootD.B h)
  have h3 := Q_inj (congrArg RootD.C h)
  cases x; cases y; simp at *; exact ⟨h1, h2, h3⟩
class Zt (n : outParam Nat) (x : Rt) : Prop where
  A : Rz n x.A
  B : Rz n x.B
  C : Rz n x.C
theorem Zt.mono {m n : Nat} {x : Rt} (z : Zt m x) (h : m ≤ n) : Zt n x := ⟨z.A.mono h, z.B.mono h, z.C.mono h⟩
def zRoot : RootD := ⟨zR, zR, zR⟩
def rat (a : Rat) : Rt := ⟨a, 0, 0⟩
def norm (x : Rt) : Rat := x.A * x.A - x.B * x.B * x.C
open Classical in
noncomputable def mk (a b c : Rat) : Rt := if IsSq c then rat (a + b * rsq c) else if b = 0 then rat a else ⟨a, b, c⟩
def red (a b c : Rat) : Rt := if b = 0 then rat a else ⟨a, b, c⟩
def sgR (x : Rt) : Int := if x.B = 0 then sg x.A else if sg x.A = sg x.B then sg x.A else if x.A = 0 then sg x.B else sg x.A * sg (norm x)
def neg (x : Rt) : Rt := ⟨-x.A, -x.B, x.C⟩
def scale (x : Rt) (k : Rat) : Rt := red (x.A * k) (x.B * k) x.C
/-- Reduced form. -/
def Vr (x : Rt) : Prop := (x.B = 0 ∧ x.C = 0) ∨ (x.B ≠ 0 ∧ 0 < x.C ∧ ¬ IsSq x.C)
theorem zero_rz : Rz 2 (0 : Rat) := ⟨szSmall (by decide), szSmall (by decide)⟩
theorem sg_range (q : Rat) : sg q = -1 ∨ sg q = 0 ∨ sg q = 1 := by unfold sg; grind
section
variable {k : Nat} [F : Fuel k] {n : Nat}
theorem zero_ok : root_zero k = some (Q 0) := by
  unfold root_zero
  rw [qFrom (by omega) (by omega)]; rfl
theorem fromRat_ok {a : Rat} : root_FromRat k (Q a) = some (R (rat a)) := by
  unfold root_FromRat
  rw [zero_ok]; rfl
theorem beq0 {a : Rat} : (sg a == 0) = decide (a = 0) := by
  have : (sg a == 0) = decide (sg a = 0) := rfl
  rw [this]; exact dec_congr sg_zero
theorem reduced_ok {a b c : Rat} : root_reduced k (Q a) (Q b) (Q c) = some (R (red a b c)) := by
  unfold root_reduced red
  rw [qSign, Option.bind_some, beq0]
  by_cases hb : b = 0
  · rw [cdec hb, cond_true, zero_ok, if_pos hb, hb]; rfl
  · rw [cdecF hb, cond_false, if_neg hb]; rfl
theorem lt0 {a : Rat} : decide (sg a < 0) = decide (a < 0) := dec_congr sg_neg
theorem gt0 {a : Rat} : decide (sg a > 0) = decide (0 < a) := dec_congr sg_pos
theorem make_eq {a b c : Rat} [x : Rz n a] [y : Rz n b] [z : Rz n c] (h : 100 * n + 1000 ≤ LM) : root_Make k (Q a) (Q b) (Q c) = some (if c < 0 then (zRoot, 7) else (R (mk a b c), 0)) := by
  unfold root_Make
  rw [qSign, Option.bind_some, lt0]
  by_cases hc : c < 0
  · rw [cdec hc, cond_true, if_pos hc]; rfl
  · rw [cdecF hc, cond_false, if_neg hc]
    unfold mk
    by_cases hs : IsSq c
    · have z' := rzSqrt z
      have w := rzMul y z'
      rw [qSqrt_pos (by omega) hs, Option.bind_some, cond_true, qMul (by omega), Option.bind_some, qAdd (by omega), Option.bind_some, fromRat_ok, Option.bind_some, if_pos hs]
    · rw [qSqrt_neg (by omega) hs, Option.bind_some, cond_false, reduced_ok, Option.bind_some, if_neg hs]; rfl
theorem nrm_ok {x : Rt} [z : Zt n x] (h : 100 * n + 1000 ≤ LM) : root_norm k (R x) = some (Q (norm x)) := by
  have a := z.A; have b := z.B; have c := z.C
  have a2 := rzMul a a
  have b2 := rzMul b b
  have b2c := rzMul b2 c
  unfold root_norm
  show ((rational_Mul k (Q x.A) (Q x.A)).bind _) = _
  rw [qMul (by omega), Option.bind_some]
  show ((rational_Mul k (Q x.B) (Q x.B)).bind _) = _
  rw [qMul (by omega), Option.bind_some]
  show ((rational_Mul k (Q (x.B * x.B)) (Q x.C)).bind _) = _
  rw [qMul (by omega), Option.bind_some, qSub (by omega), Option.bind_some]; rfl
theorem sgR_mul_wrap (a b : Rat) : IntKind.i64.wrap (sg a * sg b) = sg a * sg b := by
  rcases sg_range a with h1 | h1 | h1 <;> rcases sg_range b with h2 | h2 | h2 <;> rw [h1, h2] <;> rfl
theorem sign_ok {x : Rt} [z : Zt n x] (h : 100 * n + 1000 ≤ LM) : root_Sign k (R x) = some (sgR x) := by
  unfold root_Sign
  show ((rational_Sign k (Q x.A)).bind _) = _
  rw [qSign, Option.bind_some]
  show ((rational_Sign k (Q x.B)).bind _) = _
  rw [qSign, Option.bind_some, beq0]
  unfold sgR
  by_cases hb : x.B = 0
  · rw [cdec hb, cond_true, if_pos hb]
  · rw [cdecF hb, cond_false, if_neg hb]
    by_cases he : sg x.A = sg x.B
    · have e : (sg x.A == sg x.B) = true := by rw [he]; simp
      rw [e, cond_true, if_pos he]
    · have e : (sg x.A == sg x.B) = false := beq_eq_false_iff_ne.2 he
      rw [e, cond_false, if_neg he, beq0]
      by_cases ha : x.A = 0
      · rw [cdec ha, cond_true, if_pos ha]
      · rw [cdecF ha, cond_false, if_neg ha, nrm_ok h, Option.bind_some, qSign, Option.bind_some, sgR_mul_wrap]
theorem rneg_ok {x : Rt} [z : Zt n x] (h : 100 * n + 1000 ≤ LM) : root_Neg k (R x) = some (R (neg x)) := by
  have a := z.A; have b := z.B
  unfold root_Neg
  show ((rational_Neg k (Q x.A)).bind _) = _
  rw [qNeg (by omega), Option.bind_some]
  show ((rational_Neg k (Q x.B)).bind _) = _
  rw [qNeg (by omega)]; rfl
theorem scale_ok {x : Rt} {m : Nat} {q : Rat} [z : Zt n x] [y : Rz m q] (h : 100 * (n + m) + 1000 ≤ LM) : root_Scale k (R x) (Q q) = some (R (scale x q)) := by
  have a := z.A; have b := z.B
  unfold root_Scale
  show ((rational_Mul k (Q x.A) (Q q)).bind _) = _
  rw [qMul (by omega), Option.bind_some]
  show ((rational_Mul k (Q x.B) (Q q)).bind _) = _
  rw [qMul (by omega), Option.bind_some]
  show ((root_reduced k _ _ (Q x.C)).bind _) = _
  rw [reduced_ok]; rfl
omit [F : Fuel k] in
theorem rational_ok {x : Rt} : root_Rational k (R x) = some (if x.B = 0 then (Q x.A, true) else (zR, false)) := by
  unfold root_Rational
  show ((rational_Sign k (Q x.B)).bind _) = _
  rw [qSign, Option.bind_some]
  by_cases hb : x.B = 0
  · have : (sg x.B != 0) = false := by rw [sg_zero.2 hb]; rfl
    rw [this, if_pos hb]; rfl
  · have : (sg x.B != 0) = true := by simpa using fun h => hb (sg_zero.1 h)
    rw [this, if_neg hb]; rfl
/-- The common radicand. -/
def com (x y : Rt) : Rat := if x.B = 0 then y.C else x.C
def comOk (x y : Rt) : Prop := x.B = 0 ∨ y.B = 0 ∨ x.C = y.C
instance (x y : Rt) : Decidable (comOk x y) := by unfold comOk; infer_instance
theorem common_ok {x y : Rt} [z : Zt n x] [w : Zt n y] (h : 100 * n + 1000 ≤ LM) : root_common k (R x) (R y) = some (Q (com x y), decide (comOk x y)) := by
  have c := z.C; have c' := w.C
  unfold root_common com comOk
  show ((rational_Sign k (Q x.B)).bind _) = _
  rw [qSign, Option.bind_some, beq0]
  by_cases hb : x.B = 0
  · rw [cdec hb, cond_true, if_pos hb]; simp [hb, R]
  · rw [cdecF hb, cond_false, if_neg hb]
    show ((rational_Sign k (Q y.B)).bind _) = _
    rw [qSign, Option.bind_some, beq0]
    by_cases hb' : y.B = 0
    · rw [cdec hb', cond_true]; simp [hb', R]
    · rw [cdecF hb', cond_false]
      show ((rational_Cmp k (Q x.C) (Q y.C)).bind _) = _
      rw [qCmp (by omega), Option.bind_some]
      have : (cmpQ x.C y.C == 0) = decide (cmpQ x.C y.C = 0) := rfl
      rw [this]
      congr 2
      apply dec_congr
      rw [cmpQ_zero]; simp [hb, hb']
def addR (x y : Rt) : Rt := red (x.A + y.A) (x.B + y.B) (com x y)
def mulR (x y : Rt) : Rt := red (x.A * y.A + x.B * y.B * com x y) (x.A * y.B + x.B * y.A) (com x y)
theorem com_rz {x y : Rt} (z : Zt n x) (w : Zt n y) : Rz n (com x y) := by unfold com; split; exact w.C; exact z.C
theorem add_ok {x y : Rt} [z : Zt n x] [w : Zt n y] (h : 100 * n + 1000 ≤ LM) : root_Add k (R x) (R y) = some (if comOk x y then (R (addR x y), 0) else (zRoot, 1)) := by
  have a := z.A; have b := z.B; have a' := w.A; have b' := w.B
  unfold root_Add
  rw [common_ok h, Option.bind_some]
  by_cases hc : comOk x y
  · rw [if_pos hc, cdec hc, Bool.not_true, cond_false]
    show ((rational_Add k (Q x.A) (Q y.A)).bind _) = _
    rw [qAdd (by omega), Option.bind_some]
    show ((rational_Add k (Q x.B) (Q y.B)).bind _) = _
    rw [qAdd (by omega), Option.bind_some]
    show ((root_reduced k _ _ (Q (com x y))).bind _) = _
    rw [reduced_ok]; rfl
  · rw [if_neg hc, cdecF hc]; rfl
theorem mul_ok {x y : Rt} [z : Zt n x] [w : Zt n y] (h : 100 * n + 1000 ≤ LM) : root_Mul k (R x) (R y) = some (if comOk x y then (R (mulR x y), 0) else (zRoot, 1)) := by
  have a := z.A; have b := z.B; have a' := w.A; have b' := w.B; have c := com_rz z w
  have aa := rzMul a a'
  have bb := rzMul b b'
  have bbc := rzMul bb c
  have ab := rzMul a b'
  have ba := rzMul b a'
  unfold root_Mul
  rw [common_ok h, Option.bind_some]
  by_cases hc : comOk x y
  · rw [if_pos hc, cdec hc, Bool.not_true, cond_false]
    show ((rational_Mul k (Q x.A) (Q y.A)).bind _) = _
    simp only [R]
    rw [qMul (by omega), Option.bind_some, qMul (by omega), Option.bind_some, qMul (by omega), Option.bind_some, qAdd (by omega), Option.bind_some, qMul (by omega), Option.bind_some, qMul (by omega), Option.bind_some, qAdd (by omega), Option.bind_some, reduced_ok]
    rfl
  · rw [if_neg hc, cdecF hc]; rfl
def invR (x : Rt) : Rt := scale ⟨x.A, -x.B, x.C⟩ (1 / norm x)
theorem norm_rz {x : Rt} (z : Zt n x) : Rz (5 * n + 1) (norm x) := (rzSub (rzMul z.A z.A) (rzMul (rzMul z.B z.B) z.C)).mono (by omega)
theorem one_rz : Rz 2 (1 : Rat) := ⟨szSmall (by decide), szSmall (by decide)⟩
theorem inv_ok {x : Rt} [z : Zt n x] (h : 1000 * n + 10000 ≤ LM) (hn : sgR x ≠ 0 → norm x ≠ 0) : root_Inv k (R x) = some (if sgR x = 0 then (zRoot, 6) else (R (invR x), 0)) := by
  have b := z.B
  unfold root_Inv
  rw [sign_ok (by omega), Option.bind_some]
  by_cases h0 : sgR x = 0
  · rw [h0, if_pos rfl]; rfl
  · rw [beq_eq_false_iff_ne.2 h0, cond_false, if_neg h0]
    have hq := hn h0
    have o := one_rz
    have nz := norm_rz z
    have q := rzQuo o nz
    rw [qFrom (by omega) (by omega), Option.bind_some, nrm_ok (by omega), Option.bind_some]
    have e1 : (((1 : Int) : Rat)) = (1 : Rat) := rfl
    rw [e1, qDiv (by omega), if_neg hq, Option.bind_some]
    show ((rational_Neg k (Q x.B)).bind _) = _
    rw [qNeg (by omega), Option.bind_some]
    have z' : Zt n ⟨x.A, -x.B, x.C⟩ := ⟨z.A, rzNeg z.B, z.C⟩
    show ((root_Scale k (R ⟨x.A, -x.B, x.C⟩) (Q (1 / norm x))).bind _) = _
    rw [scale_ok (by omega)]; rfl

/-! ### The reference -/
theorem rzero_ok : swarfref03_zero k = some (Q 0) := by
  unfold swarfref03_zero
  rw [rQFrom (by omega) (by omega)]; rfl
theorem rone_ok : swarfref03_one k = some (Q 1) := by
  unfold swarfref03_one
  rw [rQFrom (by omega) (by omega)]; rfl
theorem rfromRat_ok {a : Rat} : swarfref03_FromRat k (Q a) = some (R (rat a)) := by
  unfold swarfref03_FromRat
  rw [rzero_ok]; rfl
theorem rreduced_ok {a b c : Rat} (h : b ≠ 0 → c ≠ 0) : swarfref03_reduced k (Q a) (Q b) (Q c) = some (R (red a b c)) := by
  unfold swarfref03_reduced red
  rw [rQSign, Option.bind_some, beq0]
  by_cases hb : b = 0
  · rw [cdec hb, cond_true, rfromRat_ok, if_pos hb]; rfl
  · rw [cdecF hb, cond_false, if_neg hb, rQSign, Option.bind_some, beq0, cdecF (h hb), cond_false]; rfl
theorem not_sq_ne {c : Rat} (h : ¬ IsSq c) : c ≠ 0 := fun h0 => h ⟨0, by grind, by rw [h0]; grind⟩
theorem rmake_eq {a b c : Rat} [x : Rz n a] [y : Rz n b] [z : Rz n c] (h : 100 * n + 1000 ≤ LM) : swarfref03_Make k (Q a) (Q b) (Q c) = some (if c < 0 then (zRoot, 7) else (R (mk a b c), 0)) := by
  unfold swarfref03_Make
  rw [rQSign, Option.bind_some, lt0]
  by_cases hc : c < 0
  · rw [cdec hc, cond_true, if_pos hc]; rfl
  · rw [cdecF hc, cond_false, if_neg hc]
    unfold mk
    by_cases hs : IsSq c
    · have z' := rzSqrt z
      have w := rzMul y z'
      rw [rQSqrt_pos (by omega) hs, Option.bind_some, cond_true, rQMul (by omega), Option.bind_some, rQAdd (by omega), Option.bind_some, rfromRat_ok, Option.bind_some, if_pos hs]
    · rw [rQSqrt_neg (by omega) hs, Option.bind_some, cond_false, rreduced_ok (fun _ => not_sq_ne hs), Option.bind_some, if_neg hs]; rfl
theorem rsquare_ok {a : Rat} [x : Rz n a] (h : 100 * n + 1000 ≤ LM) : swarfref03_square k (Q a) = some (Q (a * a)) := by
  unfold swarfref03_square
  rw [rQMul (by omega)]; rfl
theorem rnorm_ok {x : Rt} [z : Zt n x] (h : 100 * n + 1000 ≤ LM) : swarfref03_norm k (R x) = some (Q (norm x)) := by
  have a := z.A; have b := z.B; have c := z.C
  have a2 := rzMul a a
  have b2 := rzMul b b
  have b2c := rzMul b2 c
  unfold swarfref03_norm
  simp only [R]
  rw [rsquare_ok h, Option.bind_some, rsquare_ok h, Option.bind_some, rQMul (by omega), Option.bind_some, rQSub (by omega), Option.bind_some]; rfl
theorem rsign_ok {x : Rt} [z : Zt n x] (h : 100 * n + 1000 ≤ LM) (hn : x.A ≠ 0 → x.B ≠ 0 → norm x ≠ 0) : swarfref03_Sign k (R x) = some (sgR x) := by
  unfold swarfref03_Sign
  show ((swarfref02_Sign k (Q x.A)).bind _) = _
  rw [rQSign, Option.bind_some]
  show ((swarfref02_Sign k (Q x.B)).bind _) = _
  rw [rQSign, Option.bind_some]
  unfold sgR
  by_cases he : sg x.A = sg x.B
  · have e : (sg x.A == sg x.B) = true := by rw [he]; simp
    rw [e, cond_true]
    split
    · rfl
    · rfl
  · have e : (sg x.A == sg x.B) = false := beq_eq_false_iff_ne.2 he
    rw [e, cond_false, beq0]
    by_cases hb : x.B = 0
    · rw [cdec hb, cond_true, if_pos hb]
    · rw [cdecF hb, cond_false, if_neg hb, if_neg he, beq0]
      by_cases ha : x.A = 0
      · rw [cdec ha, cond_true, if_pos ha]
      · rw [cdecF ha, cond_false, if_neg ha, rnorm_ok h, Option.bind_some, rQSign, Option.bind_some, gt0]
        have h1 := hn ha hb
        have h2 := sg_range x.A; have h3 := sg_range x.B; have h4 := @sg_zero x.A; have h5 := @sg_zero x.B
        by_cases hp : 0 < norm x
        · rw [cdec hp, cond_true]
          have : sg (norm x) = 1 := by unfold sg; grind
          rw [this]; congr 1; omega
        · rw [cdecF hp, cond_false]
          have : sg (norm x) = -1 := by unfold sg; grind
          rw [this]; congr 1
          have h6 : sg x.A ≠ 0 := fun h => ha (h4.1 h)
          have h7 : sg x.B ≠ 0 := fun h => hb (h5.1 h)
          omega
theorem rrneg_ok {x : Rt} [z : Zt n x] (h : 100 * n + 1000 ≤ LM) : swarfref03_Neg k (R x) = some (R (neg x)) := by
  have a := z.A; have b := z.B
  unfold swarfref03_Neg
  simp only [R]
  rw [rQNeg (by omega), Option.bind_some, rQNeg (by omega)]; rfl
theorem rscale_ok {x : Rt} {m : Nat} {q : Rat} [z : Zt n x] [y : Rz m q] (h : 100 * (n + m) + 1000 ≤ LM) (hv : x.B ≠ 0 → x.C ≠ 0) : swarfref03_Scale k (R x) (Q q) = some (R (scale x q)) := by
  have a := z.A; have b := z.B
  unfold swarfref03_Scale
  simp only [R]
  rw [rQMul (by omega), Option.bind_some, rQMul (by omega), Option.bind_some, rreduced_ok (fun hb => hv (fun h0 => hb (by rw [h0, Rat.zero_mul])))]; rfl
omit [F : Fuel k] in
theorem rrational_ok {x : Rt} : swarfref03_Rational k (R x) = some (if x.B = 0 then (Q x.A, true) else (zR, false)) := by
  unfold swarfref03_Rational
  show ((swarfref02_Sign k (Q x.B)).bind _) = _
  rw [rQSign, Option.bind_some]
  by_cases hb : x.B = 0
  · have : (sg x.B != 0) = false := by rw [sg_zero.2 hb]; rfl
    rw [this, if_pos hb]; rfl
  · have : (sg x.B != 0) = true := by simpa using fun h => hb (sg_zero.1 h)
    rw [this, if_neg hb]; rfl
theorem rcommon_ok {x y : Rt} [z : Zt n x] [w : Zt n y] (h : 100 * n + 1000 ≤ LM) : swarfref03_common k (R x) (R y) = some (Q (com x y), decide (comOk x y)) := by
  have c := z.C; have c' := w.C
  unfold swarfref03_common com comOk
  show ((swarfref02_Sign k (Q x.B)).bind _) = _
  rw [rQSign, Option.bind_some, beq0]
  by_cases hb : x.B = 0
  · rw [cdec hb, cond_true, if_pos hb]; simp [hb, R]
  · rw [cdecF hb, cond_false, if_neg hb]
    show ((swarfref02_Sign k (Q y.B)).bind _) = _
    rw [rQSign, Option.bind_some, beq0]
    by_cases hb' : y.B = 0
    · rw [cdec hb', cond_true]; simp [hb', R]
    · rw [cdecF hb', cond_false]
      show ((swarfref02_Cmp k (Q x.C) (Q y.C)).bind _) = _
      rw [rQCmp (by omega), Option.bind_some]
      have : (cmpQ x.C y.C == 0) = decide (cmpQ x.C y.C = 0) := rfl
      rw [this]
      congr 2
      apply dec_congr
      rw [cmpQ_zero]; simp [hb, hb']
/-- A sum or a product that is not rational has a radicand. -/
theorem com_ne {x y : Rt} (hx : Vr x) (hy : Vr y) (hb : x.B ≠ 0 ∨ y.B ≠ 0) : com x y ≠ 0 := by
  unfold com Vr at *
  grind
theorem radd_ok {x y : Rt} [z : Zt n x] [w : Zt n y] (h : 100 * n + 1000 ≤ LM) (hx : Vr x) (hy : Vr y) : swarfref03_Add k (R x) (R y) = some (if comOk x y then (R (addR x y), 0) else (zRoot, 1)) := by
  have a := z.A; have b := z.B; have a' := w.A; have b' := w.B
  unfold swarfref03_Add
  rw [rcommon_ok h, Option.bind_some]
  by_cases hc : comOk x y
  · rw [if_pos hc, cdec hc, Bool.not_true, cond_false]
    simp only [R]
    rw [rQAdd (by omega), Option.bind_some, rQAdd (by omega), Option.bind_some, rreduced_ok (fun hb => com_ne hx hy (by grind))]; rfl
  · rw [if_neg hc, cdecF hc]; rfl
theorem rmul_ok {x y : Rt} [z : Zt n x] [w : Zt n y] (h : 100 * n + 1000 ≤ LM) (hx : Vr x) (hy : Vr y) : swarfref03_Mul k (R x) (R y) = some (if comOk x y then (R (mulR x y), 0) else (zRoot, 1)) := by
  have a := z.A; have b := z.B; have a' := w.A; have b' := w.B; have c := com_rz z w
  have aa := rzMul a a'
  have bb := rzMul b b'
  have bbc := rzMul bb c
  have ab := rzMul a b'
  have ba := rzMul b a'
  unfold swarfref03_Mul
  rw [rcommon_ok h, Option.bind_some]
  by_cases hc : comOk x y
  · rw [if_pos hc, cdec hc, Bool.not_true, cond_false]
    simp only [R]
    rw [rQMul (by omega), Option.bind_some, rQMul (by omega), Option.bind_some, rQMul (by omega), Option.bind_some, rQAdd (by omega), Option.bind_some, rQMul (by omega), Option.bind_some, rQMul (by omega), Option.bind_some, rQAdd (by omega), Option.bind_some,
      rreduced_ok (fun hb => com_ne hx hy (by grind))]
    rfl
  · rw [if_neg hc, cdecF hc]; rfl
theorem raddRat_ok {x : Rt} {m : Nat} {q : Rat} [z : Zt n x] [y : Rz m q] (h : 100 * (n + m) + 1000 ≤ LM) : swarfref03_AddRat k (R x) (Q q) = some (R ⟨x.A + q, x.B, x.C⟩) := by
  have a := z.A
  unfold swarfref03_AddRat
  simp only [R]
  rw [rQAdd (by omega)]; rfl
theorem rinv_ok {x : Rt} [z : Zt n x] (h : 1000 * n + 10000 ≤ LM) (hn : x.A ≠ 0 → x.B ≠ 0 → norm x ≠ 0) (hn' : sgR x ≠ 0 → norm x ≠ 0) (hv : x.B ≠ 0 → x.C ≠ 0) : swarfref03_Inv k (R x) = some (if sgR x = 0 then (zRoot, 6) else (R (invR x), 0)) := by
  have a := z.A; have b := z.B
  unfold swarfref03_Inv
  rw [rsign_ok (by omega) hn, Option.bind_some]
  by_cases h0 : sgR x = 0
  · rw [h0, if_pos rfl]; rfl
  · rw [beq_eq_false_iff_ne.2 h0, cond_false, if_neg h0]
    have hq := hn' h0
    have o := one_rz
    have nz := norm_rz z
    have q := rzQuo o nz
    have bq := rzMul b q
    rw [rone_ok, Option.bind_some, rnorm_ok (by omega), Option.bind_some, rQDiv (by omega), if_neg hq, Option.bind_some]
    simp only [R]
    rw [rQMul (by omega), Option.bind_some, rQMul (by omega), Option.bind_some, rQNeg (by omega), Option.bind_some, rreduced_ok (fun hb => hv (fun h0 => hb (by rw [h0]; grind))), Option.bind_some]
    have e : -x.B * (1 / norm x) = -(x.B * (1 / norm x)) := by grind
    unfold invR scale
    dsimp only
    rw [e]; rfl
end
end Go.Proofs.YtbjkpogfgijmaaaGreat
