/- Plain laws: comparing numbers a + b sqrt(m) with several radicands; points. -/
import Derived.Test.YtbjkpogfgijmaaaGreatLawA
import Derived.Test.YtbjkpogfgijmaaaGreatLawRootEnclose
namespace Go.Proofs.YtbjkpogfgijmaaaGreat
open Go
set_option linter.unusedVariables false
set_option linter.unusedSimpArgs false

/-! ### The comparison's formula -/
def pick (x y z : Int) : Int := if x = 0 then y else if y = 0 then x else if x = y then x else z
def two5 (a b m : Rat) : Int := pick (sg a) (sg b * sg m) (sg a * cmpQ (a * a) (b * b * m))
def sgn5 (A B C D M N : Rat) : Int :=
  if M < 0 then 0 else if N < 0 then 0 else pick (two5 A B M) (two5 C D M * sg N) (two5 A B M * two5 (A * A + B * B * M - N * (C * C + D * D * M)) (A * B - N * (C * D) + (A * B - N * (C * D))) M)
theorem cmpQ_range (a b : Rat) : cmpQ a b = -1 ∨ cmpQ a b = 0 ∨ cmpQ a b = 1 := by unfold cmpQ; grind
theorem two5_range (a b m : Rat) : two5 a b m = -1 ∨ two5 a b m = 0 ∨ two5 a b m = 1 := by
  unfold two5 pick
  rcases sg_range a with h1 | h1 | h1 <;> rcases sg_range b with h2 | h2 | h2 <;> rcases sg_range m with h3 | h3 | h3 <;> rcases cmpQ_range (a * a) (b * b * m) with h4 | h4 | h4 <;> rw [h1, h2, h3, h4] <;> decide
theorem wrap_small {x y : Int} (hx : x = -1 ∨ x = 0 ∨ x = 1) (hy : y = -1 ∨ y = 0 ∨ y = 1) : IntKind.i64.wrap (x * y) = x * y := by
  rcases hx with h1 | h1 | h1 <;> rcases hy with h2 | h2 | h2 <;> rw [h1, h2] <;> rfl
/-- The nest of tests as it stands in the code. -/
theorem pick_ok (x y : Int) (Z : Option Int) (z : Int) (h : x ≠ 0 → y ≠ 0 → x ≠ y → Z = some z) :
    (bif x == 0 then (bif x == 0 then some y else some x) else bif y == 0 then (bif x == 0 then some y else some x) else bif x == y then (bif x == 0 then some y else some x) else Z) = some (pick x y z) := by
  unfold pick
  by_cases h1 : x = 0
  · subst h1; rfl
  · have e1 : (x == 0) = false := beq_eq_false_iff_ne.2 h1
    rw [e1, if_neg h1]
    simp only [cond_false]
    by_cases h2 : y = 0
    · subst h2; rfl
    · have e2 : (y == 0) = false := beq_eq_false_iff_ne.2 h2
      rw [e2, if_neg h2, cond_false]
      by_cases h3 : x = y
      · subst h3; simp
      · have e3 : (x == y) = false := beq_eq_false_iff_ne.2 h3
        rw [e3, if_neg h3, cond_false]
        exact h h1 h2 h3
section
variable {k : Nat} [F : Fuel k] {n : Nat}
theorem two_ok {a b m : Rat} [x : Rz n a] [y : Rz n b] [z : Rz n m] (h : 100 * n + 1000 ≤ LM) : swarfref05_two k (Q a) (Q b) (Q m) = some (two5 a b m) := by
  unfold swarfref05_two two5
  rw [rQSign, Option.bind_some, rQSign, Option.bind_some, rQSign, Option.bind_some, wrap_small (sg_range b) (sg_range m)]
  have z1 := rzMul x x
  have z2 := rzMul y y
  have z3 := rzMul z2 z
  refine pick_ok _ _ _ _ fun h1 h2 h3 => ?_
  rw [rQMul (by omega), Option.bind_some, rQMul (by omega), Option.bind_some, rQMul (by omega), Option.bind_some, rQCmp (by omega), Option.bind_some, wrap_small (sg_range a) (cmpQ_range _ _)]
class Z5 (n : outParam Nat) (A B C D M N : Rat) : Prop where
  A : Rz n A
  B : Rz n B
  C : Rz n C
  D : Rz n D
  M : Rz n M
  N : Rz n N
theorem sign5_ok {A B C D M N : Rat} [z : Z5 n A B C D M N] (h : 10000 * n + 10000 ≤ LM) : swarfref05_Sign k ⟨Q A, Q B, Q C, Q D, Q M, Q N⟩ = some (sgn5 A B C D M N) := by
  obtain ⟨a, b, c, d, m, nn⟩ := z
  unfold swarfref05_Sign sgn5
  dsimp only
  rw [rQSign, Option.bind_some, lt0]
  by_cases hm : M < 0
  · rw [cdec hm, cond_true, if_pos hm]
  · rw [cdecF hm, cond_false, if_neg hm, rQSign, Option.bind_some, lt0]
    by_cases hn : N < 0
    · rw [cdec hn, cond_true, if_pos hn]
    · have cc := rzMul c c
      have dd := rzMul d d
      have ddm := rzMul dd m
      have s1 := rzAdd cc ddm
      have s2 := rzMul nn s1
      have aa := rzMul a a
      have bb := rzMul b b
      have bbm := rzMul bb m
      have s3 := rzAdd aa bbm
      have s4 := rzSub s3 s2
      have ab := rzMul a b
      have cd := rzMul c d
      have ncd := rzMul nn cd
      have s5 := rzSub ab ncd
      have s6 := rzAdd s5 s5
      have w1 : Rz (20 * n + 20) (A * A + B * B * M - N * (C * C + D * D * M)) := s4.mono (by omega)
      have w2 : Rz (20 * n + 20) (A * B - N * (C * D) + (A * B - N * (C * D))) := s6.mono (by omega)
      have w3 : Rz (20 * n + 20) M := m.mono (by omega)
      rw [cdecF hn, cond_false, if_neg hn, two_ok (x := a) (y := b) (z := m) (by omega), Option.bind_some, two_ok (x := c) (y := d) (z := m) (by omega), Option.bind_some, Option.bind_some, wrap_small (two5_range C D M) (sg_range N)]
      refine pick_ok _ _ _ _ fun h1 h2 h3 => ?_
      rw [rQMul (by omega), Option.bind_some, rQMul (by omega), Option.bind_some, rQMul (by omega), Option.bind_some, rQAdd (by omega), Option.bind_some, rQMul (by omega), Option.bind_some,
        rQMul (by omega), Option.bind_some, rQMul (by omega), Option.bind_some, rQMul (by omega), Option.bind_some, rQAdd (by omega), Option.bind_some, rQSub (by omega), Option.bind_some,
        rQMul (by omega), Option.bind_some, rQMul (by omega), Option.bind_some, rQMul (by omega), Option.bind_some, rQSub (by omega), Option.bind_some, rQAdd (by omega), Option.bind_some, two_ok (x := w1) (y := w2) (z := w3) (by omega), Option.bind_some, wrap_small (two5_range A B M) (two5_range _ _ _)]
def cmp5 (a b : Rt) : Int := sgn5 (a.A - b.A) a.B (-b.B) 0 a.C b.C
theorem cmp5_ok {a b : Rt} [x : Zt n a] [y : Zt n b] (h : 100000 * n + 100000 ≤ LM) : swarfref05_Cmp k (R a) (R b) = some (cmp5 a b) := by
  have xa := x.A; have ya := y.A; have yb := y.B; have xb := x.B
  have s1 := rzSub xa ya
  have s2 := rzNeg yb
  unfold swarfref05_Cmp swarfref05_Sub
  simp only [R]
  rw [rQSub (by omega), Option.bind_some, rQNeg (by omega), Option.bind_some, rQFrom (by omega) (by omega), Option.bind_some, Option.bind_some]
  have z : Z5 (3 * n + 3) (a.A - b.A) a.B (-b.B) 0 a.C b.C := ⟨s1.mono (by omega), xb.mono (by omega), s2.mono (by omega), zero_rz.mono (by omega), x.C.mono (by omega), y.C.mono (by omega)⟩
  have e : ((0 : Int) : Rat) = 0 := rfl
  rw [e, sign5_ok (by omega)]; rfl
end

/-! ### What the comparison says of particular pairs -/
theorem sg0 : sg 0 = 0 := rfl
theorem two5_zero (m : Rat) : two5 0 0 m = 0 := by unfold two5 pick; rw [sg0]; simp
theorem two5_rat (a m : Rat) : two5 a 0 m = sg a := by unfold two5 pick; rw [sg0]; grind
theorem two5_irr (b m : Rat) : two5 0 b m = sg b * sg m := by unfold two5 pick; rw [sg0]; simp
theorem cmp5_rat (a b : Rat) : cmp5 (rat a) (rat b) = sg (a - b) := by
  unfold cmp5 sgn5 rat
  dsimp only
  rw [if_neg (by grind), if_neg (by grind), two5_rat]
  have e : (-0 : Rat) = 0 := rfl
  rw [e, two5_zero]; unfold pick; grind
/-- Equal values with different radicands. -/
theorem cmp5_eq {a b1 b2 c1 c2 : Rat} (h1 : 0 ≤ c1) (h2 : 0 ≤ c2) (hs : sg b1 = sg b2) (hq : b1 * b1 * c1 = b2 * b2 * c2) : cmp5 (red a b1 c1) (red a b2 c2) = 0 := by
  have hz : b1 = 0 ↔ b2 = 0 := by rw [← sg_zero, hs, sg_zero]
  unfold red
  by_cases hb : b1 = 0
  · rw [if_pos hb, if_pos (hz.1 hb), cmp5_rat]
    have : a - a = 0 := by grind
    rw [this]; rfl
  · rw [if_neg hb, if_neg (fun h => hb (hz.2 h))]
    unfold cmp5 sgn5
    dsimp only
    have ea : a - a = 0 := by grind
    rw [ea, if_neg (by grind), if_neg (by grind), two5_irr]
    have e1 : (0 : Rat) * 0 + b1 * b1 * c1 - c2 * (-b2 * -b2 + 0 * 0 * c1) = 0 := by grind
    have e2 : (0 : Rat) * b1 - c2 * (-b2 * 0) + ((0 : Rat) * b1 - c2 * (-b2 * 0)) = 0 := by grind
    rw [e1, e2, two5_zero, two5_rat, Int.mul_zero, sg_neg_eq]
    -- both parts are there, or neither
    have hc : c1 = 0 ↔ c2 = 0 := by
      have hb2 : b2 ≠ 0 := fun h => hb (hz.2 h)
      have p1 := sq_pos hb; have p2 := sq_pos hb2
      constructor
      · intro h; rw [h] at hq; have : b2 * b2 * c2 = 0 := by grind
        rcases Rat.mul_eq_zero.1 this with h3 | h3; grind; exact h3
      · intro h; rw [h] at hq; have : b1 * b1 * c1 = 0 := by grind
        rcases Rat.mul_eq_zero.1 this with h3 | h3; grind; exact h3
    have hsc : sg c1 = sg c2 := by unfold sg; grind
    rw [hs, hsc]
    unfold pick
    rcases sg_range b2 with h3 | h3 | h3 <;> rcases sg_range c2 with h4 | h4 | h4 <;> rw [h3, h4] <;> decide
/-- The lower and the upper one of two conjugates. -/
theorem cmp5_conj {a b c : Rat} (h : 0 < c) : cmp5 (red a (-b) c) (red a b c) = -sg b := by
  unfold red
  by_cases hb : b = 0
  · rw [if_pos (by grind), if_pos hb, cmp5_rat, hb]
    have : a - a = 0 := by grind
    rw [this]; rfl
  · rw [if_neg (by grind), if_neg hb]
    unfold cmp5 sgn5
    dsimp only
    have ea : a - a = 0 := by grind
    rw [ea, if_neg (by grind), if_neg (by grind), two5_irr, two5_rat, sg_neg_eq]
    have hsc : sg c = 1 := by unfold sg; grind
    rw [hsc]
    unfold pick
    rcases sg_range b with h3 | h3 | h3 <;> rw [h3] <;> simp

/-! ### Points -/
structure Pt where
  AX : Rat
  BX : Rat
  AY : Rat
  BY : Rat
  C : Rat
def P (p : Pt) : PointD := ⟨Q p.AX, Q p.BX, Q p.AY, Q p.BY, Q p.C⟩
class Zp (n : outParam Nat) (p : Pt) : Prop where
  AX : Rz n p.AX
  BX : Rz n p.BX
  AY : Rz n p.AY
  BY : Rz n p.BY
  C : Rz n p.C
theorem Zp.mono {m n : Nat} {p : Pt} (z : Zp m p) (h : m ≤ n) : Zp n p := ⟨z.AX.mono h, z.BX.mono h, z.AY.mono h, z.BY.mono h, z.C.mono h⟩
def atP (x y : Rat) : Pt := ⟨x, 0, y, 0, 0⟩
def cmpP (p q : Pt) : Int := if cmp5 (red p.AX p.BX p.C) (red q.AX q.BX q.C) ≠ 0 then cmp5 (red p.AX p.BX p.C) (red q.AX q.BX q.C) else cmp5 (red p.AY p.BY p.C) (red q.AY q.BY q.C)
/-- Reduced form. -/
def Vp (p : Pt) : Prop := (p.BX = 0 ∧ p.BY = 0 ∧ p.C = 0) ∨ (¬ (p.BX = 0 ∧ p.BY = 0) ∧ 0 < p.C ∧ ¬ IsSq p.C)
section
variable {k : Nat} [F : Fuel k] {n : Nat}
theorem rzero7 : swarfref07_zero k = some (Q 0) := by unfold swarfref07_zero; rw [rQFrom (by omega) (by omega)]; rfl
theorem rAt {x y : Rat} : swarfref07_At k ⟨Q x, Q y⟩ = some (P (atP x y)) := by unfold swarfref07_At; rw [rzero7]; rfl
theorem rcoord {a b c : Rat} : swarfref07_coordinate k (Q a) (Q b) (Q c) = some (R (red a b c)) := by
  unfold swarfref07_coordinate red
  rw [rQSign, Option.bind_some, beq0]
  by_cases hb : b = 0
  · rw [cdec hb, cond_true, rfromRat_ok, if_pos hb]; rfl
  · rw [cdecF hb, cond_false, if_neg hb]; rfl
theorem rX {p : Pt} : swarfref07_X k (P p) = some (R (red p.AX p.BX p.C)) := by
  unfold swarfref07_X
  show ((swarfref07_coordinate k (Q p.AX) (Q p.BX) (Q p.C)).bind _) = _
  rw [rcoord]; rfl
theorem rY {p : Pt} : swarfref07_Y k (P p) = some (R (red p.AY p.BY p.C)) := by
  unfold swarfref07_Y
  show ((swarfref07_coordinate k (Q p.AY) (Q p.BY) (Q p.C)).bind _) = _
  rw [rcoord]; rfl
theorem rCompare {p q : Pt} [z : Zp n p] [w : Zp n q] (hn : 2 ≤ n) (h : 100000 * n + 100000 ≤ LM) : swarfref07_Compare k (P p) (P q) = some (cmpP p q) := by
  have z1 := red_zt z.AX z.BX z.C hn
  have z2 := red_zt w.AX w.BX w.C hn
  have z3 := red_zt z.AY z.BY z.C hn
  have z4 := red_zt w.AY w.BY w.C hn
  unfold swarfref07_Compare cmpP
  rw [rX, Option.bind_some, rX, Option.bind_some, cmp5_ok h, Option.bind_some]
  by_cases hc : cmp5 (red p.AX p.BX p.C) (red q.AX q.BX q.C) = 0
  · have : (cmp5 (red p.AX p.BX p.C) (red q.AX q.BX q.C) != 0) = false := by rw [hc]; rfl
    rw [this, cond_false, if_neg (by omega), rY, Option.bind_some, rY, Option.bind_some, cmp5_ok h]; rfl
  · have : (cmp5 (red p.AX p.BX p.C) (red q.AX q.BX q.C) != 0) = true := by simpa using hc
    rw [this, cond_true, if_pos hc]
theorem rEqual {p q : Pt} [z : Zp n p] [w : Zp n q] (hn : 2 ≤ n) (h : 100000 * n + 100000 ≤ LM) : swarfref07_Equal k (P p) (P q) = some (decide (cmpP p q = 0)) := by
  unfold swarfref07_Equal
  rw [rCompare hn h]; rfl
theorem rPValid {p : Pt} [z : Zp n p] (h : n ≤ 10000) (hv : Vp p) : swarfref07_Valid k (P p) = some true := by
  have hlm := LM_val
  unfold swarfref07_Valid
  simp only [P]
  have zc := z.C
  rw [rQValid_Q z.AX h, Option.bind_some, Bool.not_true, cond_false, rQValid_Q z.AY h, Option.bind_some, Bool.not_true, cond_false, rQValid_Q z.BX h, Option.bind_some, Bool.not_true, cond_false, rQValid_Q z.BY h, Option.bind_some, Bool.not_true, cond_false,
    rQValid_Q z.C h, Option.bind_some, Bool.not_true, cond_false, rQSign, Option.bind_some, beq0]
  rcases hv with ⟨h1, h2, h3⟩ | ⟨h1, h2, h3⟩
  · rw [cdec h1, cond_true, rQSign, Option.bind_some, beq0, cdec h2, cond_true, rQSign, Option.bind_some, beq0, cdec h3]
  · have tail : ((swarfref02_Sqrt k (Q p.C)).bind fun x9 => (swarfref02_Sign k (Q p.C)).bind fun x10 => bif decide (x10 > 0) then some (!x9.2) else some false) = some true := by
      rw [rQSqrt_neg (by omega) h3, Option.bind_some, rQSign, Option.bind_some, gt0, cdec h2]; rfl
    by_cases hx : p.BX = 0
    · rw [cdec hx, cond_true, rQSign, Option.bind_some, beq0, cdecF (fun hy => h1 ⟨hx, hy⟩), cond_false]; exact tail
    · rw [cdecF hx, cond_false]; exact tail
end
theorem cmpP_self {p : Pt} (hv : Vp p) : cmpP p p = 0 := by
  have hc : 0 ≤ p.C := by unfold Vp at hv; grind
  unfold cmpP
  rw [cmp5_eq hc hc rfl rfl, cmp5_eq hc hc rfl rfl]; rfl
end Go.Proofs.YtbjkpogfgijmaaaGreat
