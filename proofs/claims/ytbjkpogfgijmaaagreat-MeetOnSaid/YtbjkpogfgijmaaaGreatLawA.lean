/- Plain laws: what the root laws have in common. Plain laws: guards over one root and two. Plain laws: the floor of a number a + b sqrt(c): what the program and the reference answer, and that it is right. -/
import Derived.Test.YtbjkpogfgijmaaaGreatTh16
import Derived.Test.YtbjkpogfgijmaaaGreatAwake
namespace Go.Proofs.YtbjkpogfgijmaaaGreat
/-! ## Plain laws: what the root laws have in common. -/
section
open Go
set_option linter.unusedVariables false
set_option linter.unusedSimpArgs false

theorem small4 {k : Nat} [F : Fuel k] {a : RatD} (hw : WfQ a) : ∃ t, swarfref02_Small k a 4 = some t ∧ (t = true → ∃ q, a = Q q ∧ Rz 4 q) := by
  obtain ⟨t, h, i⟩ := rSmall (k := k) 4 (by decide) hw
  exact ⟨t, h, i.1⟩
theorem rat_zt {n : Nat} {q : Rat} (z : Rz n q) (h : 2 ≤ n) : Zt n (rat q) := ⟨z, zero_rz.mono h, zero_rz.mono h⟩
theorem red_zt {n : Nat} {a b c : Rat} (x : Rz n a) (y : Rz n b) (z : Rz n c) (h : 2 ≤ n) : Zt n (red a b c) := by
  unfold red; split
  · exact rat_zt x h
  · exact ⟨x, y, z⟩
theorem mk_zt {n : Nat} {a b c : Rat} (x : Rz n a) (y : Rz n b) (z : Rz n c) (h : 2 ≤ n) : Zt (3 * n + 1) (mk a b c) := by
  unfold mk; split
  · exact rat_zt ((rzAdd x (rzMul y (rzSqrt z))).mono (by omega)) (by omega)
  · split
    · exact (rat_zt x h).mono (by omega)
    · exact Zt.mono ⟨x, y, z⟩ (by omega)
theorem addR_zt {n : Nat} {x y : Rt} (z : Zt n x) (w : Zt n y) (h : 2 ≤ n) : Zt (2 * n + 1) (addR x y) :=
  red_zt ((rzAdd z.A w.A).mono (by omega)) ((rzAdd z.B w.B).mono (by omega)) ((com_rz z w).mono (by omega)) (by omega)
theorem mulR_zt {n : Nat} {x y : Rt} (z : Zt n x) (w : Zt n y) (h : 2 ≤ n) : Zt (5 * n + 1) (mulR x y) :=
  red_zt ((rzAdd (rzMul z.A w.A) (rzMul (rzMul z.B w.B) (com_rz z w))).mono (by omega)) ((rzAdd (rzMul z.A w.B) (rzMul z.B w.A)).mono (by omega)) ((com_rz z w).mono (by omega)) (by omega)
theorem scale_zt {n m : Nat} {x : Rt} {q : Rat} (z : Zt n x) (y : Rz m q) (h : 2 ≤ n) : Zt (n + m) (scale x q) :=
  red_zt (rzMul z.A y) (rzMul z.B y) (z.C.mono (by omega)) (by omega)
theorem invR_zt {n : Nat} {x : Rt} (z : Zt n x) (h : 2 ≤ n) : Zt (6 * n + 3) (invR x) :=
  (scale_zt (x := ⟨x.A, -x.B, x.C⟩) ⟨z.A, rzNeg z.B, z.C⟩ (rzQuo one_rz (norm_rz z)) h).mono (by omega)
theorem red_vr {a b c : Rat} (h : b ≠ 0 → 0 < c ∧ ¬ IsSq c) : Vr (red a b c) := by
  unfold red Vr; split
  · left; exact ⟨rfl, rfl⟩
  · right; rename_i hb; exact ⟨hb, h hb⟩
theorem mk_vr {a b c : Rat} (hc : 0 ≤ c) : Vr (mk a b c) := by
  unfold mk Vr; split
  · left; exact ⟨rfl, rfl⟩
  · rename_i hs
    have := not_sq_ne hs
    split
    · left; exact ⟨rfl, rfl⟩
    · right; rename_i hb; exact ⟨hb, by grind, hs⟩
theorem scale_vr {x : Rt} {q : Rat} (hv : Vr x) : Vr (scale x q) := red_vr fun hb => by
  rcases hv with ⟨h, _⟩ | ⟨_, h⟩
  · exact absurd (by rw [h, Rat.zero_mul]) hb
  · exact h
theorem com_prop {x y : Rt} (hx : Vr x) (hy : Vr y) (h : x.B ≠ 0 ∨ y.B ≠ 0) : 0 < com x y ∧ ¬ IsSq (com x y) := by
  unfold com
  by_cases hb : x.B = 0
  · rw [if_pos hb]
    rcases hy with ⟨h1, _⟩ | ⟨_, h1⟩
    · grind
    · exact h1
  · rw [if_neg hb]
    rcases hx with ⟨h1, _⟩ | ⟨_, h1⟩
    · exact absurd h1 hb
    · exact h1
theorem addR_vr {x y : Rt} (hx : Vr x) (hy : Vr y) : Vr (addR x y) := red_vr fun hb => com_prop hx hy (by grind)
theorem mulR_vr {x y : Rt} (hx : Vr x) (hy : Vr y) : Vr (mulR x y) := red_vr fun hb => com_prop hx hy (by grind)
theorem mk_nonneg_lt {c : Rat} : ¬ c < 0 ↔ 0 ≤ c := by grind
end
/-! ## Plain laws: guards over one root and two. -/
section
open Go
set_option linter.unusedVariables false
set_option linter.unusedSimpArgs false
theorem guard1 {k : Nat} [F : Fuel k] {r : RootD} (h : WfRoot r) : ∃ t, swarflaw03_small k ([r] : List RootD) = some t ∧ (t = true → Good 4 r) := by
  obtain ⟨t, e, f⟩ := small_loop (k := k) (l := [r]) (by simp) (by simpa using h)
  exact ⟨t, e, fun ht => f ht r (by simp)⟩
theorem guard2 {k : Nat} [F : Fuel k] {r s : RootD} (h : WfRoot r) (g : WfRoot s) : ∃ t, swarflaw03_small k ([r, s] : List RootD) = some t ∧ (t = true → Good 4 r ∧ Good 4 s) := by
  obtain ⟨t, e, f⟩ := small_loop (k := k) (l := [r, s]) (by simp) (by simp; exact ⟨h, g⟩)
  exact ⟨t, e, fun ht => ⟨f ht r (by simp), f ht s (by simp)⟩⟩
theorem comOk_comm (x y : Rt) : comOk x y ↔ comOk y x := by unfold comOk; grind
theorem addR_comm {x y : Rt} (hx : Vr x) (hy : Vr y) (h : comOk x y) : addR x y = addR y x := by
  unfold addR red
  have e1 : x.A + y.A = y.A + x.A := by grind
  have e2 : x.B + y.B = y.B + x.B := by grind
  rw [e1, e2]
  split
  · rfl
  · have : com x y = com y x := by unfold com comOk Vr at *; grind
    rw [this]
theorem mulR_comm {x y : Rt} (hx : Vr x) (hy : Vr y) (h : comOk x y) : mulR x y = mulR y x := by
  unfold mulR red
  have e2 : x.A * y.B + x.B * y.A = y.A * x.B + y.B * x.A := by grind
  have e1 : x.A * y.A + x.B * y.B * com x y = y.A * x.A + y.B * x.B * com y x := by unfold com comOk at *; grind
  rw [e1, e2]
  split
  · rfl
  · have : com x y = com y x := by unfold com comOk Vr at *; grind
    rw [this]
end
/-! ## Plain laws: the floor of a number a + b sqrt(c): what the program and the reference answer, and that it is right. -/
section
open Go
set_option linter.unusedVariables false
set_option linter.unusedSimpArgs false
/-- The floor's parts: numerator, denominator, and the number under the root. -/
def fX (x : Rt) : Int := x.A.num * (x.B * x.B * x.C).den
def fD (x : Rt) : Int := x.A.den * (x.B * x.B * x.C).den
def fY (x : Rt) : Int := x.A.den * x.A.den * ((x.B * x.B * x.C).num * (x.B * x.B * x.C).den)
noncomputable def fW (x : Rt) : Int := if x.B < 0 then -((Nat.sqrt (fY x).toNat : Nat) + 1) else (Nat.sqrt (fY x).toNat : Nat)
noncomputable def flo (x : Rt) : Int := if x.B = 0 then x.A.floor else (fX x + fW x).fdiv (fD x)
theorem fD_pos (x : Rt) : 0 < fD x := Int.mul_pos (den_pos _) (den_pos _)
theorem floor_ok {k : Nat} [F : Fuel k] {n : Nat} {x : Rt} [z : Zt n x] (h : 1000 * n + 1000 ≤ LM) (hy : 0 ≤ fY x) : root_Floor k (R x) = some (I (flo x)) := by
  have a := z.A; have b := z.B; have c := z.C
  have bb := rzMul b b
  have m := rzMul bb c
  have s1 := szMul a.den a.den
  have s2 := szMul m.num m.den
  have s3 : Sz (8 * n) (fY x) := (szMul s1 s2).mono (by omega)
  have s4 : Sz (8 * n) ((Nat.sqrt (fY x).toNat : Nat) : Int) := s3.abs (by have := sqrt_le_self (fY x).toNat; omega)
  have s5 : Sz 2 (1 : Int) := szSmall (by decide)
  have s6 := szAdd s4 s5
  have s7 := szNeg s6
  have s8 := szMul a.num m.den
  have s9 := szMul a.den m.den
  have s10 := szAdd s8 s7
  have s11 := szAdd s8 s4
  unfold root_Floor
  show ((rational_Sign k (Q x.B)).bind _) = _
  rw [qSign, Option.bind_some, beq0]
  unfold flo
  by_cases hb : x.B = 0
  · rw [cdec hb, cond_true, if_pos hb]
    show ((rational_Floor k (Q x.A)).bind _) = _
    rw [qFloor (by omega), Option.bind_some]
  · rw [cdecF hb, cond_false, if_neg hb]
    simp only [R]
    rw [qMul (by omega), Option.bind_some, qMul (by omega), Option.bind_some]
    simp only [Q]
    rw [integer_Mul_eq (by omega), Option.bind_some, integer_Mul_eq (by omega), Option.bind_some, integer_Mul_eq (by omega), Option.bind_some]
    show ((integer_Sqrt k (I (fY x))).bind _) = _
    rw [integer_Sqrt_eq (by omega), if_neg (by omega), Option.bind_some]
    show ((rational_Sign k (Q x.B)).bind _) = _
    rw [qSign, Option.bind_some, lt0]
    unfold fW
    by_cases hn : x.B < 0
    · rw [cdec hn, cond_true, if_pos hn, integer_FromInt64_eq (by omega) (by omega), Option.bind_some, integer_Add_eq (by omega), Option.bind_some, integer_Neg_eq (by omega), Option.bind_some, integer_Mul_eq (by omega), Option.bind_some, integer_Add_eq (by omega), Option.bind_some,
        integer_Mul_eq (by omega), Option.bind_some, integer_DivMod_eq (by have := fD_pos x; unfold fD at this; omega) (by omega), Option.bind_some]
      rfl
    · rw [cdecF hn, cond_false, if_neg hn, integer_Mul_eq (by omega), Option.bind_some, integer_Add_eq (by omega), Option.bind_some,
        integer_Mul_eq (by omega), Option.bind_some, integer_DivMod_eq (by have := fD_pos x; unfold fD at this; omega) (by omega), Option.bind_some]
      rfl
theorem rfloor_ok {k : Nat} [F : Fuel k] {n : Nat} {x : Rt} [z : Zt n x] (h : 1000 * n + 1000 ≤ LM) (hy : 0 ≤ fY x) : swarfref03_Floor k (R x) = some (I (flo x)) := by
  have a := z.A; have b := z.B; have c := z.C
  have bb := rzMul b b
  have m := rzMul bb c
  have s1 := szMul a.den a.den
  have s2 := szMul m.num m.den
  have s3 : Sz (8 * n) (fY x) := (szMul s1 s2).mono (by omega)
  have s4 : Sz (8 * n) ((Nat.sqrt (fY x).toNat : Nat) : Int) := s3.abs (by have := sqrt_le_self (fY x).toNat; omega)
  have s5 : Sz 2 (1 : Int) := szSmall (by decide)
  have s6 := szAdd s4 s5
  have s7 := szNeg s6
  have s8 := szMul a.num m.den
  have s9 := szMul a.den m.den
  have s10 := szAdd s8 s7
  have s11 := szAdd s8 s4
  have ey : (x.B * x.B * x.C).num * (x.B * x.B * x.C).den * (x.A.den * x.A.den) = fY x := by unfold fY; grind
  unfold swarfref03_Floor
  show ((swarfref02_Sign k (Q x.B)).bind _) = _
  rw [rQSign, Option.bind_some, beq0]
  unfold flo
  by_cases hb : x.B = 0
  · rw [cdec hb, cond_true, if_pos hb]
    show ((swarfref02_Floor k (Q x.A)).bind _) = _
    rw [rQFloor (by omega), Option.bind_some]
  · rw [cdecF hb, cond_false, if_neg hb]
    simp only [R]
    rw [rsquare_ok (by omega), Option.bind_some, rQMul (by omega), Option.bind_some]
    simp only [Q]
    rw [rMul_eq (by omega), Option.bind_some, rMul_eq (by omega), Option.bind_some, rMul_eq (by omega), Option.bind_some, rMul_eq (by omega), Option.bind_some, ey, rSqrt_eq (by omega), if_neg (by omega), Option.bind_some]
    show ((swarfref02_Sign k (Q x.B)).bind _) = _
    rw [rQSign, Option.bind_some, lt0]
    unfold fW
    by_cases hn : x.B < 0
    · rw [cdec hn, cond_true, if_pos hn, rFromInt64_eq (by omega) (by omega), Option.bind_some, rAdd_eq (by omega), Option.bind_some, rNeg_eq (by omega), Option.bind_some, rAdd_eq (by omega), Option.bind_some,
        rMul_eq (by omega), Option.bind_some, rDivMod_eq (by have := fD_pos x; unfold fD at this; omega) (by omega), Option.bind_some]
      rfl
    · rw [cdecF hn, cond_false, if_neg hn, rAdd_eq (by omega), Option.bind_some,
        rMul_eq (by omega), Option.bind_some, rDivMod_eq (by have := fD_pos x; unfold fD at this; omega) (by omega), Option.bind_some]
      rfl

/-! ### The floor is right -/
theorem cast_floor {a : Rat} {d : Int} (h : a = ((d : Int) : Rat)) : True := trivial
theorem num_eq (q : Rat) : (q.num : Rat) = q * (q.den : Int) := by
  have h := Rat.num_divInt_den q
  rw [Rat.divInt_eq_div] at h
  have hd : ((q.den : Int) : Rat) ≠ 0 := by
    have := den_pos q
    intro h0
    have := Rat.intCast_pos.2 this
    grind
  grind
theorem castLt {a b : Int} : a < b ↔ (a : Rat) < (b : Rat) := Rat.intCast_lt_intCast.symm
theorem castLe {a b : Int} : a ≤ b ↔ (a : Rat) ≤ (b : Rat) := Rat.intCast_le_intCast.symm
theorem castPos {a : Int} (h : 0 < a) : (0 : Rat) < a := Rat.intCast_pos.2 h
/-- What the parts are: the value is (X + or - sqrt(Y)) / D. -/
theorem parts_eq (x : Rt) : (fX x : Rat) = x.A * (fD x : Rat) ∧ (fY x : Rat) = x.B * x.B * x.C * ((fD x : Rat) * (fD x : Rat)) := by
  have h1 := num_eq x.A
  have h2 := num_eq (x.B * x.B * x.C)
  constructor
  · unfold fX fD; simp only [Rat.intCast_mul]; rw [h1]; grind
  · unfold fY fD; simp only [Rat.intCast_mul]; rw [h2]; grind
theorem fY_pos {x : Rt} (hb : x.B ≠ 0) (hc : 0 < x.C) : 0 < fY x := by
  have h := (parts_eq x).2
  have h1 := Rat.mul_pos (sq_pos hb) hc
  have h2 := castPos (fD_pos x)
  have h3 := Rat.mul_pos h1 (Rat.mul_pos h2 h2)
  rw [← h] at h3
  exact Rat.intCast_pos.1 h3
theorem fY_nsq {x : Rt} (hb : x.B ≠ 0) (hs : ¬ IsSq x.C) (w : Int) : w * w ≠ fY x := by
  intro h
  apply hs
  have h1 := (parts_eq x).2
  have h2 := castPos (fD_pos x)
  rw [← h, Rat.intCast_mul] at h1
  generalize (w : Rat) = u at *
  generalize (fD x : Rat) = d at *
  have e : (u / (x.B * d)) * (u / (x.B * d)) = x.C := by
    have hd : d ≠ 0 := by grind
    have hbd : x.B * d ≠ 0 := fun h => by rcases Rat.mul_eq_zero.1 h with h | h; exact hb h; exact hd h
    grind
  rcases (show 0 ≤ u / (x.B * d) ∨ 0 ≤ -(u / (x.B * d)) by grind) with h3 | h3
  · exact ⟨_, h3, e⟩
  · exact ⟨_, h3, by grind⟩
theorem sgR_nonneg_of {a b c : Rat} (hb : 0 < b) (h : a < 0 → a * a < b * b * c) : 0 < sgR ⟨a, b, c⟩ := by
  have hb1 : sg b = 1 := by unfold sg; grind
  by_cases ha : a < 0
  · have hn : norm ⟨a, b, c⟩ < 0 := by unfold norm; dsimp only; have := h ha; grind
    rw [sgR_norm_neg hn]; dsimp only; omega
  · unfold sgR; dsimp only
    rw [if_neg (show ¬ b = 0 by grind)]
    by_cases h0 : a = 0
    · rw [if_neg (by rw [h0, hb1]; decide), if_pos h0]; omega
    · have : sg a = 1 := by unfold sg; grind
      rw [if_pos (by omega)]; omega
theorem sgR_neg_of {a b c : Rat} (hb : 0 < b) (hc : 0 < c) (ha : a < 0) (h : b * b * c < a * a) : sgR ⟨a, b, c⟩ < 0 := by
  have hn : 0 < norm ⟨a, b, c⟩ := by unfold norm; dsimp only; grind
  rw [sgR_norm_pos (by dsimp only; grind) hn]; dsimp only
  have : sg a = -1 := by unfold sg; grind
  omega
theorem sgR_opp {a b c : Rat} : sgR ⟨-a, -b, c⟩ = -sgR ⟨a, b, c⟩ := by
  unfold sgR; dsimp only
  have e : norm ⟨-a, -b, c⟩ = norm ⟨a, b, c⟩ := by unfold norm; dsimp only; grind
  rw [e, sg_neg_eq, sg_neg_eq]
  have h1 : -b = 0 ↔ b = 0 := by grind
  have h2 : -a = 0 ↔ a = 0 := by grind
  simp only [h1, h2]
  have h3 : (-sg a = -sg b) ↔ sg a = sg b := by omega
  simp only [h3]
  split
  · rfl
  · split
    · rfl
    · split
      · rfl
      · rw [Int.neg_mul]
/-- No integer root lies between. -/
theorem flo_spec {x : Rt} (vx : Vr x) : 0 ≤ sgR ⟨x.A - (flo x : Rat), x.B, x.C⟩ ∧ sgR ⟨x.A - (flo x : Rat) - 1, x.B, x.C⟩ < 0 := by
  rcases vx with ⟨hb, hc⟩ | ⟨hb, hc, hs⟩
  · rw [hb, sgR_rat, sgR_rat]
    unfold flo
    rw [if_pos hb]
    have h1 := Rat.floor_le x.A
    have h2 := Rat.lt_floor_add_one x.A
    rw [Rat.intCast_add] at h2
    have e : ((1 : Int) : Rat) = 1 := rfl
    rw [e] at h2
    constructor
    · unfold sg; grind
    · unfold sg; grind
  · have hY := fY_pos hb hc
    have hns := fY_nsq hb hs
    have hD := fD_pos x
    obtain ⟨hp1, hp2⟩ := parts_eq x
    unfold flo
    rw [if_neg hb]
    -- the integers
    have q1 := Int.mul_fdiv_add_fmod (fX x + fW x) (fD x)
    have q2 := Int.fmod_nonneg_of_pos (fX x + fW x) hD
    have q3 := Int.fmod_lt_of_pos (fX x + fW x) hD
    have w1 := Nat.sqrt_le (fY x).toNat
    have w2 := Nat.lt_succ_sqrt (fY x).toNat
    obtain ⟨w, hw⟩ : ∃ w : Int, w = (Nat.sqrt (fY x).toNat : Nat) := ⟨_, rfl⟩
    have w0 : 0 ≤ w := by omega
    have w1' : w * w < fY x := by
      have : w * w ≤ fY x := by
        have h1 : ((Nat.sqrt (fY x).toNat * Nat.sqrt (fY x).toNat : Nat) : Int) ≤ ((fY x).toNat : Int) := by omega
        rw [Int.natCast_mul, ← hw] at h1; omega
      have := hns w; omega
    have w2' : fY x < (w + 1) * (w + 1) := by
      have h1 : ((fY x).toNat : Int) < ((Nat.sqrt (fY x).toNat).succ * (Nat.sqrt (fY x).toNat).succ : Nat) := by omega
      rw [Int.natCast_mul, Int.natCast_succ, ← hw] at h1; omega
    have hW : fW x = if x.B < 0 then -(w + 1) else w := by unfold fW; rw [hw]
    generalize (fX x + fW x).fdiv (fD x) = n at *
    generalize (fX x + fW x).fmod (fD x) = r at *
    have c1 := castLt.1 w1'
    have c2 := castLt.1 w2'
    rw [hp2] at c1 c2
    rw [Rat.intCast_mul] at c1
    rw [Rat.intCast_mul, Rat.intCast_add] at c2
    have e1 : ((1 : Int) : Rat) = 1 := rfl
    rw [e1] at c2
    have dpos := castPos hD
    have wn : (0 : Rat) ≤ w := Rat.intCast_nonneg.2 w0
    -- a difference times D
    have key : ∀ m : Int, (x.A - (m : Rat)) * (fD x : Rat) = ((fX x - m * fD x : Int) : Rat) := fun m => by
      rw [Rat.intCast_sub, Rat.intCast_mul, hp1]; grind
    have key1 := key n
    have key2 : (x.A - (n : Rat) - 1) * (fD x : Rat) = ((fX x - (n + 1) * fD x : Int) : Rat) := by
      have := key (n + 1)
      rw [Rat.intCast_add, e1] at this
      rw [← this]; grind
    by_cases hn : x.B < 0
    · rw [if_pos hn] at hW
      have i1 : w + 1 ≤ fX x - n * fD x := by rw [Int.mul_comm]; omega
      have i2 : fX x - (n + 1) * fD x ≤ w := by rw [Int.add_mul, Int.mul_comm n]; omega
      have j1 := castLe.1 i1
      have j2 := castLe.1 i2
      rw [← key1, Rat.intCast_add, e1] at j1
      rw [← key2] at j2
      generalize (fD x : Rat) = D at *
      generalize (w : Rat) = W at *
      generalize x.A - (n : Rat) = a at *
      constructor
      · have h := sgR_neg_of (a := -a) (b := -x.B) (c := x.C) (by grind) hc (by
          rcases (show a ≤ 0 ∨ 0 < a by grind) with h | h
          · have := Rat.mul_le_mul_of_nonneg_right h (show 0 ≤ D by grind); grind
          · grind) (by
          have h1 : (W + 1) * (W + 1) ≤ (a * D) * (a * D) := by
            have := Rat.mul_le_mul_of_nonneg_left j1 (show 0 ≤ W + 1 by grind)
            have := Rat.mul_le_mul_of_nonneg_right j1 (show 0 ≤ a * D by grind)
            grind
          have h2 : x.B * x.B * x.C * (D * D) < a * a * (D * D) := by grind
          have := Rat.lt_of_mul_lt_mul_right h2 (sq_nonneg D)
          grind)
        rw [sgR_opp] at h; omega
      · have h := sgR_nonneg_of (a := -(a - 1)) (b := -x.B) (c := x.C) (by grind) (fun hneg => by
          have h0 : 0 < (a - 1) * D := Rat.mul_pos (by grind) dpos
          have h1 : ((a - 1) * D) * ((a - 1) * D) ≤ W * W := by
            have := Rat.mul_le_mul_of_nonneg_left j2 (show 0 ≤ (a - 1) * D by grind)
            have := Rat.mul_le_mul_of_nonneg_right j2 wn
            grind
          have h2 : (a - 1) * (a - 1) * (D * D) < x.B * x.B * x.C * (D * D) := by grind
          have := Rat.lt_of_mul_lt_mul_right h2 (sq_nonneg D)
          grind)
        rw [sgR_opp] at h; omega
    · rw [if_neg hn] at hW
      have hp : 0 < x.B := by grind
      have i1 : -w ≤ fX x - n * fD x := by rw [Int.mul_comm]; omega
      have i2 : fX x - (n + 1) * fD x ≤ -(w + 1) := by rw [Int.add_mul, Int.mul_comm n]; omega
      have j1 := castLe.1 i1
      have j2 := castLe.1 i2
      rw [← key1, Rat.intCast_neg] at j1
      rw [← key2, Rat.intCast_neg, Rat.intCast_add, e1] at j2
      generalize (fD x : Rat) = D at *
      generalize (w : Rat) = W at *
      generalize x.A - (n : Rat) = a at *
      constructor
      · have h := sgR_nonneg_of (a := a) (b := x.B) (c := x.C) hp (fun hneg => by
          have h0 : 0 < (-a) * D := Rat.mul_pos (by grind) dpos
          have h1 : (a * D) * (a * D) ≤ W * W := by
            have := Rat.mul_le_mul_of_nonneg_left (show -(a * D) ≤ W by grind) (show 0 ≤ -(a * D) by grind)
            have := Rat.mul_le_mul_of_nonneg_right (show -(a * D) ≤ W by grind) wn
            grind
          have h2 : a * a * (D * D) < x.B * x.B * x.C * (D * D) := by grind
          exact Rat.lt_of_mul_lt_mul_right h2 (sq_nonneg D))
        omega
      · exact sgR_neg_of hp hc (by
          rcases (show 0 ≤ a - 1 ∨ a - 1 < 0 by grind) with h | h
          · have := Rat.mul_nonneg h (show 0 ≤ D by grind); grind
          · exact h) (by
          have h1 : (W + 1) * (W + 1) ≤ ((a - 1) * D) * ((a - 1) * D) := by
            have := Rat.mul_le_mul_of_nonneg_left (show W + 1 ≤ -((a - 1) * D) by grind) (show 0 ≤ W + 1 by grind)
            have := Rat.mul_le_mul_of_nonneg_right (show W + 1 ≤ -((a - 1) * D) by grind) (show 0 ≤ -((a - 1) * D) by grind)
            grind
          have h2 : x.B * x.B * x.C * (D * D) < (a - 1) * (a - 1) * (D * D) := by grind
          exact Rat.lt_of_mul_lt_mul_right h2 (sq_nonneg D))
theorem flo_rz {n : Nat} {x : Rt} (z : Zt n x) : Sz (30 * n + 10) (flo x) := by
  have a := z.A; have b := z.B; have c := z.C
  have m := rzMul (rzMul b b) c
  have s3 : Sz (8 * n) (fY x) := (szMul (szMul a.den a.den) (szMul m.num m.den)).mono (by omega)
  have s4 : Sz (8 * n) ((Nat.sqrt (fY x).toNat : Nat) : Int) := s3.abs (by have := sqrt_le_self (fY x).toNat; omega)
  have s5 : Sz 2 (1 : Int) := szSmall (by decide)
  have s7 := szNeg (szAdd s4 s5)
  have s8 : Sz (4 * n) (fX x) := (szMul a.num m.den).mono (by omega)
  unfold flo
  split
  · rw [Rat.floor_def]
    have : x.A.num / (x.A.den : Int) = x.A.num.fdiv x.A.den := by rw [Int.fdiv_eq_ediv_of_nonneg _ (by omega)]
    rw [this]
    exact (szDiv a.num).mono (by omega)
  · unfold fW
    split
    · exact (szDiv (szAdd s8 s7)).mono (by omega)
    · exact (szDiv (szAdd s8 s4)).mono (by omega)
theorem fY_nonneg {x : Rt} (hv : Vr x) : 0 ≤ fY x := by
  rcases hv with ⟨hb, hc⟩ | ⟨hb, hc, _⟩
  · have h := (parts_eq x).2
    rw [hb] at h
    have e : (0 : Rat) * 0 * x.C * ((fD x : Rat) * fD x) = 0 := by grind
    rw [e] at h
    have : fY x = 0 := Rat.intCast_inj.1 h
    omega
  · have := fY_pos hb hc; omega
theorem rcmpRat_ok {k : Nat} [F : Fuel k] {n m : Nat} {x : Rt} {q : Rat} [z : Zt n x] [y : Rz m q] (h : 100 * (n + m + 1) + 1000 ≤ LM) (hv : Vr x) : swarfref03_CmpRat k (R x) (Q q) = some (sgR ⟨x.A - q, x.B, x.C⟩) := by
  unfold swarfref03_CmpRat
  have y' := rzNeg y
  have e : x.A + -q = x.A - q := by grind
  have z' : Zt (n + m + 1) ⟨x.A - q, x.B, x.C⟩ := ⟨(rzSub z.A y).mono (by omega), z.B.mono (by omega), z.C.mono (by omega)⟩
  rw [rQNeg (by omega), Option.bind_some, raddRat_ok (by omega), Option.bind_some, e, rsign_ok (by omega) (fun _ hb => norm_ne (by unfold Vr at *; dsimp only at *; grind) (.inr hb))]; rfl
end
end Go.Proofs.YtbjkpogfgijmaaaGreat
