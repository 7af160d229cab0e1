/- The plain law RootField: roots with a common radicand satisfy the laws of a field: sums and products are associative, and products distribute over sums. -/
import Derived.Test.YtbjkpogfgijmaaaLawB
namespace Go.Proofs.Ytbjkpogfgijmaaa
open Go
set_option linter.unusedVariables false
set_option linter.unusedSimpArgs false
theorem i64_small {x : Int} (h0 : -100000 ≤ x) (h1 : x ≤ 100000) : IntKind.i64.wrap x = x := wI64 (by omega) (by omega)
/-- A root of the field over c, by its two parts. -/
def fld (c a b : Rat) : Rt := red a b c
theorem fld_com {c a b a' b' : Rat} : comOk (fld c a b) (fld c a' b') ∧ (b ≠ 0 ∨ b' ≠ 0 → com (fld c a b) (fld c a' b') = c) := by
  unfold comOk com fld red rat; split <;> split <;> simp_all
theorem fld_A {c a b : Rat} : (fld c a b).A = a := by unfold fld red rat; split <;> rfl
theorem fld_B {c a b : Rat} : (fld c a b).B = b := by unfold fld red rat; split; rename_i h; exact h.symm; rfl
theorem red_of {a b c c' : Rat} (h : b ≠ 0 → c = c') : red a b c = red a b c' := by
  unfold red; split
  · rfl
  · rename_i hb; rw [h hb]
theorem fld_add {c a b a' b' : Rat} : addR (fld c a b) (fld c a' b') = fld c (a + a') (b + b') := by
  unfold addR
  rw [fld_A, fld_A, fld_B, fld_B]
  exact red_of fun h => fld_com.2 (by grind)
theorem fld_mul {c a b a' b' : Rat} : mulR (fld c a b) (fld c a' b') = fld c (a * a' + b * b' * c) (a * b' + b * a') := by
  unfold mulR
  rw [fld_A, fld_A, fld_B, fld_B]
  have e : b * b' * com (fld c a b) (fld c a' b') = b * b' * c := by
    by_cases h : b ≠ 0 ∨ b' ≠ 0
    · rw [fld_com.2 h]
    · grind
  rw [e]
  exact red_of fun h => fld_com.2 (by grind)
/-- Every root of the three is one of the field over c. -/
theorem mk_fld {a b c : Rat} : ∃ a' b', mk a b c = fld c a' b' := by
  unfold mk
  split
  · exact ⟨_, 0, by unfold fld red; rw [if_pos rfl]⟩
  · split
    · exact ⟨a, 0, by unfold fld red; rw [if_pos rfl]⟩
    · rename_i h; exact ⟨a, b, by unfold fld red; rw [if_neg h]⟩
theorem surd_ok {k : Nat} [F : Fuel k] {s : SurdD} (h : WfSurd s) : ∃ a b : Rat, swarfref03_Of k s = some (R (mk a b (Rat.divInt s.C (s.F + 1)))) ∧ Zt 16 (mk a b (Rat.divInt s.C (s.F + 1))) := by
  obtain ⟨h1, h2, h3, h4, h5, h6⟩ := h
  have z : ∀ n : Int, -100000 ≤ n → n ≤ 100000 → Sz 2 n := fun n a b => Sz.of (by simp [bp]; omega)
  have zA := rzDiv (z s.A (by omega) (by omega)) (z (s.D + 1) (by omega) (by omega)) (by omega)
  have zB := rzDiv (z s.B (by omega) (by omega)) (z (s.E + 1) (by omega) (by omega)) (by omega)
  have zC := rzDiv (z s.C (by omega) (by omega)) (z (s.F + 1) (by omega) (by omega)) (by omega)
  refine ⟨Rat.divInt s.A (s.D + 1), Rat.divInt s.B (s.E + 1), ?_, (mk_zt zA zB zC (by decide)).mono (by decide)⟩
  unfold swarfref03_Of
  rw [i64_small (x := s.A) (by omega) (by omega), i64_small (x := s.D) (by omega) (by omega), i64_small (x := s.D + 1) (by omega) (by omega), i64_small (x := s.B) (by omega) (by omega), i64_small (x := s.E) (by omega) (by omega), i64_small (x := s.E + 1) (by omega) (by omega), i64_small (x := s.C) (by omega) (by omega), i64_small (x := s.F) (by omega) (by omega), i64_small (x := s.F + 1) (by omega) (by omega)]
  rw [rQFrac (by omega) (by omega) (by omega) (by omega) (by omega), Option.bind_some, rQFrac (by omega) (by omega) (by omega) (by omega) (by omega), Option.bind_some, rQFrac (by omega) (by omega) (by omega) (by omega) (by omega), Option.bind_some, rmake_eq (by decide), Option.bind_some]
  have : ¬ Rat.divInt s.C (s.F + 1) < 0 := by
    have := Rat.divInt_nonneg (a := s.C) (b := s.F + 1) (by omega) (by omega)
    grind
  rw [if_neg this]
theorem law_RootField (s : SurdD × SurdD × SurdD) (hs : WfSurd s.1 ∧ WfSurd s.2.1 ∧ WfSurd s.2.2) : ∃ k, swarflaw03_RootField k s = some true := by
  obtain ⟨k, F⟩ := fuel_exists
  refine ⟨k, ?_⟩
  obtain ⟨s1, s2, s3⟩ := s
  obtain ⟨g1, g2, g3⟩ := hs
  dsimp only at g1 g2 g3
  unfold swarflaw03_RootField
  dsimp only
  obtain ⟨a1, b1, e1, z1⟩ := surd_ok (k := k) g1
  obtain ⟨a2, b2, e2, z2⟩ := surd_ok (k := k) (s := ⟨s2.A, s2.B, s1.C, s2.D, s2.E, s1.F⟩) (by unfold WfSurd at *; dsimp only; omega)
  obtain ⟨a3, b3, e3, z3⟩ := surd_ok (k := k) (s := ⟨s3.A, s3.B, s1.C, s3.D, s3.E, s1.F⟩) (by unfold WfSurd at *; dsimp only; omega)
  dsimp only at e2 e3 z2 z3
  generalize Rat.divInt s1.C (s1.F + 1) = c at *
  obtain ⟨u1, v1, h1⟩ := mk_fld (a := a1) (b := b1) (c := c)
  obtain ⟨u2, v2, h2⟩ := mk_fld (a := a2) (b := b2) (c := c)
  obtain ⟨u3, v3, h3⟩ := mk_fld (a := a3) (b := b3) (c := c)
  rw [h1] at e1 z1
  rw [h2] at e2 z2
  rw [h3] at e3 z3
  rw [awake03, Option.bind_some, Bool.not_true, cond_false, e1, Option.bind_some, cdec (by simp), cond_true, e2, Option.bind_some, cdec (by simp), cond_true, e3, Option.bind_some, cdec (by simp), cond_true]
  -- the list of the three
  have i0 : ∀ x y z : RootD, ((([x] : List RootD) ++ ([y] : List RootD)) ++ ([z] : List RootD)).getD 0 default = x := fun _ _ _ => rfl
  have i1 : ∀ x y z : RootD, ((([x] : List RootD) ++ ([y] : List RootD)) ++ ([z] : List RootD)).getD 1 default = y := fun _ _ _ => rfl
  have i2 : ∀ x y z : RootD, ((([x] : List RootD) ++ ([y] : List RootD)) ++ ([z] : List RootD)).getD 2 default = z := fun _ _ _ => rfl
  have l3 : ∀ x y z : RootD, ((([x] : List RootD) ++ ([y] : List RootD)) ++ ([z] : List RootD)).length = 3 := fun _ _ _ => rfl
  simp only [l3, i0, i1, i2, show ixOk 0 3 = true from rfl, show ixOk 1 3 = true from rfl, show ixOk 2 3 = true from rfl, cond_true]
  have eta : ∀ x : RootD, (⟨⟨x.A.num, x.A.den⟩, ⟨x.B.num, x.B.den⟩, ⟨x.C.num, x.C.den⟩⟩ : RootD) = x := fun _ => rfl
  simp only [eta]
  -- sums
  have add : ∀ {n : Nat} {p q p' q' : Rat}, Zt n (fld c p q) → Zt n (fld c p' q') → 100 * n + 1000 ≤ LM → root_Add k (R (fld c p q)) (R (fld c p' q')) = some (R (fld c (p + p') (q + q')), 0) := fun z w h => by rw [add_ok (z := z) (w := w) h, if_pos fld_com.1, fld_add]
  have mul : ∀ {n : Nat} {p q p' q' : Rat}, Zt n (fld c p q) → Zt n (fld c p' q') → 100 * n + 1000 ≤ LM → root_Mul k (R (fld c p q)) (R (fld c p' q')) = some (R (fld c (p * p' + q * q' * c) (p * q' + q * p')), 0) := fun z w h => by rw [mul_ok (z := z) (w := w) h, if_pos fld_com.1, fld_mul]
  have za : ∀ {n : Nat} {p q p' q' : Rat}, Zt n (fld c p q) → Zt n (fld c p' q') → 2 ≤ n → Zt (2 * n + 1) (fld c (p + p') (q + q')) := fun z w h => fld_add ▸ addR_zt z w h
  have zm : ∀ {n : Nat} {p q p' q' : Rat}, Zt n (fld c p q) → Zt n (fld c p' q') → 2 ≤ n → Zt (5 * n + 1) (fld c (p * p' + q * q' * c) (p * q' + q * p')) := fun z w h => fld_mul ▸ mulR_zt z w h
  have s12 := za z1 z2 (by decide)
  have s23 := za z2 z3 (by decide)
  have p12 := zm z1 z2 (by decide)
  have p23 := zm z2 z3 (by decide)
  have p13 := zm z1 z3 (by decide)
  have zz1 := z1.mono (show 16 ≤ 33 by decide)
  have zz3 := z3.mono (show 16 ≤ 33 by decide)
  have zw1 := z1.mono (show 16 ≤ 81 by decide)
  have zw3 := z3.mono (show 16 ≤ 81 by decide)
  rw [add z1 z2 (by decide), Option.bind_some]
  dsimp only
  rw [add s12 zz3 (by decide), Option.bind_some]
  rw [add z2 z3 (by decide), Option.bind_some]
  dsimp only
  rw [add zz1 s23 (by decide), Option.bind_some]
  have hsum : fld c (u1 + (u2 + u3)) (v1 + (v2 + v3)) = fld c (u1 + u2 + u3) (v1 + v2 + v3) := by congr 1 <;> grind
  have n0 : ((0 : Int) != 0) = false := rfl
  rw [hsum]
  have zs := za s12 zz3 (by decide)
  simp only [n0, cond_false]
  rw [rSameRoot_self zs (by decide), Option.bind_some, Bool.not_true, cond_false, mul z1 z2 (by decide), Option.bind_some]
  dsimp only
  rw [mul p12 zw3 (by decide), Option.bind_some, mul z2 z3 (by decide), Option.bind_some]
  dsimp only
  rw [mul zw1 p23 (by decide), Option.bind_some]
  have hprod : fld c (u1 * (u2 * u3 + v2 * v3 * c) + v1 * (u2 * v3 + v2 * u3) * c) (u1 * (u2 * v3 + v2 * u3) + v1 * (u2 * u3 + v2 * v3 * c)) = fld c ((u1 * u2 + v1 * v2 * c) * u3 + (u1 * v2 + v1 * u2) * v3 * c) ((u1 * u2 + v1 * v2 * c) * v3 + (u1 * v2 + v1 * u2) * u3) := by
    congr 1 <;> grind
  rw [hprod]
  have zp := zm p12 zw3 (by decide)
  simp only [n0, cond_false]
  rw [rSameRoot_self zp (by decide), Option.bind_some, Bool.not_true, cond_false, mul zz1 s23 (by decide), Option.bind_some, mul z1 z3 (by decide), Option.bind_some]
  dsimp only
  rw [add p12 p13 (by decide), Option.bind_some]
  have hd : fld c (u1 * (u2 + u3) + v1 * (v2 + v3) * c) (u1 * (v2 + v3) + v1 * (u2 + u3)) = fld c (u1 * u2 + v1 * v2 * c + (u1 * u3 + v1 * v3 * c)) (u1 * v2 + v1 * u2 + (u1 * v3 + v1 * u3)) := by congr 1 <;> grind
  rw [hd]
  have zd := za p12 p13 (by decide)
  have e0 : ((0 : Int) == 0) = true := rfl
  simp only [e0, cond_true]
  rw [rSameRoot_self zd (by decide)]; rfl
end Go.Proofs.Ytbjkpogfgijmaaa
