/- Plain laws: what the root laws have in common. -/
import Derived.Test.YtbjkpogfgijmaaaGreatTh17
import Derived.Test.YtbjkpogfgijmaaaGreatAwake
namespace Go.Proofs.YtbjkpogfgijmaaaGreat
open Go
set_option linter.unusedVariables false
set_option linter.unusedSimpArgs false

theorem small4 {k : Nat} [F : Fuel k] {a : RatD} (hw : WfQ a) : ∃ t, swarfref02_Small k a 4 = some t ∧ (t = true → ∃ q, a = Q q ∧ Rz 4 q) := by
  obtain ⟨t, h, i⟩ := rSmall (k := k) 4 (by decide) hw
  exact ⟨t, h, i.1⟩
theorem rat_zt {n : Nat} {q : Rat} (z : Rz n q) (h : 2 ≤ n) : Zt n (rat q) := ⟨z, zero_rz.mono h, zero_rz.mono h⟩
theorem red_zt {n : Nat} {a b c : Rat} (x : Rz n a) (y : Rz n b) (z : Rz n c) (h : 2 ≤ n) : Zt n (red a b c) := by
  unfold red; split
  · exact rat_zt x h
  · exact ⟨x, y, z⟩
theorem mk_zt {n : Nat} {a b c : Rat} (x : Rz n a) (y : Rz n b) (z : Rz n c) (h : 2 ≤ n) : Zt (3 * n + 1) (mk a b c) := by
  unfold mk; split
  · exact rat_zt ((rzAdd x (rzMul y (rzSqrt z))).mono (by omega)) (by omega)
  · split
    · exact (rat_zt x h).mono (by omega)
    · exact Zt.mono ⟨x, y, z⟩ (by omega)
theorem addR_zt {n : Nat} {x y : Rt} (z : Zt n x) (w : Zt n y) (h : 2 ≤ n) : Zt (2 * n + 1) (addR x y) :=
  red_zt ((rzAdd z.A w.A).mono (by omega)) ((rzAdd z.B w.B).mono (by omega)) ((com_rz z w).mono (by omega)) (by omega)
theorem mulR_zt {n : Nat} {x y : Rt} (z : Zt n x) (w : Zt n y) (h : 2 ≤ n) : Zt (5 * n + 1) (mulR x y) :=
  red_zt ((rzAdd (rzMul z.A w.A) (rzMul (rzMul z.B w.B) (com_rz z w))).mono (by omega)) ((rzAdd (rzMul z.A w.B) (rzMul z.B w.A)).mono (by omega)) ((com_rz z w).mono (by omega)) (by omega)
theorem scale_zt {n m : Nat} {x : Rt} {q : Rat} (z : Zt n x) (y : Rz m q) (h : 2 ≤ n) : Zt (n + m) (scale x q) :=
  red_zt (rzMul z.A y) (rzMul z.B y) (z.C.mono (by omega)) (by omega)
theorem invR_zt {n : Nat} {x : Rt} (z : Zt n x) (h : 2 ≤ n) : Zt (6 * n + 3) (invR x) :=
  (scale_zt (x := ⟨x.A, -x.B, x.C⟩) ⟨z.A, rzNeg z.B, z.C⟩ (rzQuo one_rz (norm_rz z)) h).mono (by omega)
theorem red_vr {a b c : Rat} (h : b ≠ 0 → 0 < c ∧ ¬ IsSq c) : Vr (red a b c) := by
  unfold red Vr; split
  · left; exact ⟨rfl, rfl⟩
  · right; rename_i hb; exact ⟨hb, h hb⟩
theorem mk_vr {a b c : Rat} (hc : 0 ≤ c) : Vr (mk a b c) := by
  unfold mk Vr; split
  · left; exact ⟨rfl, rfl⟩
  · rename_i hs
    have := not_sq_ne hs
    split
    · left; exact ⟨rfl, rfl⟩
    · right; rename_i hb; exact ⟨hb, by grind, hs⟩
theorem scale_vr {x : Rt} {q : Rat} (hv : Vr x) : Vr (scale x q) := red_vr fun hb => by
  rcases hv with ⟨h, _⟩ | ⟨_, h⟩
  · exact absurd (by rw [h, Rat.zero_mul]) hb
  · exact h
theorem com_prop {x y : Rt} (hx : Vr x) (hy : Vr y) (h : x.B ≠ 0 ∨ y.B ≠ 0) : 0 < com x y ∧ ¬ IsSq (com x y) := by
  unfold com
  by_cases hb : x.B = 0
  · rw [if_pos hb]
    rcases hy with ⟨h1, _⟩ | ⟨_, h1⟩
    · grind
    · exact h1
  · rw [if_neg hb]
    rcases hx with ⟨h1, _⟩ | ⟨_, h1⟩
    · exact absurd h1 hb
    · exact h1
theorem addR_vr {x y : Rt} (hx : Vr x) (hy : Vr y) : Vr (addR x y) := red_vr fun hb => com_prop hx hy (by grind)
theorem mulR_vr {x y : Rt} (hx : Vr x) (hy : Vr y) : Vr (mulR x y) := red_vr fun hb => com_prop hx hy (by grind)
theorem mk_nonneg_lt {c : Rat} : ¬ c < 0 ↔ 0 ≤ c := by grind
end Go.Proofs.YtbjkpogfgijmaaaGreat
