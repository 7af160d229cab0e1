/- The plain law MeetExtremes: the extreme points and the points at an X are those of the reference. -/
import Derived.Test.YtbjkpogfgijmaaaGreatMe3
namespace Go.Proofs.YtbjkpogfgijmaaaGreat
open Go
set_option linter.unusedVariables false
set_option linter.unusedSimpArgs false
theorem small2 {k : Nat} [F : Fuel k] {a : RatD} (hw : WfQ a) : ∃ t, swarfref02_Small k a 2 = some t ∧ (t = true → ∃ q, a = Q q ∧ Rz 2 q) := by
  obtain ⟨t, h, i⟩ := rSmall (k := k) 2 (by decide) hw
  exact ⟨t, h, i.1⟩
theorem law_MeetExtremes (a : CircleD) (b : RatD) (ha : WfCircle a) (hb : WfQ b) : ∃ k, swarflaw09_MeetExtremes k a b = some true := by
  obtain ⟨k, F⟩ := fuel_exists
  refine ⟨k, ?_⟩
  unfold swarflaw09_MeetExtremes
  rw [awake09, Option.bind_some, Bool.not_true, cond_false]
  obtain ⟨t1, e1, f1⟩ := circle_ok (k := k) ha
  rw [e1, Option.bind_some]
  cases t1 with
  | false => rfl
  | true =>
    obtain ⟨c, rfl, z1, o1⟩ := f1 rfl
    rw [Bool.not_true, cond_false]
    obtain ⟨t2, e2, f2⟩ := small2 (k := k) hb
    rw [e2, Option.bind_some]
    cases t2 with
    | false => rfl
    | true =>
      obtain ⟨x, rfl, z2⟩ := f2 rfl
      rw [Bool.not_true, cond_false]
      have y1 := z1.mono (show 2 ≤ 3 by omega)
      have y2 := z2.mono (show 2 ≤ 3 by omega)
      have zl : Zl 3 (⟨1, 0, x⟩ : Ln) := ⟨one_rz3, zero_rz.mono (by omega), y2⟩
      have ol : Lok (⟨1, 0, x⟩ : Ln) := .inl (by show (1 : Rat) ≠ 0; decide)
      have el : (⟨Q ((1 : Int) : Rat), Q ((0 : Int) : Rat), Q x⟩ : LineD) = (⟨1, 0, x⟩ : Ln).d := rfl
      have v1 := surdP_vp (x := c.X) (u := -1) (y := c.Y) (v := 0) (Rat.le_of_lt o1)
      have v2 := surdP_vp (x := c.X) (u := 1) (y := c.Y) (v := 0) (Rat.le_of_lt o1)
      have w1 : Zp 10 (surdP c.X (-1) c.Y 0 c.Q) := surdP_zp y1.X (rzNeg one_rz3) y1.Y (zero_rz.mono (by omega)) y1.Q (by omega)
      have w2 : Zp 10 (surdP c.X 1 c.Y 0 c.Q) := surdP_zp y1.X one_rz3 y1.Y (zero_rz.mono (by omega)) y1.Q (by omega)
      have av : ∀ p ∈ [surdP c.X (-1) c.Y 0 c.Q, surdP c.X 1 c.Y 0 c.Q], Vp p := by
        intro p hp; rcases List.mem_cons.1 hp with rfl | hp
        · exact v1
        · rcases List.mem_cons.1 hp with rfl | hp
          · exact v2
          · cases hp
      have az : ∀ p ∈ [surdP c.X (-1) c.Y 0 c.Q, surdP c.X 1 c.Y 0 c.Q], Zp 10 p := by
        intro p hp; rcases List.mem_cons.1 hp with rfl | hp
        · exact w1
        · rcases List.mem_cons.1 hp with rfl | hp
          · exact w2
          · cases hp
      rw [extremes_ok (z := y1) (by decide) (by omega) o1, Option.bind_some, rextremes_ok (z := y1) (by decide) (by omega) o1, Option.bind_some]
      dsimp only
      have s := lawSame9 (k := k) (e := 0) (n := 10) (by simp) av (PwEq.self av) az az (by omega) (by omega)
      rw [List.map_cons, List.map_cons, List.map_nil] at s
      rw [s, Option.bind_some, cond_true]
      unfold meet_AtX swarfref09_AtX
      rw [qFrom (by omega) (by omega), Option.bind_some, qFrom (by omega) (by omega), Option.bind_some, rQFrom (by omega) (by omega), Option.bind_some, rQFrom (by omega) (by omega), Option.bind_some, el,
        lcP_ok (z := zl) (w := y1) (by decide) ol, Option.bind_some, Option.bind_some, lcR_ok (z := zl) (w := y1) (by omega) (by decide) ol, Option.bind_some, Option.bind_some,
        lawSame9 (n := 800) (by have := lcP_len (l := ⟨1, 0, x⟩) (c := c); omega) lcP_vp (lc_same ol) (fun p hp => (lcP_zp zl y1 p hp).mono (by omega)) (fun p hp => (lcR_zp zl y1 p hp).mono (by omega)) (by omega) (by omega)]; rfl
end Go.Proofs.YtbjkpogfgijmaaaGreat
