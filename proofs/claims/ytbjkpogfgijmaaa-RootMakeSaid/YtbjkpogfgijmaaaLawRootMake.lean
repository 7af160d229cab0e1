/- The plain law RootMake: Make returns the specified root in reduced form, or ErrNegative; FromRat and Rational are inverse to one another. -/
import Derived.Test.YtbjkpogfgijmaaaLawA
namespace Go.Proofs.Ytbjkpogfgijmaaa
open Go
set_option linter.unusedVariables false
set_option linter.unusedSimpArgs false
theorem law_RootMake (a b c : RatD) (ha : WfQ a) (hb : WfQ b) (hc : WfQ c) : ∃ k, swarflaw03_RootMake k a b c = some true := by
  obtain ⟨k, F⟩ := fuel_exists
  refine ⟨k, ?_⟩
  unfold swarflaw03_RootMake
  rw [awake03, Option.bind_some, Bool.not_true, cond_false]
  obtain ⟨t1, e1, f1⟩ := small4 (k := k) ha
  obtain ⟨t2, e2, f2⟩ := small4 (k := k) hb
  obtain ⟨t3, e3, f3⟩ := small4 (k := k) hc
  rw [e1, Option.bind_some]
  cases t1 with
  | false => rfl
  | true =>
    rw [Bool.not_true, cond_false, e2, Option.bind_some]
    cases t2 with
    | false => rfl
    | true =>
      rw [Bool.not_true, cond_false, e3, Option.bind_some]
      cases t3 with
      | false => rfl
      | true =>
        obtain ⟨x, rfl, zx⟩ := f1 rfl
        obtain ⟨y, rfl, zy⟩ := f2 rfl
        obtain ⟨c, rfl, zc⟩ := f3 rfl
        have zm := mk_zt zx zy zc (by decide)
        rw [Bool.not_true, cond_false, make_eq (by decide), Option.bind_some, rmake_eq (by decide), Option.bind_some]
        have s1 : ∀ (r : RootD) (e : Int), (r = zRoot ∨ r = R (mk x y c)) → swarflaw03_same k r e r e = some true := by
          rintro r e (rfl | rfl)
          · exact lawSame_zero
          · exact lawSame_R zm (by decide)
        have zr := rat_zt zx (by decide)
        have q1 : swarfref02_Same k (Q x) (Q x) = some true := by
          have := lens_of (q := x)
          have hlm := LM_val
          exact rQSame_self _ (by omega) (by omega)
        have hrat : root_Rational k (R (rat x)) = some (Q x, true) := by rw [rational_ok]; rfl
        by_cases hn : c < 0
        · rw [if_pos hn, s1 _ _ (.inl rfl), Option.bind_some, Bool.not_true, cond_false, fromRat_ok, Option.bind_some, rfromRat_ok, Option.bind_some, rSameRoot_self zr (by decide), Option.bind_some, Bool.not_true, cond_false, Option.bind_some, hrat, Option.bind_some,
            Bool.not_true, cond_false]
          show ((swarfref02_Same k (Q x) (Q x)).bind _) = _
          rw [q1]; rfl
        · rw [if_neg hn, s1 _ _ (.inr rfl), Option.bind_some, Bool.not_true, cond_false, fromRat_ok, Option.bind_some, rfromRat_ok, Option.bind_some, rSameRoot_self zr (by decide), Option.bind_some, Bool.not_true, cond_false, Option.bind_some, hrat, Option.bind_some,
            Bool.not_true, cond_false]
          show ((swarfref02_Same k (Q x) (Q x)).bind _) = _
          rw [q1, Option.bind_some, Bool.not_true, cond_false, rational_ok, Option.bind_some, rrational_ok, Option.bind_some]
          by_cases hb : (mk x y c).B = 0
          · rw [if_pos hb]
            have z := zm.A
            show ((swarfref02_Same k (Q (mk x y c).A) (Q (mk x y c).A)).bind _) = _
            have := lens_of (q := (mk x y c).A)
            have hlm := LM_val
            rw [rQSame_self _ (by omega) (by omega)]; rfl
          · rw [if_neg hb]
            show ((swarfref02_Same k zR zR).bind _) = _
            rw [rQSame_self _ (by decide) (by decide)]; rfl
end Go.Proofs.Ytbjkpogfgijmaaa
