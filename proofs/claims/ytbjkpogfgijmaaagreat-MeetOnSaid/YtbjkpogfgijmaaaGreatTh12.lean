/- Plain laws: the reference's operations on whole numbers. Plain laws: fractions. Plain laws: the program's and the reference's fractions. Plain laws: which data are numbers in normal form; rational square roots. -/
import Derived.Test.YtbjkpogfgijmaaaGreatTh8
import Derived.Test.YtbjkpogfgijmaaaGreatRow1
namespace Go.Proofs.YtbjkpogfgijmaaaGreat
/-! ## Plain laws: the reference's operations on whole numbers. -/
section
open Go
set_option linter.unusedVariables false
set_option linter.unusedSimpArgs false

theorem rCmp_eq {k : Nat} [F : Fuel k] {x y : Int} {m n : Nat} [a : Sz m x] [b : Sz n y] (hm : m ≤ LM := by decide) (hn : n ≤ LM := by decide) :
    swarfref01_Cmp k (I x) (I y) = some (cmpI x y) := by
  unfold swarfref01_Cmp
  simp only [I_neg, I_limbs]
  rw [rcompare_ok (Nat.le_trans a.lim hm) (Nat.le_trans b.lim hn), rcompare_ok (Nat.le_trans b.lim hn) (Nat.le_trans a.lim hm)]
  by_cases h : decide (x < 0) = decide (y < 0)
  · have : (!(decide (x < 0) == decide (y < 0))) = false := by simp [h]
    rw [this, cond_false, cmp_abs h]
    by_cases hx : x < 0 <;> simp [hx]
  · have : (!(decide (x < 0) == decide (y < 0))) = true := by simpa using h
    rw [this, cond_true, cmp_sign h]
    by_cases hx : x < 0 <;> simp [hx]
theorem toNat_add (a b : Nat) : ((a : Int) + b).toNat = a + b := by omega
theorem toNat_sub (a b : Nat) : ((a : Int) - b).toNat = a - b := by omega
theorem rAdd_eq {k : Nat} [F : Fuel k] {x y : Int} {m n : Nat} [a : Sz m x] [b : Sz n y] (h : max m n + 1 ≤ LM := by decide) :
    swarfref01_Add k (I x) (I y) = some (I (x + y)) := by
  have ha := a.lim; have hb := b.lim
  have dx := lim_dig x.natAbs; have dy := lim_dig y.natAbs
  unfold swarfref01_Add
  simp only [I_neg, I_limbs]
  by_cases hs : decide (x < 0) = decide (y < 0)
  · have h1 : x < 0 ↔ y < 0 := by simpa using hs
    have : (decide (x < 0) == decide (y < 0)) = true := by simp [hs]
    have hl : (lim (x.natAbs + y.natAbs)).length ≤ max m n + 1 := lim_len_le (by
      have h1 := a.lt; have h2 := b.lt
      have h3 := bp_mono (Nat.le_max_left m n); have h4 := bp_mono (Nat.le_max_right m n)
      simp only [bp]; have := bp_pos (max m n); omega)
    rw [this, cond_true, rplus_ok dx dy (by omega) (by omega), lim_val, lim_val, toNat_add, Option.bind_some, rsigned_ok _ (lim_dig _) (by omega), Option.bind_some, lim_val]
    congr 2
    by_cases hx : x < 0
    · simp [hx]; omega
    · simp [hx]; omega
  · have h1 : ¬ (x < 0 ↔ y < 0) := by simpa using hs
    have : (decide (x < 0) == decide (y < 0)) = false := by simpa using hs
    rw [this, cond_false, rcompare_ok (by omega) (by omega), Option.bind_some]
    by_cases hlt : x.natAbs < y.natAbs
    · have hl := lim_len_mono (Nat.sub_le y.natAbs x.natAbs)
      rw [cdecF (fun h => by have := cmpI_lt (a := (x.natAbs : Int)) (b := y.natAbs) (by omega); omega), cond_false, rminus_ok dy dx (lim_len_mono (by omega)) (by omega) (by rw [lim_val, lim_val]; omega), lim_val, lim_val, toNat_sub, Option.bind_some, rsigned_ok _ (lim_dig _) (by omega), Option.bind_some, lim_val]
      congr 2
      by_cases hy : y < 0
      · simp [hy]; omega
      · simp [hy]; omega
    · have hl := lim_len_mono (Nat.sub_le x.natAbs y.natAbs)
      rw [cdec (by have := @cmpI_neg_iff (x.natAbs : Int) (y.natAbs : Int); omega), cond_true, rminus_ok dx dy (lim_len_mono (by omega)) (by omega) (by rw [lim_val, lim_val]; omega), lim_val, lim_val, toNat_sub, Option.bind_some, rsigned_ok _ (lim_dig _) (by omega), Option.bind_some, lim_val]
      congr 2
      by_cases hx : x < 0
      · simp [hx]; omega
      · simp [hx]; omega
theorem rSub_eq {k : Nat} [F : Fuel k] {x y : Int} {m n : Nat} [a : Sz m x] [b : Sz n y] (h : max m n + 1 ≤ LM := by decide) :
    swarfref01_Sub k (I x) (I y) = some (I (x - y)) := by
  have b' : Sz n (-y) := szNeg b
  unfold swarfref01_Sub
  rw [rNeg_eq (by omega), Option.bind_some, rAdd_eq h, Option.bind_some, Int.sub_eq_add_neg]
theorem rMul_eq {k : Nat} [F : Fuel k] {x y : Int} {m n : Nat} [a : Sz m x] [b : Sz n y] (h : m + n ≤ LM := by decide) :
    swarfref01_Mul k (I x) (I y) = some (I (x * y)) := by
  have ha := a.lim; have hb := b.lim
  have hs := (szMul a b).lim
  unfold swarfref01_Mul
  simp only [I_neg, I_limbs]
  have e0 : ((x.natAbs : Int) * (y.natAbs : Int)).toNat = (x * y).natAbs := by rw [Int.natAbs_mul]; have := Int.natCast_mul x.natAbs y.natAbs; omega
  rw [rtimes_ok (lim_dig _) (lim_dig _) (by omega), lim_val, lim_val, e0, Option.bind_some, rsigned_ok _ (lim_dig _) (by omega), Option.bind_some, lim_val, Int.natAbs_mul, Int.natCast_mul]
  congr 2
  by_cases hx : x < 0 <;> by_cases hy : y < 0 <;> simp only [hx, hy, decide_true, decide_false]
  · rw [show (x.natAbs : Int) = -x by omega, show (y.natAbs : Int) = -y by omega]; simp <;> grind
  · rw [show (x.natAbs : Int) = -x by omega, show (y.natAbs : Int) = y by omega]; simp <;> grind
  · rw [show (x.natAbs : Int) = x by omega, show (y.natAbs : Int) = -y by omega]; simp <;> grind
  · rw [show (x.natAbs : Int) = x by omega, show (y.natAbs : Int) = y by omega]; simp <;> grind
theorem rDivMod_eq {k : Nat} [F : Fuel k] {x y : Int} {m n : Nat} [a : Sz m x] [b : Sz n y] (hy : y ≠ 0) (h : m + n + 10 ≤ LM := by decide) :
    swarfref01_DivMod k (I x) (I y) = some (I (x.fdiv y), I (x.fmod y), 0) := by
  have hlm := LM_val
  have ha := a.lim; have hb := b.lim
  unfold swarfref01_DivMod
  simp only [I_neg, I_limbs]
  have hl := nat_pos_iff.2 hy
  have e0 : (((lim y.natAbs).length : Int) == 0) = false := beq_eq_false_iff_ne.2 (by omega)
  obtain ⟨q, hq⟩ : ∃ q, q = x.natAbs / y.natAbs := ⟨_, rfl⟩
  obtain ⟨r, hr⟩ : ∃ r, r = x.natAbs % y.natAbs := ⟨_, rfl⟩
  obtain ⟨f1, f2⟩ := fdiv_abs x y hy (q := (q : Int)) (r := (r : Int)) (by rw [hq]; simp) (by rw [hr]; simp)
  have hql : (lim q).length ≤ m := by have := lim_len_mono (Nat.div_le_self x.natAbs y.natAbs); rw [← hq] at this; omega
  have hrl : (lim r).length ≤ n := by have := lim_len_mono (Nat.le_of_lt (Nat.mod_lt x.natAbs (show 0 < y.natAbs by omega))); rw [← hr] at this; omega
  rw [e0, cond_false, rparts_ok (by omega) (by omega), ← hq, ← hr, Option.bind_some]
  dsimp only
  rw [rsigned_ok _ (lim_dig _) (by omega), Option.bind_some, rsigned_ok _ (lim_dig _) (by omega), Option.bind_some, lim_val, lim_val]
  have hrp := @lim_length_pos r
  by_cases h0 : (r : Int) = 0
  · rw [cdecF (by omega), cond_false]
    by_cases hs : decide (x < 0) = decide (y < 0)
    · obtain ⟨g1, g2⟩ := f1 hs
      have hi : (x < 0) = (y < 0) := propext (by simpa using hs)
      rw [g1, g2]
      simp [hi, h0]
    · obtain ⟨g1, g2⟩ := (f2 hs).1 h0
      rw [g1, g2]
      have : (!(decide (x < 0) == decide (y < 0))) = true := by simpa using hs
      simp [this, h0]
  · rw [cdec (by omega), cond_true]
    by_cases hs : decide (x < 0) = decide (y < 0)
    · obtain ⟨g1, g2⟩ := f1 hs
      have hi : (x < 0) = (y < 0) := propext (by simpa using hs)
      rw [g1, g2]
      simp [hi]
    · obtain ⟨g1, g2⟩ := (f2 hs).2 h0
      have : (!(decide (x < 0) == decide (y < 0))) = true := by simpa using hs
      simp only [this, cond_true]
      rw [rFromInt64_eq (by omega) (by omega), Option.bind_some]
      have s1 : Sz m (-(q : Int)) := szNeg ⟨by unfold len; rw [Int.natAbs_natCast]; exact hql⟩
      have s2 : Sz 2 (1 : Int) := szSmall (by decide)
      have s3 : Sz n (r : Int) := ⟨by unfold len; rw [Int.natAbs_natCast]; exact hrl⟩
      have s4 : Sz n (if decide (x < 0) = true then -(r : Int) else r) := by split; exact szNeg s3; exact s3
      have t1 := rSub_eq (k := k) (x := -(q : Int)) (y := 1) (a := s1) (b := s2) (by omega)
      have t2 := rAdd_eq (k := k) (x := if decide (x < 0) = true then -(r : Int) else r) (y := y) (a := s4) (b := b) (by omega)
      simp only [if_true]
      rw [t1, Option.bind_some, t2, Option.bind_some, g1, g2]
      simp
theorem rgcd_small {k : Nat} [F : Fuel k] (z : IntD) {u v : Nat} (hu : (u : Int) < 1000000000000000000) (hv : (v : Int) < 1000000000000000000) :
    iter (fun (x6 : (IntD × Int × Int × Unit)) => swarfref01_GCD_L2 k x6.1 x6.2.1 x6.2.2.1) k (z, (u : Int), (v : Int), ()) = some (z, ((Nat.gcd u v : Nat) : Int), ()) := gcd_small z hu hv
theorem rGCD_eq {k : Nat} [F : Fuel k] {x y : Int} {m n : Nat} [sa : Sz m x] [sb : Sz n y] (h : 2 * max m n + 10 ≤ LM := by decide) :
    swarfref01_GCD k (I x) (I y) = some (I ((Int.gcd x y : Nat) : Int)) := by
  have hlm := LM_val
  have ha := sa.lim; have hb := sb.lim
  unfold swarfref01_GCD
  rw [I_limbs, I_limbs]
  have hg : Int.gcd x y = Nat.gcd x.natAbs y.natAbs := rfl
  rw [hg]
  generalize x.natAbs = u at *
  generalize y.natAbs = v at *
  have gz : (lim (Nat.gcd u v)).length ≤ max m n := by
    by_cases hu : u = 0
    · subst hu; rw [Nat.gcd_zero_left]; omega
    · have := lim_len_mono (Nat.gcd_le_left (m := u) v (by omega)); omega
  refine Exists.elim (iter_ok (fun (x4 : (IntD × List Int × List Int × Unit)) => swarfref01_GCD_L0 k x4.1 x4.2.1 x4.2.2.1)
    (fun n' s => ∃ a : Nat, s = (⟨false, []⟩, lim a, lim n', ()) ∧ Nat.gcd a n' = Nat.gcd u v ∧ (lim a).length ≤ max m n ∧ (lim n').length ≤ max m n)
    (fun x => ∃ a b : Nat, x = (⟨false, []⟩, lim a, lim b, ()) ∧ Nat.gcd a b = Nat.gcd u v ∧ (lim a).length ≤ max m n ∧ (b ≠ 0 → (lim a).length ≤ 2 ∧ (lim b).length ≤ 2)) ?_ k v (⟨false, []⟩, lim u, lim v, ()) (F.lt (m := n) (by have := lim_len_le_iff.1 hb; omega) (by omega)) ⟨u, rfl, rfl, by omega, by omega⟩) ?_
  rotate_left
  · rintro x ⟨hx, a, b, rfl, h1, h2, h3⟩
    rw [hx, Option.bind_some]
    dsimp only
    by_cases hb0 : b = 0
    · subst hb0
      rw [Nat.gcd_zero_right] at h1
      have e1 : (((lim 0).length : Int) == 0) = true := by rw [lim_zero]; rfl
      rw [e1, cond_true, rsigned_ok _ (lim_dig _) (by omega), Option.bind_some, lim_val, h1]; simp
    · obtain ⟨h4, h5⟩ := h3 hb0
      have e1 : (((lim b).length : Int) == 0) = false := beq_eq_false_iff_ne.2 (by have := lim_length_pos (n := b); omega)
      have hsm := small_lt h5
      have hgl : (lim (Nat.gcd u v)).length ≤ 2 := by
        rw [← h1]; exact Nat.le_trans (lim_len_mono (Nat.gcd_le_right a (by omega))) h5
      have hsm2 := small_lt hgl
      rw [e1, cond_false, rshort_lim h4, Option.bind_some, rshort_lim h5, Option.bind_some, rgcd_small _ (small_lt h4) hsm, Option.bind_some]
      dsimp only
      rw [h1, rlimbs_ok (by omega), Option.bind_some, rsigned_ok _ (lim_dig _) (by omega), Option.bind_some, lim_val]; simp
  · rintro n' s ⟨a, rfl, hg', ha', hb'⟩
    dsimp only
    unfold swarfref01_GCD_L0
    have next : n' ≠ 0 → ∃ s' m', ((swarfref01_parts k (lim a) (lim n')).bind fun x1 => some (Sum.inl ((⟨false, []⟩ : IntD), lim n', x1.2, ()))) = some (Sum.inl s' : (IntD × List Int × List Int × Unit) ⊕ (IntD × List Int × List Int × Unit)) ∧ m' < n' ∧
          ∃ a : Nat, s' = (⟨false, []⟩, lim a, lim m', ()) ∧ Nat.gcd a m' = Nat.gcd u v ∧ (lim a).length ≤ max m n ∧ (lim m').length ≤ max m n := by
      intro h0
      have hlt : a % n' < n' := Nat.mod_lt _ (by omega)
      rw [rparts_ok (by omega) (by omega), Option.bind_some]
      exact ⟨_, a % n', rfl, hlt, n', rfl, by rw [gcd_step, hg'], hb', Nat.le_trans (lim_len_mono (Nat.le_of_lt hlt)) hb'⟩
    by_cases h0 : n' = 0
    · right
      subst h0
      exact ⟨_, by rw [cdecF (by rw [lim_zero]; simp), cond_false], a, 0, rfl, hg', ha', fun h => absurd rfl h⟩
    · have hp := lim_length_pos (n := n')
      rw [cdec (by omega), cond_true]
      by_cases h1 : ((lim a).length : Int) > 2
      · left
        rw [cdec h1, cond_true]
        exact next h0
      · rw [cdecF h1, cond_false]
        by_cases h2 : ((lim n').length : Int) > 2
        · left
          rw [cdec h2, cond_true]
          exact next h0
        · right
          exact ⟨_, by rw [cdecF h2, cond_false], a, n', rfl, hg', ha', fun _ => ⟨by omega, by omega⟩⟩
theorem rSqrt_pos {k : Nat} [F : Fuel k] {a : Nat} {n : Nat} [sa : Sz n (a : Int)] (ha : 0 < a) (h : 2 * n + 20 ≤ LM := by decide) : swarfref01_Sqrt k (I (a : Int)) = some (I ((Nat.sqrt a : Nat) : Int), 0) := by
  have hlm := LM_val
  have hl := sa.lim
  rw [Int.natAbs_natCast] at hl
  unfold swarfref01_Sqrt
  rw [I_nat_neg, I_nat_limbs, cond_false, beq_eq_false_iff_ne.2 (by have := lim_length_pos.2 ha; omega), cond_false]
  have w1 : IntKind.i64.wrap (((lim a).length : Int) + 1) = ((lim a).length : Int) + 1 := wI64 (by omega) (by omega)
  have w2 : IntKind.i64.wrap ((((lim a).length : Int) + 1).tdiv 2) = ((((lim a).length + 1) / 2 : Nat) : Int) := by
    rw [Int.tdiv_eq_ediv_of_nonneg (by omega), wI64 (by omega) (by omega)]; omega
  simp only [w1, w2]
  obtain ⟨p, hp⟩ : ∃ p, p = ((lim a).length + 1) / 2 := ⟨_, rfl⟩
  rw [← hp, make_ok (by omega), cond_true, cdec (by simp; omega), cond_true, Int.toNat_natCast, lim_pow]
  have hP0 := bp_pos p
  have hPn : ((bp p).toNat : Int) = bp p := by omega
  have hs0 : (lim (bp p).toNat).length ≤ p + 1 := lim_len_le (by simp only [bp]; omega)
  have e1 : (⟨false, lim (bp p).toNat⟩ : IntD) = I (((bp p).toNat : Nat) : Int) := by unfold I; rw [Int.natAbs_natCast, cdecF (by omega)]
  rw [e1, rFromInt64_eq (by omega) (by omega), Option.bind_some]
  have hlt := sqrt_lt_of (bp_sq_gt (a := a) (p := p) (by omega))
  have hs1 := Nat.sqrt_le a
  have hs2 := Nat.lt_succ_sqrt a
  refine Exists.elim (iter_ok (fun (x8 : (IntD × IntD × IntD × IntD × Unit)) => swarfref01_Sqrt_L0 k x8.1 x8.2.1 x8.2.2.1 x8.2.2.2.1) (fun m s => s = (I (a : Int), ⟨false, []⟩, I (m : Int), I 2, ()) ∧ Nat.sqrt a ≤ m ∧ 0 < m ∧ m ≤ (bp p).toNat) (fun x => x = (I ((Nat.sqrt a : Nat) : Int), 0, ())) ?_ k (bp p).toNat _ (F.lt (m := p) (by omega) (by omega)) ⟨rfl, by omega, by omega, Nat.le_refl _⟩) ?_
  rotate_left
  · rintro x ⟨hx, rfl⟩; rw [hx]; rfl
  · rintro m s ⟨rfl, hm, hm0, hmP⟩
    dsimp only
    unfold swarfref01_Sqrt_L0
    have s1 : Sz (p + 1) (m : Int) := ⟨by unfold len; rw [Int.natAbs_natCast]; exact Nat.le_trans (lim_len_mono hmP) hs0⟩
    have s2 : Sz 3 (2 : Int) := szSmall (by decide)
    have s3 : Sz n ((a / m : Nat) : Int) := sa.abs (by rw [Int.natAbs_natCast, Int.natAbs_natCast]; exact Nat.div_le_self _ _)
    have s4 := szAdd s1 s3
    have e2 := rDivMod_eq (k := k) (x := (a : Int)) (y := (m : Int)) (by omega) (by omega)
    have e3 := rAdd_eq (k := k) (x := (m : Int)) (y := ((a / m : Nat) : Int)) (by omega)
    have e4 := rDivMod_eq (k := k) (x := (m : Int) + ((a / m : Nat) : Int)) (y := (2 : Int)) (by omega) (by omega)
    have e5 : ((m : Int) + ((a / m : Nat) : Int)).fdiv 2 = (((m + a / m) / 2 : Nat) : Int) := by
      have := fdiv_nat (m + a / m) 2
      rw [Int.natCast_add] at this; exact this
    rw [fdiv_nat] at e2
    rw [e5] at e4
    have s5 : Sz (max (p + 1) n + 1) (((m + a / m) / 2 : Nat) : Int) := s4.abs (by omega)
    have e6 := rCmp_eq (k := k) (x := (((m + a / m) / 2 : Nat) : Int)) (y := (m : Int)) (by omega) (by omega)
    simp only [e2, e3, e4, e6, Option.bind_some]
    have hge := newton_ge hm0 hs1
    by_cases hc : m ≤ (m + a / m) / 2
    · right
      have := newton_end hm hs2 hm0 hc
      have hcc : cmpI (((m + a / m) / 2 : Nat) : Int) (m : Int) ≥ 0 := by
        have := @cmpI_neg_iff (((m + a / m) / 2 : Nat) : Int) (m : Int); omega
      exact ⟨_, by rw [cdec hcc, cond_true], by rw [this]⟩
    · left
      have hcc : ¬ cmpI (((m + a / m) / 2 : Nat) : Int) (m : Int) ≥ 0 := by
        have := cmpI_lt (a := (((m + a / m) / 2 : Nat) : Int)) (b := (m : Int)) (by omega); omega
      have hpos : 0 < (m + a / m) / 2 := by
        have : 1 ≤ Nat.sqrt a := by
          rcases Nat.eq_zero_or_pos (Nat.sqrt a) with h0 | h0
          · rw [h0] at hs2; omega
          · exact h0
        omega
      exact ⟨_, (m + a / m) / 2, by rw [cdecF hcc, cond_false], by omega, rfl, hge, hpos, by omega⟩
theorem rSqrt_eq {k : Nat} [F : Fuel k] {a : Int} {n : Nat} [sa : Sz n a] (h : 2 * n + 20 ≤ LM := by decide) : swarfref01_Sqrt k (I a) = some (if a < 0 then (I 0, 7) else (I ((Nat.sqrt a.toNat : Nat) : Int), 0)) := by
  by_cases h0 : a < 0
  · rw [if_pos h0]
    unfold swarfref01_Sqrt
    rw [I_neg, cdec h0, cond_true, zero_I]
  · rw [if_neg h0]
    obtain ⟨b, rfl⟩ : ∃ b : Nat, a = b := ⟨a.toNat, by omega⟩
    rw [Int.toNat_natCast]
    by_cases h1 : b = 0
    · subst h1
      unfold swarfref01_Sqrt
      rw [I_nat_neg, I_nat_limbs, lim_zero]
      simp [zero_I, Nat.sqrt]
    · exact rSqrt_pos (by omega) h

/-! ### Equal data -/
theorem rcmp_same {k : Nat} [F : Fuel k] {a b : List Int} (hl : a.length ≤ LM) (hlen : a.length = b.length) :
    ∃ x, iter (fun (x4 : (List Int × List Int × Int × Unit)) => swarfref01_compare_L0 k x4.1 x4.2.1 x4.2.2.1) k (a, b, IntKind.i64.wrap ((a.length : Int) - 1), ()) = some x ∧
      match x with
      | .inl _ => a = b
      | .inr y => y.1 ≠ 0 ∧ a ≠ b := by
  have hlm := LM_val
  refine iter_ok _ (fun n s => s = (a, b, (n : Int) - 1, ()) ∧ n ≤ a.length ∧ a.drop n = b.drop n) _ ?_ k a.length _ (F.len hl) ⟨by rw [wI64 (by omega) (by omega)], Nat.le_refl _, by rw [List.drop_length, hlen, List.drop_length]⟩
  rintro n s ⟨rfl, hn, he⟩
  dsimp only
  unfold swarfref01_compare_L0
  by_cases h0 : n = 0
  · right
    subst h0
    simp at he
    exact ⟨.inl (), by rw [cdecF (by omega), cond_false], he⟩
  · obtain ⟨m, rfl⟩ : ∃ m, n = m + 1 := ⟨n - 1, by omega⟩
    have e1 : ((m + 1 : Nat) : Int) - 1 = m := by omega
    rw [e1, cdec (by omega), cond_true, ixOk_of (by omega) (by omega), cond_true, ixOk_of (by omega) (by omega), cond_true, Int.toNat_natCast]
    by_cases h1 : a.getD m 0 < b.getD m 0
    · right
      refine ⟨.inr (-1, ()), by simp only [h1, decide_true, cond_true], by simp, ?_⟩
      rintro rfl; omega
    · by_cases h2 : a.getD m 0 > b.getD m 0
      · right
        refine ⟨.inr (1, ()), by simp only [h1, h2, decide_true, decide_false, cond_true, cond_false], by simp, ?_⟩
        rintro rfl; omega
      · left
        refine ⟨(a, b, (m : Int) - 1, ()), m, ?_, by omega, rfl, by omega, ?_⟩
        · simp only [h1, h2, decide_false, cond_false, cond_true]
          rw [wI64 (by omega) (by omega)]
        · rw [getD_drop a m (by omega), getD_drop b m (by omega), he]
          have : a.getD m 0 = b.getD m 0 := by omega
          rw [this]
theorem rSame_eq {k : Nat} [F : Fuel k] (a b : IntD) (hl : a.limbs.length ≤ LM) : swarfref01_Same k a b = some (decide (a.neg = b.neg ∧ a.limbs = b.limbs)) := by
  unfold swarfref01_Same swarfref01_compare
  by_cases hn : a.neg = b.neg
  · have e1 : (a.neg == b.neg) = true := by simp [hn]
    rw [e1, cond_true]
    by_cases hlen : a.limbs.length = b.limbs.length
    · have e2 : ((a.limbs.length : Int) != (b.limbs.length : Int)) = false := by simp [hlen]
      rw [e2, cond_false]
      obtain ⟨x, hx, hp⟩ := rcmp_same (k := k) hl hlen
      rw [hx]
      cases x with
      | inl x => dsimp only at hp; simp [hn, hp]
      | inr x => dsimp only at hp; simp [hn, hp.2, hp.1]
    · have e2 : ((a.limbs.length : Int) != (b.limbs.length : Int)) = true := by simp; omega
      have e3 : ¬ a.limbs = b.limbs := fun h => hlen (by rw [h])
      rw [e2, cond_true]
      by_cases h1 : (a.limbs.length : Int) < (b.limbs.length : Int)
      · rw [cdec h1, cond_true]; simp [e3]
      · rw [cdecF h1, cond_false]; simp [e3]
  · have e1 : (a.neg == b.neg) = false := by simpa using hn
    rw [e1, cond_false]; simp [hn]
theorem rSame_iff {k : Nat} [F : Fuel k] (a b : IntD) (hl : a.limbs.length ≤ LM) : ∃ t, swarfref01_Same k a b = some t ∧ (t = true ↔ a = b) := by
  refine ⟨_, rSame_eq a b hl, ?_⟩
  cases a; cases b; simp
end
/-! ## Plain laws: fractions. -/
section
open Go
set_option linter.unusedVariables false
set_option linter.unusedSimpArgs false

/-! ### Fractions as data -/
def Q (q : Rat) : RatD := ⟨I q.num, I q.den⟩
theorem Q_inj {a b : Rat} (h : Q a = Q b) : a = b := by
  have h1 := I_inj (congrArg RatD.num h)
  have h2 := I_inj (congrArg RatD.den h)
  exact Rat.ext h1 (by have : (a.den : Int) = b.den := h2; omega)
theorem Q_num (q : Rat) : (Q q).num = I q.num := rfl
theorem Q_den (q : Rat) : (Q q).den = I q.den := rfl
theorem den_pos (q : Rat) : 0 < (q.den : Int) := by have := q.den_pos; omega
/-- How many limbs the parts have at most. -/
class Rz (n : outParam Nat) (q : Rat) : Prop where
  num : Sz n q.num
  den : Sz n (q.den : Int)
instance instNum {n : Nat} {q : Rat} [a : Rz n q] : Sz n q.num := a.num
instance instDen {n : Nat} {q : Rat} [a : Rz n q] : Sz n (q.den : Int) := a.den
theorem Rz.mono {m n : Nat} {q : Rat} (a : Rz m q) (h : m ≤ n) : Rz n q := ⟨a.num.mono h, a.den.mono h⟩
/-- A quotient of whole numbers is as short as they are. -/
theorem num_div_le (n d : Int) (hd : d ≠ 0) : (Rat.divInt n d).num.natAbs ≤ n.natAbs ∧ (Rat.divInt n d).den ≤ d.natAbs := by
  rw [Rat.num_divInt, Rat.den_divInt, if_neg hd]
  have hg : 0 < Int.gcd d n := Int.gcd_pos_of_ne_zero_left n hd
  constructor
  · have h1 : (d.sign * n).natAbs = n.natAbs := by rw [Int.natAbs_mul, Int.natAbs_sign_of_ne_zero hd, Nat.one_mul]
    rw [Int.natAbs_ediv_of_dvd, h1]
    · exact Nat.div_le_self _ _
    · exact Int.dvd_mul_of_dvd_right (Int.gcd_dvd_right d n)
  · exact Nat.div_le_self _ _
theorem rzDiv {m k : Nat} {n d : Int} (a : Sz m n) (b : Sz k d) (hd : d ≠ 0) : Rz (max m k) (Rat.divInt n d) := by
  obtain ⟨h1, h2⟩ := num_div_le n d hd
  exact ⟨(a.abs h1).mono (by omega), (b.abs (by rw [Int.natAbs_natCast]; exact h2)).mono (by omega)⟩
theorem add_divInt (a b : Rat) : a + b = Rat.divInt (a.num * b.den + b.num * a.den) (a.den * b.den) := by
  have := Rat.divInt_add_divInt a.num b.num (d₁ := a.den) (d₂ := b.den) (by have := den_pos a; omega) (by have := den_pos b; omega)
  rw [Rat.num_divInt_den, Rat.num_divInt_den] at this
  exact this
theorem mul_divInt (a b : Rat) : a * b = Rat.divInt (a.num * b.num) (a.den * b.den) := by
  have := Rat.divInt_mul_divInt a.num b.num (d₁ := a.den) (d₂ := b.den)
  rw [Rat.num_divInt_den, Rat.num_divInt_den] at this
  exact this
theorem div_divInt (a b : Rat) (hb : b ≠ 0) : a / b = Rat.divInt (a.num * b.den) (a.den * b.num) := by
  rw [Rat.div_def, Rat.inv_def]
  have := Rat.divInt_mul_divInt a.num (b.den : Int) (d₁ := a.den) (d₂ := b.num)
  rw [Rat.num_divInt_den] at this
  exact this
theorem rzAdd {m n : Nat} {a b : Rat} (x : Rz m a) (y : Rz n b) : Rz (m + n + 1) (a + b) := by
  rw [add_divInt]
  have h1 := szAdd (szMul x.num y.den) (szMul y.num x.den)
  have h2 := szMul x.den y.den
  exact (rzDiv h1 h2 (by have := den_pos a; have := den_pos b; exact Int.ne_of_gt (Int.mul_pos (by omega) (by omega)))).mono (by omega)
theorem rzMul {m n : Nat} {a b : Rat} (x : Rz m a) (y : Rz n b) : Rz (m + n) (a * b) := by
  rw [mul_divInt]
  exact (rzDiv (szMul x.num y.num) (szMul x.den y.den) (by have := den_pos a; have := den_pos b; exact Int.ne_of_gt (Int.mul_pos (by omega) (by omega)))).mono (by omega)
theorem rzNeg {n : Nat} {a : Rat} (x : Rz n a) : Rz n (-a) := ⟨by rw [Rat.neg_num]; exact szNeg x.num, by rw [Rat.neg_den]; exact x.den⟩
theorem rzSub {m n : Nat} {a b : Rat} (x : Rz m a) (y : Rz n b) : Rz (m + n + 1) (a - b) := by rw [Rat.sub_eq_add_neg]; exact rzAdd x (rzNeg y)
theorem rzQuo {m n : Nat} {a b : Rat} (x : Rz m a) (y : Rz n b) : Rz (m + n) (a / b) := by
  by_cases hb : b = 0
  · subst hb
    rw [Rat.div_def, Rat.inv_zero, Rat.mul_zero]
    exact ⟨Sz.of (by have := bp_pos (m + n); simp; omega), Sz.of (by
      have h1 := x.den.lt; have h2 := bp_mono (show m ≤ m + n by omega)
      have := den_pos a
      rw [Rat.zero_den]; simp at h1 ⊢; omega)⟩
  · rw [div_divInt a b hb]
    have hn : b.num ≠ 0 := fun h => hb (Rat.num_eq_zero.1 h)
    exact (rzDiv (szMul x.num y.den) (szMul x.den y.num) (Int.mul_ne_zero (by have := den_pos a; omega) hn)).mono (by omega)
theorem rzInt {z : Int} {n : Nat} (h : z.natAbs < n) (hn : 1 < n) : Rz n (z : Rat) := ⟨szSmall (by rw [Rat.num_intCast]; exact h), szSmall (by rw [Rat.den_intCast]; simp; omega)⟩
theorem rzOfInt {z : Int} {n : Nat} (h : Sz n z) : Rz (n + 2) (z : Rat) := ⟨(show Sz n (z : Rat).num by rw [Rat.num_intCast]; exact h).mono (by omega), (szSmall (n := 2) (by rw [Rat.den_intCast]; decide)).mono (by omega)⟩

/-! ### Reduction -/
theorem neg_gcd_eq (n d : Int) : Int.gcd (-n) (-d) = Int.gcd n d := by rw [Int.neg_gcd, Int.gcd_neg]
theorem fdiv_gcd_pos {n d : Int} (hd : 0 < d) : n.fdiv (Int.gcd n d : Nat) = (Rat.divInt n d).num ∧ d.fdiv (Int.gcd n d : Nat) = (Rat.divInt n d).den := by
  have hg : 0 < Int.gcd d n := Int.gcd_pos_of_ne_zero_left n (by omega)
  rw [Rat.num_divInt, Rat.den_divInt, if_neg (by omega), Int.gcd_comm n d, Int.sign_eq_one_of_pos hd, Int.one_mul]
  constructor
  · rw [Int.fdiv_eq_ediv_of_nonneg _ (by omega)]
  · rw [Int.fdiv_eq_ediv_of_nonneg _ (by omega), Int.natCast_ediv]
    congr 1; omega
theorem gcd_szl {m : Nat} {n d : Int} (b : Sz m d) (hd : d ≠ 0) : Sz m ((Int.gcd n d : Nat) : Int) := b.abs (by
  rw [Int.natAbs_natCast]; exact Nat.le_of_dvd (by omega) (Nat.gcd_dvd_right _ _))
theorem gcd_one_self {n d : Int} (hd : 0 < d) (h : Int.gcd n d = 1) : n = (Rat.divInt n d).num ∧ d = (Rat.divInt n d).den := by
  obtain ⟨h1, h2⟩ := fdiv_gcd_pos (n := n) hd
  rw [h] at h1 h2
  rw [← h1, ← h2]
  exact ⟨by simp, by simp⟩
theorem unit_ok {k : Nat} [F : Fuel k] : rational_unit k = some (I 1) := by
  unfold rational_unit
  rw [integer_FromInt64_eq (by omega) (by omega)]; rfl
theorem reduce_pos {k : Nat} [F : Fuel k] {n d : Int} {m p : Nat} [a : Sz m n] [b : Sz p d] (hd : 0 < d) (h : 2 * (m + p) + 20 ≤ LM) :
    ((integer_GCD k (I n) (I d)).bind fun x9 =>
    (rational_unit k).bind fun x10 =>
    (integer_Cmp k x9 x10).bind fun x11 =>
    bif x11 != 0 then
      (rational_exact k (I n) x9).bind fun x12 =>
      (rational_exact k (I d) x9).bind fun x13 =>
      some (⟨x12, x13⟩ : RatD)
    else
      some (⟨I n, I d⟩ : RatD)) = some (Q (Rat.divInt n d)) := by
  have s1 : Sz p ((Int.gcd n d : Nat) : Int) := gcd_szl b (by omega)
  have s2 : Sz 2 (1 : Int) := szSmall (by decide)
  rw [integer_GCD_eq (by omega), Option.bind_some, unit_ok, Option.bind_some, integer_Cmp_eq (by omega) (by omega), Option.bind_some]
  have hg0 : ((Int.gcd n d : Nat) : Int) ≠ 0 := by
    have : 0 < Int.gcd n d := Int.gcd_pos_of_ne_zero_right n (by omega)
    omega
  by_cases hg : Int.gcd n d = 1
  · have e1 : cmpI ((Int.gcd n d : Nat) : Int) 1 = 0 := cmpI_eq_zero.2 (by omega)
    obtain ⟨h1, h2⟩ := gcd_one_self hd hg
    rw [e1]
    show some (⟨I n, I d⟩ : RatD) = _
    unfold Q
    rw [← h1, ← h2]
  · have e1 : (cmpI ((Int.gcd n d : Nat) : Int) 1 != 0) = true := by
      have : cmpI ((Int.gcd n d : Nat) : Int) 1 ≠ 0 := fun h => hg (by have := cmpI_eq_zero.1 h; omega)
      simpa using this
    rw [e1, cond_true]
    unfold rational_exact
    rw [integer_DivMod_eq hg0 (by omega), Option.bind_some, Option.bind_some, integer_DivMod_eq hg0 (by omega), Option.bind_some, Option.bind_some]
    obtain ⟨h1, h2⟩ := fdiv_gcd_pos (n := n) hd
    unfold Q
    dsimp only
    rw [h1, h2]
theorem rational_reduce_eq {k : Nat} [F : Fuel k] {n d : Int} {m p : Nat} [a : Sz m n] [b : Sz p d] (hd : d ≠ 0) (h : 2 * (m + p) + 20 ≤ LM := by decide) :
    rational_reduce k (I n) (I d) = some (Q (Rat.divInt n d)) := by
  unfold rational_reduce
  rw [integer_Sign_eq, Option.bind_some]
  by_cases hneg : d < 0
  · have e1 : decide (sgI d < 0) = true := by simp [sgI, hneg]
    have a' : Sz m (-n) := szNeg a
    have b' : Sz p (-d) := szNeg b
    rw [e1, cond_true, integer_Neg_eq (by omega), Option.bind_some, integer_Neg_eq (by omega), Option.bind_some, reduce_pos (by omega) h, Rat.neg_divInt_neg]
  · have e1 : decide (sgI d < 0) = false := by
      have : d > 0 := by omega
      simp [sgI, hneg, this]
    rw [e1, cond_false, reduce_pos (by omega) h]
theorem rOf_pos {k : Nat} [F : Fuel k] {n d : Int} {m p : Nat} [a : Sz m n] [b : Sz p d] (hd : 0 < d) (h : 2 * (m + p) + 20 ≤ LM) :
    ((swarfref01_GCD k (I n) (I d)).bind fun x7 =>
    (swarfref01_DivMod k (I n) x7).bind fun x8 =>
    (swarfref01_DivMod k (I d) x7).bind fun x9 =>
    some (⟨x8.1, x9.1⟩ : RatD)) = some (Q (Rat.divInt n d)) := by
  have s1 : Sz p ((Int.gcd n d : Nat) : Int) := gcd_szl b (by omega)
  have hg0 : ((Int.gcd n d : Nat) : Int) ≠ 0 := by
    have : 0 < Int.gcd n d := Int.gcd_pos_of_ne_zero_right n (by omega)
    omega
  rw [rGCD_eq (by omega), Option.bind_some, rDivMod_eq hg0 (by omega), Option.bind_some, rDivMod_eq hg0 (by omega), Option.bind_some]
  obtain ⟨h1, h2⟩ := fdiv_gcd_pos (n := n) hd
  unfold Q
  dsimp only
  rw [h1, h2]
theorem rOf_eq {k : Nat} [F : Fuel k] {n d : Int} {m p : Nat} [a : Sz m n] [b : Sz p d] (hd : d ≠ 0) (h : 2 * (m + p) + 20 ≤ LM := by decide) :
    swarfref02_Of k (I n) (I d) = some (Q (Rat.divInt n d)) := by
  unfold swarfref02_Of
  rw [rSign_eq, Option.bind_some]
  by_cases hneg : d < 0
  · have e1 : decide (sgI d < 0) = true := by simp [sgI, hneg]
    have a' : Sz m (-n) := szNeg a
    have b' : Sz p (-d) := szNeg b
    rw [e1, cond_true, rNeg_eq (by omega), Option.bind_some, rNeg_eq (by omega), Option.bind_some, rOf_pos (by omega) h, Rat.neg_divInt_neg]
  · have e1 : decide (sgI d < 0) = false := by
      have : d > 0 := by omega
      simp [sgI, hneg, this]
    rw [e1, cond_false, rOf_pos (by omega) h]
end
/-! ## Plain laws: the program's and the reference's fractions. -/
section
open Go
set_option linter.unusedVariables false
set_option linter.unusedSimpArgs false

/-! ### Signs and order -/
def sg (q : Rat) : Int := if q < 0 then -1 else if 0 < q then 1 else 0
def cmpQ (a b : Rat) : Int := if a < b then -1 else if b < a then 1 else 0
theorem num_neg_iff {q : Rat} : q.num < 0 ↔ q < 0 := by
  have := @Rat.num_nonneg q
  have h2 := @Rat.not_le 0 q
  constructor
  · intro h; apply h2.1; intro h3; have := this.2 h3; omega
  · intro h; rcases Int.lt_or_le q.num 0 with h3 | h3
    · exact h3
    · exact absurd (this.1 h3) (h2.2 h)
theorem num_pos_iff {q : Rat} : 0 < q.num ↔ 0 < q := by
  have h1 := @num_neg_iff q
  have h2 := @Rat.num_eq_zero q
  rw [Rat.lt_iff_le_and_ne, ← @Rat.num_nonneg q]
  constructor
  · intro h; exact ⟨by omega, fun e => by have := h2.2 e.symm; omega⟩
  · rintro ⟨h, e⟩
    have : q.num ≠ 0 := fun h3 => e (h2.1 h3).symm
    omega
theorem sg_num (q : Rat) : sgI q.num = sg q := by
  unfold sgI sg
  have h1 := @num_neg_iff q
  have h2 := @num_pos_iff q
  simp only [h1, gt_iff_lt, h2]
theorem sg_zero {q : Rat} : sg q = 0 ↔ q = 0 := by unfold sg; grind
theorem sg_neg {q : Rat} : sg q < 0 ↔ q < 0 := by unfold sg; grind
theorem sg_pos {q : Rat} : 0 < sg q ↔ 0 < q := by unfold sg; grind
theorem cmpQ_num (a b : Rat) : cmpI (a.num * b.den) (b.num * a.den) = cmpQ a b := by
  unfold cmpI cmpQ
  simp only [Rat.lt_iff a b, Rat.lt_iff b a, gt_iff_lt]
theorem cmpQ_zero {a b : Rat} : cmpQ a b = 0 ↔ a = b := by unfold cmpQ; grind
theorem cmpQ_neg {a b : Rat} : cmpQ a b < 0 ↔ a < b := by unfold cmpQ; grind
theorem cmpQ_pos {a b : Rat} : 0 < cmpQ a b ↔ b < a := by unfold cmpQ; grind

section
variable {k : Nat} [F : Fuel k] {a b : Rat} {m n : Nat}
/-! ### The program -/
omit [F : Fuel k] in
theorem qSign : rational_Sign k (Q a) = some (sg a) := by
  unfold rational_Sign
  rw [Q_num, integer_Sign_eq, Option.bind_some, sg_num]
theorem qNeg [x : Rz n a] (h : n ≤ LM) : rational_Neg k (Q a) = some (Q (-a)) := by
  unfold rational_Neg
  rw [Q_num, integer_Neg_eq h, Option.bind_some]; rfl
theorem qMul [x : Rz m a] [y : Rz n b] (h : 4 * (m + n) + 30 ≤ LM) : rational_Mul k (Q a) (Q b) = some (Q (a * b)) := by
  unfold rational_Mul
  have s1 := szMul x.num y.num
  have s2 := szMul x.den y.den
  rw [Q_num, Q_num, Q_den, Q_den, integer_Mul_eq (by omega), Option.bind_some, integer_Mul_eq (by omega), Option.bind_some, rational_reduce_eq (Int.mul_ne_zero (by have := den_pos a; omega) (by have := den_pos b; omega)) (by omega), Option.bind_some, ← mul_divInt]
theorem add_same_den {a b : Rat} (h : (a.den : Int) = b.den) : Rat.divInt (a.num + b.num) a.den = a + b := by
  rw [add_divInt]
  have ha := den_pos a
  rw [Rat.divInt_eq_divInt_iff (by omega) (by exact Int.ne_of_gt (Int.mul_pos (by omega) (by omega)))]
  rw [← h]; grind
theorem qAdd [x : Rz m a] [y : Rz n b] (h : 4 * (m + n) + 40 ≤ LM) : rational_Add k (Q a) (Q b) = some (Q (a + b)) := by
  unfold rational_Add
  have ha := den_pos a
  have hb := den_pos b
  rw [Q_num, Q_num, Q_den, Q_den, integer_Cmp_eq (by omega) (by omega), Option.bind_some]
  by_cases hd : (a.den : Int) = b.den
  · have e : (cmpI (a.den : Int) (b.den : Int) == 0) = true := by rw [cmpI_eq_zero.2 hd]; rfl
    have s1 := szAdd x.num y.num
    rw [e, cond_true, integer_Add_eq (by omega), Option.bind_some, rational_reduce_eq (by omega) (by omega), Option.bind_some, add_same_den hd]
  · have e : (cmpI (a.den : Int) (b.den : Int) == 0) = false := beq_eq_false_iff_ne.2 fun h => hd (cmpI_eq_zero.1 h)
    have s1 := szMul x.num y.den
    have s2 := szMul y.num x.den
    have s3 := szAdd s1 s2
    have s4 := szMul x.den y.den
    rw [e, cond_false, integer_Mul_eq (by omega), Option.bind_some, integer_Mul_eq (by omega), Option.bind_some, integer_Add_eq (by omega), Option.bind_some, integer_Mul_eq (by omega), Option.bind_some,
      rational_reduce_eq (Int.mul_ne_zero (by omega) (by omega)) (by omega), Option.bind_some, ← add_divInt]
theorem qSub [x : Rz m a] [y : Rz n b] (h : 4 * (m + n) + 40 ≤ LM) : rational_Sub k (Q a) (Q b) = some (Q (a - b)) := by
  unfold rational_Sub
  have y' := rzNeg y
  rw [qNeg (by omega), Option.bind_some, qAdd h, Option.bind_some, Rat.sub_eq_add_neg]
def zR : RatD := ⟨⟨false, []⟩, ⟨false, []⟩⟩
theorem qDiv [x : Rz m a] [y : Rz n b] (h : 4 * (m + n) + 40 ≤ LM) : rational_Div k (Q a) (Q b) = some (if b = 0 then (zR, 6) else (Q (a / b), 0)) := by
  unfold rational_Div
  rw [qSign, Option.bind_some]
  by_cases hb : b = 0
  · have e : (sg b == 0) = true := by rw [sg_zero.2 hb]; rfl
    rw [e, cond_true, if_pos hb]; rfl
  · have e : (sg b == 0) = false := beq_eq_false_iff_ne.2 fun h => hb (sg_zero.1 h)
    have hn : b.num ≠ 0 := fun h => hb (Rat.num_eq_zero.1 h)
    have s1 := szMul x.num y.den
    have s2 := szMul x.den y.num
    rw [e, cond_false, if_neg hb, Q_num, Q_num, Q_den, Q_den, integer_Mul_eq (by omega), Option.bind_some, integer_Mul_eq (by omega), Option.bind_some, rational_reduce_eq (Int.mul_ne_zero (by have := den_pos a; omega) hn) (by omega), Option.bind_some, ← div_divInt a b hb]
omit [F : Fuel k] in
theorem isNaN_ok (x : Int) : cmp_isNaN k x = some false := by unfold cmp_isNaN; simp
omit [F : Fuel k] in
theorem compare_eq (x y : Int) : cmp_Compare k x y = some (cmpI x y) := by
  unfold cmp_Compare
  rw [isNaN_ok, isNaN_ok, Option.bind_some, Option.bind_some, cond_false, cond_false]
  unfold cmpI
  by_cases h1 : x < y
  · rw [cdec h1, cond_true, if_pos h1]
  · rw [cdecF h1, cond_false, if_neg h1]
    by_cases h2 : x > y
    · rw [cdec h2, cond_true, if_pos h2]
    · rw [cdecF h2, cond_false, if_neg h2]
theorem qCmp [x : Rz m a] [y : Rz n b] (h : m + n ≤ LM) : rational_Cmp k (Q a) (Q b) = some (cmpQ a b) := by
  unfold rational_Cmp
  rw [qSign, Option.bind_some, qSign, Option.bind_some, compare_eq, Option.bind_some]
  by_cases hc : cmpI (sg a) (sg b) = 0
  · rw [hc]
    have s1 := szMul x.num y.den
    have s2 := szMul y.num x.den
    show ((integer_Mul k (I a.num) (I b.den)).bind _) = _
    rw [integer_Mul_eq (by omega), Option.bind_some]
    show ((integer_Mul k (I b.num) (I a.den)).bind _) = _
    rw [integer_Mul_eq (by omega), Option.bind_some, integer_Cmp_eq (by omega) (by omega), Option.bind_some, cmpQ_num]
  · have e : (cmpI (sg a) (sg b) != 0) = true := by simpa using hc
    rw [e, cond_true]
    congr 1
    unfold cmpI cmpQ sg at *
    grind
theorem qFrom {z : Int} (h0 : -9223372036854775808 ≤ z) (h1 : z < 9223372036854775808) : rational_FromInt64 k z = some (Q (z : Rat)) := by
  unfold rational_FromInt64 rational_whole
  rw [integer_FromInt64_eq h0 h1, Option.bind_some, unit_ok, Option.bind_some, Option.bind_some]; rfl
theorem qFrac {n d : Int} (h0 : -9223372036854775808 ≤ n) (h1 : n < 9223372036854775808) (h2 : -9223372036854775808 ≤ d) (h3 : d < 9223372036854775808) (hd : d ≠ 0) : rational_Frac k n d = some (Q (Rat.divInt n d)) := by
  unfold rational_Frac
  have s1 : Sz 3 n := Sz.of (by simp [bp]; omega)
  have s2 : Sz 3 d := Sz.of (by simp [bp]; omega)
  rw [beq_eq_false_iff_ne.2 hd, cond_false, integer_FromInt64_eq h0 h1, Option.bind_some, integer_FromInt64_eq h2 h3, Option.bind_some, rational_reduce_eq hd (by decide), Option.bind_some]
theorem qFloor [x : Rz n a] (h : 2 * n + 2 ≤ LM) : rational_Floor k (Q a) = some (I a.floor) := by
  unfold rational_Floor
  have ha := den_pos a
  rw [Q_num, Q_den, integer_DivMod_eq (by omega) (by omega), Option.bind_some, Rat.floor_def, Int.fdiv_eq_ediv_of_nonneg _ (by omega)]
theorem qMake {x y : Int} [u : Sz m x] [v : Sz n y] (h : 2 * (m + n) + 20 ≤ LM) : rational_Make k (I x) (I y) = some (if y = 0 then (zR, 6) else (Q (Rat.divInt x y), 0)) := by
  unfold rational_Make
  rw [integer_Sign_eq, Option.bind_some]
  by_cases hy : y = 0
  · subst hy; rfl
  · have e : (sgI y == 0) = false := beq_eq_false_iff_ne.2 (by unfold sgI; split <;> (try split) <;> omega)
    rw [e, cond_false, if_neg hy, rational_reduce_eq hy h, Option.bind_some]

/-! ### The reference -/
omit [F : Fuel k] in
theorem rQSign : swarfref02_Sign k (Q a) = some (sg a) := by
  unfold swarfref02_Sign
  rw [Q_num, rSign_eq, Option.bind_some, sg_num]
theorem rQNeg [x : Rz n a] (h : n ≤ LM) : swarfref02_Neg k (Q a) = some (Q (-a)) := by
  unfold swarfref02_Neg
  rw [Q_num, rNeg_eq h, Option.bind_some]; rfl
theorem rQMul [x : Rz m a] [y : Rz n b] (h : 4 * (m + n) + 30 ≤ LM) : swarfref02_Mul k (Q a) (Q b) = some (Q (a * b)) := by
  unfold swarfref02_Mul
  have s1 := szMul x.num y.num
  have s2 := szMul x.den y.den
  rw [Q_num, Q_num, Q_den, Q_den, rMul_eq (by omega), Option.bind_some, rMul_eq (by omega), Option.bind_some, rOf_eq (Int.mul_ne_zero (by have := den_pos a; omega) (by have := den_pos b; omega)) (by omega), Option.bind_some, ← mul_divInt]
theorem rQAdd [x : Rz m a] [y : Rz n b] (h : 4 * (m + n) + 40 ≤ LM) : swarfref02_Add k (Q a) (Q b) = some (Q (a + b)) := by
  unfold swarfref02_Add
  have s1 := szMul x.num y.den
  have s2 := szMul y.num x.den
  have s3 := szAdd s1 s2
  have s4 := szMul x.den y.den
  rw [Q_num, Q_num, Q_den, Q_den, rMul_eq (by omega), Option.bind_some, rMul_eq (by omega), Option.bind_some, rAdd_eq (by omega), Option.bind_some, rMul_eq (by omega), Option.bind_some,
    rOf_eq (Int.mul_ne_zero (by have := den_pos a; omega) (by have := den_pos b; omega)) (by omega), Option.bind_some, ← add_divInt]
theorem rQSub [x : Rz m a] [y : Rz n b] (h : 4 * (m + n) + 40 ≤ LM) : swarfref02_Sub k (Q a) (Q b) = some (Q (a - b)) := by
  unfold swarfref02_Sub
  have y' := rzNeg y
  rw [rQNeg (by omega), Option.bind_some, rQAdd h, Option.bind_some, Rat.sub_eq_add_neg]
theorem rQCmp [x : Rz m a] [y : Rz n b] (h : m + n ≤ LM) : swarfref02_Cmp k (Q a) (Q b) = some (cmpQ a b) := by
  unfold swarfref02_Cmp
  have s1 := szMul x.num y.den
  have s2 := szMul y.num x.den
  rw [Q_num, Q_num, Q_den, Q_den, rMul_eq (by omega), Option.bind_some, rMul_eq (by omega), Option.bind_some, rCmp_eq (by omega) (by omega), Option.bind_some, cmpQ_num]
theorem runit_ok : swarfref02_unit k = some (I 1) := by
  unfold swarfref02_unit
  rw [rFromInt64_eq (by omega) (by omega)]; rfl
theorem rQFrom {z : Int} (h0 : -9223372036854775808 ≤ z) (h1 : z < 9223372036854775808) : swarfref02_FromInt64 k z = some (Q (z : Rat)) := by
  unfold swarfref02_FromInt64
  rw [rFromInt64_eq h0 h1, Option.bind_some, runit_ok, Option.bind_some]; rfl
theorem rQFromInt {z : Int} : swarfref02_FromInt k (I z) = some (Q (z : Rat)) := by
  unfold swarfref02_FromInt
  rw [runit_ok, Option.bind_some]; rfl
theorem rQFrac {n d : Int} (h0 : -9223372036854775808 ≤ n) (h1 : n < 9223372036854775808) (h2 : -9223372036854775808 ≤ d) (h3 : d < 9223372036854775808) (hd : d ≠ 0) : swarfref02_Frac k n d = some (Q (Rat.divInt n d)) := by
  unfold swarfref02_Frac
  have s1 : Sz 3 n := Sz.of (by simp [bp]; omega)
  have s2 : Sz 3 d := Sz.of (by simp [bp]; omega)
  rw [beq_eq_false_iff_ne.2 hd, cond_false, rFromInt64_eq h0 h1, Option.bind_some, rFromInt64_eq h2 h3, Option.bind_some, rOf_eq hd (by decide), Option.bind_some]
theorem rQMake {x y : Int} [u : Sz m x] [v : Sz n y] (h : 2 * (m + n) + 20 ≤ LM) : swarfref02_Make k (I x) (I y) = some (if y = 0 then (zR, 6) else (Q (Rat.divInt x y), 0)) := by
  unfold swarfref02_Make
  rw [rSign_eq, Option.bind_some]
  by_cases hy : y = 0
  · subst hy; rfl
  · have e : (sgI y == 0) = false := beq_eq_false_iff_ne.2 (by unfold sgI; split <;> (try split) <;> omega)
    rw [e, cond_false, if_neg hy, rOf_eq hy h, Option.bind_some]
theorem rQDiv [x : Rz m a] [y : Rz n b] (h : 4 * (m + n) + 40 ≤ LM) : swarfref02_Div k (Q a) (Q b) = some (if b = 0 then (zR, 6) else (Q (a / b), 0)) := by
  unfold swarfref02_Div
  have s1 := szMul x.num y.den
  have s2 := szMul x.den y.num
  rw [Q_num, Q_num, Q_den, Q_den, rMul_eq (by omega), Option.bind_some, rMul_eq (by omega), Option.bind_some, rQMake (by omega), Option.bind_some]
  by_cases hb : b = 0
  · subst hb; simp
  · have hn : b.num ≠ 0 := fun h => hb (Rat.num_eq_zero.1 h)
    have hd : (a.den : Int) * b.num ≠ 0 := Int.mul_ne_zero (by have := den_pos a; omega) hn
    rw [if_neg hd, if_neg hb, ← div_divInt a b hb]
theorem rQOver [x : Rz m a] [y : Rz n b] (h : 4 * (m + n) + 40 ≤ LM) (hb : b ≠ 0) : swarfref02_Over k (Q a) (Q b) = some (Q (a / b)) := by
  unfold swarfref02_Over
  rw [rQDiv h, if_neg hb]; rfl
theorem rQFloor [x : Rz n a] (h : 2 * n + 10 ≤ LM) : swarfref02_Floor k (Q a) = some (I a.floor) := by
  unfold swarfref02_Floor
  have ha := den_pos a
  rw [Q_num, Q_den, rDivMod_eq (by omega) (by omega), Option.bind_some, Rat.floor_def, Int.fdiv_eq_ediv_of_nonneg _ (by omega)]

/-! ### Equal data -/
theorem rQSame (x y : RatD) (h1 : x.num.limbs.length ≤ LM) (h2 : x.den.limbs.length ≤ LM) : ∃ t, swarfref02_Same k x y = some t ∧ (t = true ↔ x = y) := by
  unfold swarfref02_Same
  obtain ⟨t1, e1, f1⟩ := rSame_iff (k := k) x.num y.num h1
  obtain ⟨t2, e2, f2⟩ := rSame_iff (k := k) x.den y.den h2
  rw [e1, Option.bind_some]
  cases t1 with
  | true =>
    rw [cond_true, e2]
    refine ⟨t2, rfl, f2.trans ⟨fun h => ?_, fun h => by rw [h]⟩⟩
    cases x; cases y; simp at f1 h ⊢; exact ⟨f1, h⟩
  | false =>
    rw [cond_false]
    refine ⟨false, rfl, by simp; intro h; have := f1.2 (by rw [h]); simp at this⟩
theorem rQSame_self (x : RatD) (h1 : x.num.limbs.length ≤ LM) (h2 : x.den.limbs.length ≤ LM) : swarfref02_Same k x x = some true := by
  obtain ⟨t, h, e⟩ := rQSame (k := k) x x h1 h2
  rw [h, e.2 rfl]
end
end
/-! ## Plain laws: which data are numbers in normal form; rational square roots. -/
section
open Go
set_option linter.unusedVariables false
set_option linter.unusedSimpArgs false

/-! ### Normal form of whole numbers -/
theorem dig_inj : ∀ {a b : List Int}, Dig a → Dig b → a.length = b.length → val a = val b → a = b
  | [], [], _, _, _, _ => rfl
  | [], _ :: _, _, _, h, _ => by simp at h
  | _ :: _, [], _, _, h, _ => by simp at h
  | x :: a, y :: b, ha, hb, h, hv => by
    have hx := ha.head; have hy := hb.head
    simp only [val] at hv
    have h1 : val a = val b := by omega
    have h2 : x = y := by omega
    rw [h2, dig_inj ha.tail hb.tail (by simpa using h) h1]
theorem dig_norm {l : List Int} (h : Dig l) (hl : (lim (val l).toNat).length = l.length) : l = lim (val l).toNat :=
  dig_inj h (lim_dig _) hl.symm (by rw [lim_val]; have := val_nonneg h; omega)
theorem I_dig (z : Int) : Dig (I z).limbs := lim_dig _
theorem I_exists_iff {a : IntD} (h : Dig a.limbs) : (∃ z, a = I z) ↔ ((lim (val a.limbs).toNat).length = a.limbs.length ∧ (a.neg = true → 0 < a.limbs.length)) := by
  constructor
  · rintro ⟨z, rfl⟩
    refine ⟨by rw [I_limbs, lim_val]; simp, fun hn => ?_⟩
    rw [I_limbs]; rw [I_neg] at hn; simp at hn
    exact nat_pos_iff.2 (by omega)
  · rintro ⟨h1, h2⟩
    have h3 := dig_norm h h1
    have h4 := val_nonneg h
    obtain ⟨neg, l⟩ := a
    dsimp only at *
    cases neg with
    | false =>
      refine ⟨val l, ?_⟩
      have := I_of false (val l).toNat
      simp only [Bool.false_and, Bool.false_eq_true, if_false] at this
      rw [← h3] at this
      rw [this]; congr 1; omega
    | true =>
      have h5 : 0 < (val l).toNat := by rw [← lim_length_pos, h1]; exact h2 rfl
      refine ⟨-(val l), ?_⟩
      have := I_of true (val l).toNat
      simp only [Bool.true_and, if_true, decide_eq_true h5] at this
      rw [← h3] at this
      rw [this]; congr 1; omega
theorem rvalid_loop {k : Nat} [F : Fuel k] {a : IntD} (hw : WfI a) (hl : a.limbs.length ≤ LM) :
    (Dig a.limbs ∧ iter (fun (x2 : (IntD × Int × Unit)) => swarfref01_Valid_L0 k x2.1 x2.2.1) k (a, 0, ()) = some (.inl (a, ()))) ∨
    (¬ Dig a.limbs ∧ iter (fun (x2 : (IntD × Int × Unit)) => swarfref01_Valid_L0 k x2.1 x2.2.1) k (a, 0, ()) = some (.inr (false, ()))) := by
  have hlm := LM_val
  refine Exists.elim (iter_ok (fun (x2 : (IntD × Int × Unit)) => swarfref01_Valid_L0 k x2.1 x2.2.1) (fun n s => ∃ i : Nat, n = a.limbs.length - i ∧ i ≤ a.limbs.length ∧ s = (a, (i : Int), ()) ∧ ∀ j, j < i → a.limbs.getD j 0 < 1000000000)
    (fun x => (Dig a.limbs ∧ x = .inl (a, ())) ∨ (¬ Dig a.limbs ∧ x = .inr (false, ()))) ?_ k a.limbs.length (a, 0, ()) (F.len hl) ⟨0, by omega, by omega, rfl, fun j h => by omega⟩) ?_
  rotate_left
  · rintro x ⟨hx, h⟩
    rcases h with ⟨h1, rfl⟩ | ⟨h1, rfl⟩
    · exact .inl ⟨h1, hx⟩
    · exact .inr ⟨h1, hx⟩
  · rintro n s ⟨i, rfl, hi, rfl, hs⟩
    dsimp only
    unfold swarfref01_Valid_L0
    by_cases h0 : i = a.limbs.length
    · right
      subst h0
      refine ⟨_, by rw [cdecF (by omega), cond_false], .inl ⟨?_, rfl⟩⟩
      intro x hx
      obtain ⟨j, hj, rfl⟩ := List.getElem_of_mem hx
      have := hs j hj
      rw [getD_in hj] at this
      exact ⟨(hw _ hx).1, this⟩
    · rw [cdec (by omega), cond_true, ixOk_of (by omega) (by omega), cond_true, Int.toNat_natCast]
      by_cases hge : a.limbs.getD i 0 ≥ 1000000000
      · right
        refine ⟨_, by rw [cdec hge, cond_true], .inr ⟨fun hd => ?_, rfl⟩⟩
        have := hd.getD i; omega
      · left
        refine ⟨_, a.limbs.length - (i + 1), by rw [cdecF hge, cond_false, wI64 (by omega) (by omega)]; rfl, by omega, i + 1, rfl, by omega, rfl, fun j hj => ?_⟩
        by_cases hj' : j = i
        · subst hj'; omega
        · exact hs j (by omega)
theorem rValid_iff {k : Nat} [F : Fuel k] {a : IntD} (hw : WfI a) (hl : a.limbs.length ≤ LM) : ∃ t, swarfref01_Valid k a = some t ∧ (t = true ↔ ∃ z, a = I z) := by
  have hlm := LM_val
  unfold swarfref01_Valid
  rcases rvalid_loop (k := k) hw hl with ⟨hd, hx⟩ | ⟨hd, hx⟩
  · rw [hx, Option.bind_some]
    dsimp only
    rw [rtrim_ok hd hl, Option.bind_some, I_exists_iff hd]
    by_cases h1 : (lim (val a.limbs).toNat).length = a.limbs.length
    · have e : (((lim (val a.limbs).toNat).length : Int) == (a.limbs.length : Int)) = true := by rw [h1]; simp
      rw [e, cond_true]
      cases hn : a.neg with
      | false => exact ⟨true, rfl, by simp [h1]⟩
      | true => exact ⟨_, rfl, by simp [h1]⟩
    · have e : (((lim (val a.limbs).toNat).length : Int) == (a.limbs.length : Int)) = false := beq_eq_false_iff_ne.2 (by omega)
      rw [e, cond_false]
      exact ⟨false, rfl, by simp [h1]⟩
  · rw [hx, Option.bind_some]
    refine ⟨false, rfl, ?_⟩
    constructor
    · intro h; cases h
    · rintro ⟨z, rfl⟩; exact absurd (I_dig z) hd
theorem ivalid_loop {k : Nat} [F : Fuel k] {a : IntD} (hw : WfI a) (hl : a.limbs.length ≤ LM) :
    (Dig a.limbs ∧ iter (fun (x2 : (IntD × List Int × Int × Int × Unit)) => integer_Valid_L0 k x2.1 x2.2.1 x2.2.2.1 x2.2.2.2.1) k (a, a.limbs, (a.limbs.length : Int), 0, ()) = some (.inl (a, ()))) ∨
    (¬ Dig a.limbs ∧ iter (fun (x2 : (IntD × List Int × Int × Int × Unit)) => integer_Valid_L0 k x2.1 x2.2.1 x2.2.2.1 x2.2.2.2.1) k (a, a.limbs, (a.limbs.length : Int), 0, ()) = some (.inr (false, ()))) := by
  have hlm := LM_val
  refine Exists.elim (iter_ok (fun (x2 : (IntD × List Int × Int × Int × Unit)) => integer_Valid_L0 k x2.1 x2.2.1 x2.2.2.1 x2.2.2.2.1) (fun n s => ∃ i : Nat, n = a.limbs.length - i ∧ i ≤ a.limbs.length ∧ s = (a, a.limbs, (a.limbs.length : Int), (i : Int), ()) ∧ ∀ j, j < i → a.limbs.getD j 0 < 1000000000)
    (fun x => (Dig a.limbs ∧ x = .inl (a, ())) ∨ (¬ Dig a.limbs ∧ x = .inr (false, ()))) ?_ k a.limbs.length (a, a.limbs, (a.limbs.length : Int), 0, ()) (F.len hl) ⟨0, by omega, by omega, rfl, fun j h => by omega⟩) ?_
  rotate_left
  · rintro x ⟨hx, h⟩
    rcases h with ⟨h1, rfl⟩ | ⟨h1, rfl⟩
    · exact .inl ⟨h1, hx⟩
    · exact .inr ⟨h1, hx⟩
  · rintro n s ⟨i, rfl, hi, rfl, hs⟩
    dsimp only
    unfold integer_Valid_L0
    by_cases h0 : i = a.limbs.length
    · right
      subst h0
      refine ⟨_, by rw [cdecF (by omega), cond_false], .inl ⟨?_, rfl⟩⟩
      intro x hx
      obtain ⟨j, hj, rfl⟩ := List.getElem_of_mem hx
      have := hs j hj
      rw [getD_in hj] at this
      exact ⟨(hw _ hx).1, this⟩
    · rw [cdec (by omega), cond_true, ixOk_of (by omega) (by omega), cond_true, Int.toNat_natCast]
      by_cases hge : a.limbs.getD i 0 ≥ 1000000000
      · right
        refine ⟨_, by rw [cdec hge, cond_true], .inr ⟨fun hd => ?_, rfl⟩⟩
        have := hd.getD i; omega
      · left
        refine ⟨_, a.limbs.length - (i + 1), by rw [cdecF hge, cond_false, wI64 (by omega) (by omega)]; rfl, by omega, i + 1, rfl, by omega, rfl, fun j hj => ?_⟩
        by_cases hj' : j = i
        · subst hj'; omega
        · exact hs j (by omega)
theorem last_norm {l : List Int} (h : Dig l) (hp : 0 < l.length) : (l.getD (l.length - 1) 0 ≠ 0) ↔ (lim (val l).toNat).length = l.length := by
  constructor
  · intro h1
    have : Norm (l.take l.length) := Norm.take h (Nat.le_refl _) (.inr h1)
    rw [List.take_length] at this
    rw [← this.eq_lim]
  · intro h1 h2
    have h3 := dig_norm h h1
    have h4 : 0 < (val l).toNat := by rw [← lim_length_pos, h1]; exact hp
    have h5 := lim_top h4
    rw [← h3] at h5
    exact h5 h2
theorem iValid_iff {k : Nat} [F : Fuel k] {a : IntD} (hw : WfI a) (hl : a.limbs.length ≤ LM) : ∃ t, integer_Valid k a = some t ∧ (t = true ↔ ∃ z, a = I z) := by
  have hlm := LM_val
  unfold integer_Valid
  rcases ivalid_loop (k := k) hw hl with ⟨hd, hx⟩ | ⟨hd, hx⟩
  · rw [hx, Option.bind_some]
    dsimp only
    rw [I_exists_iff hd]
    by_cases h0 : a.limbs.length = 0
    · have h1 : a.limbs = [] := List.length_eq_zero_iff.1 h0
      rw [cdecF (by omega), cond_false]
      refine ⟨_, rfl, ?_⟩
      rw [h1]; simp [val, lim_zero]
    · rw [cdec (by omega), cond_true, wI64 (by omega) (by omega), ixOk_of (by omega) (by omega), cond_true]
      have e : ((a.limbs.length : Int) - 1).toNat = a.limbs.length - 1 := by omega
      rw [e]
      refine ⟨_, rfl, ?_⟩
      have := last_norm hd (by omega)
      rw [← this]
      simp; omega
  · rw [hx, Option.bind_some]
    refine ⟨false, rfl, ?_⟩
    constructor
    · intro h; cases h
    · rintro ⟨z, rfl⟩; exact absurd (I_dig z) hd

/-! ### Normal form of fractions -/
theorem sgI_one {z : Int} : sgI z = 1 ↔ 0 < z := by unfold sgI; split <;> (try split) <;> omega
theorem sgI_le {z : Int} : sgI z ≤ 0 ↔ z ≤ 0 := by unfold sgI; split <;> (try split) <;> omega
theorem Q_exists {x y : Int} (hy : 0 < y) (h : Int.gcd x y = 1) : (⟨I x, I y⟩ : RatD) = Q (Rat.divInt x y) := by
  obtain ⟨h1, h2⟩ := gcd_one_self hy h
  unfold Q; rw [← h1, ← h2]
theorem Q_iff {x y : Int} : (∃ q, (⟨I x, I y⟩ : RatD) = Q q) ↔ (0 < y ∧ Int.gcd x y = 1) := by
  constructor
  · rintro ⟨q, h⟩
    have h1 : x = q.num := I_inj (congrArg RatD.num h)
    have h2 : y = q.den := I_inj (congrArg RatD.den h)
    rw [h1, h2]
    exact ⟨den_pos q, q.reduced⟩
  · rintro ⟨h1, h2⟩; exact ⟨_, Q_exists h1 h2⟩
theorem Q_parts {a : RatD} (h : ∃ q, a = Q q) : (∃ x, a.num = I x) ∧ (∃ y, a.den = I y) := by
  obtain ⟨q, rfl⟩ := h; exact ⟨⟨_, rfl⟩, ⟨_, rfl⟩⟩
theorem rQValid {k : Nat} [F : Fuel k] {a : RatD} (hw : WfQ a) (h1 : a.num.limbs.length ≤ 10000) (h2 : a.den.limbs.length ≤ 10000) : ∃ t, swarfref02_Valid k a = some t ∧ (t = true ↔ ∃ q, a = Q q) := by
  have hlm := LM_val
  unfold swarfref02_Valid
  obtain ⟨t1, e1, f1⟩ := rValid_iff (k := k) hw.1 (by omega)
  obtain ⟨t2, e2, f2⟩ := rValid_iff (k := k) hw.2 (by omega)
  rw [e1, Option.bind_some]
  cases t1 with
  | false => exact ⟨false, rfl, by simp; intro q h; have := (Q_parts ⟨q, h⟩).1; rw [← f1] at this; cases this⟩
  | true =>
    rw [Bool.not_true, cond_false, e2, Option.bind_some]
    cases t2 with
    | false => exact ⟨false, rfl, by simp; intro q h; have := (Q_parts ⟨q, h⟩).2; rw [← f2] at this; cases this⟩
    | true =>
      rw [Bool.not_true, cond_false]
      obtain ⟨x, hx⟩ := f1.1 rfl
      obtain ⟨y, hy⟩ := f2.1 rfl
      obtain ⟨n, d⟩ := a
      dsimp only at *
      subst hx hy
      have s1 : Sz 10000 x := ⟨h1⟩
      have s2 : Sz 10000 y := ⟨h2⟩
      rw [rSign_eq, Option.bind_some, Q_iff]
      by_cases hp : 0 < y
      · have e : (sgI y != 1) = false := by rw [sgI_one.2 hp]; rfl
        rw [e, cond_false, rGCD_eq (by decide), Option.bind_some, runit_ok, Option.bind_some]
        have s3 : Sz 10000 ((Int.gcd x y : Nat) : Int) := gcd_szl s2 (by omega)
        obtain ⟨t, ht, hi⟩ := rSame_iff (k := k) (I ((Int.gcd x y : Nat) : Int)) (I 1) (by have := s3.h; rw [I_limbs]; unfold len at this; omega)
        rw [ht]
        refine ⟨t, rfl, hi.trans ⟨fun h => ⟨hp, by have := I_inj h; omega⟩, fun h => by rw [h.2]; rfl⟩⟩
      · have e : (sgI y != 1) = true := by
          have : sgI y ≠ 1 := fun h => hp (sgI_one.1 h)
          simpa using this
        rw [e, cond_true]
        exact ⟨false, rfl, by simp [hp]⟩
theorem qValid {k : Nat} [F : Fuel k] {a : RatD} (hw : WfQ a) (h1 : a.num.limbs.length ≤ 10000) (h2 : a.den.limbs.length ≤ 10000) : ∃ t, rational_Valid k a = some t ∧ (t = true ↔ ∃ q, a = Q q) := by
  have hlm := LM_val
  unfold rational_Valid
  obtain ⟨t1, e1, f1⟩ := iValid_iff (k := k) hw.1 (by omega)
  obtain ⟨t2, e2, f2⟩ := iValid_iff (k := k) hw.2 (by omega)
  rw [e1, Option.bind_some]
  cases t1 with
  | false => exact ⟨false, rfl, by simp; intro q h; have := (Q_parts ⟨q, h⟩).1; rw [← f1] at this; cases this⟩
  | true =>
    rw [Bool.not_true, cond_false, e2, Option.bind_some]
    cases t2 with
    | false => exact ⟨false, rfl, by simp; intro q h; have := (Q_parts ⟨q, h⟩).2; rw [← f2] at this; cases this⟩
    | true =>
      rw [Bool.not_true, cond_false]
      obtain ⟨x, hx⟩ := f1.1 rfl
      obtain ⟨y, hy⟩ := f2.1 rfl
      obtain ⟨n, d⟩ := a
      dsimp only at *
      subst hx hy
      have s1 : Sz 10000 x := ⟨h1⟩
      have s2 : Sz 10000 y := ⟨h2⟩
      rw [integer_Sign_eq, Option.bind_some, Q_iff]
      by_cases hp : 0 < y
      · rw [cdecF (by rw [sgI_le]; omega), cond_false, integer_GCD_eq (by decide), Option.bind_some, unit_ok, Option.bind_some]
        have s3 : Sz 10000 ((Int.gcd x y : Nat) : Int) := gcd_szl s2 (by omega)
        have s4 : Sz 2 (1 : Int) := szSmall (by decide)
        rw [integer_Cmp_eq (by decide) (by decide), Option.bind_some]
        refine ⟨_, rfl, ?_⟩
        rw [beq_iff_eq, cmpI_eq_zero]
        omega
      · rw [cdec (by rw [sgI_le]; omega), cond_true]
        exact ⟨false, rfl, by simp [hp]⟩
theorem lens_of {n : Nat} {q : Rat} [x : Rz n q] : (Q q).num.limbs.length ≤ n ∧ (Q q).den.limbs.length ≤ n := ⟨by rw [Q_num, I_limbs]; exact x.num.lim, by rw [Q_den, I_limbs]; exact x.den.lim⟩
theorem rz_of {n : Nat} {q : Rat} (h1 : (Q q).num.limbs.length ≤ n) (h2 : (Q q).den.limbs.length ≤ n) : Rz n q := ⟨⟨h1⟩, ⟨h2⟩⟩
theorem rSmall {k : Nat} [F : Fuel k] {a : RatD} (n : Nat) (hn : n ≤ 100) (hw : WfQ a) : ∃ t, swarfref02_Small k a (n : Int) = some t ∧ (t = true ↔ ∃ q, a = Q q ∧ Rz n q) := by
  unfold swarfref02_Small
  by_cases h1 : (a.num.limbs.length : Int) ≤ n
  · by_cases h2 : (a.den.limbs.length : Int) ≤ n
    · rw [cdec h1, cond_true, cdec h2, cond_true]
      obtain ⟨t, ht, hi⟩ := rQValid (k := k) hw (by omega) (by omega)
      rw [ht]
      refine ⟨t, rfl, hi.trans ⟨?_, fun ⟨q, h, _⟩ => ⟨q, h⟩⟩⟩
      rintro ⟨q, rfl⟩
      exact ⟨q, rfl, rz_of (by omega) (by omega)⟩
    · rw [cdec h1, cond_true, cdecF h2, cond_false]
      refine ⟨false, rfl, by simp; rintro q rfl hz; have := (lens_of (q := q)).2; omega⟩
  · rw [cdecF h1, cond_false]
    refine ⟨false, rfl, by simp; rintro q rfl hz; have := (lens_of (q := q)).1; omega⟩

/-! ### Square roots -/
def IsSq (q : Rat) : Prop := ∃ s : Rat, 0 ≤ s ∧ s * s = q
open Classical in
noncomputable def rsq (q : Rat) : Rat := if h : IsSq q then h.choose else 0
theorem rsq_nonneg {q : Rat} (h : IsSq q) : 0 ≤ rsq q := by unfold rsq; rw [dif_pos h]; exact h.choose_spec.1
theorem rsq_sq {q : Rat} (h : IsSq q) : rsq q * rsq q = q := by unfold rsq; rw [dif_pos h]; exact h.choose_spec.2
theorem sq_unique {s t : Rat} (hs : 0 ≤ s) (ht : 0 ≤ t) (h : s * s = t * t) : s = t := by
  have h1 : (s - t) * (s + t) = 0 := by grind
  rcases Rat.mul_eq_zero.1 h1 with h2 | h2
  · grind
  · grind
theorem rsq_eq {q s : Rat} (hs : 0 ≤ s) (h : s * s = q) : IsSq q ∧ rsq q = s := by
  have h1 : IsSq q := ⟨s, hs, h⟩
  exact ⟨h1, sq_unique (rsq_nonneg h1) hs (by rw [rsq_sq h1, h])⟩
theorem sq_num (s : Rat) : (s * s).num = s.num * s.num ∧ (s * s).den = s.den * s.den := by
  have h : s * s = s ^ 2 := by rw [Rat.pow_succ, Rat.pow_one]
  rw [h, Rat.num_pow, Rat.den_pow]
  exact ⟨by rw [Int.pow_succ, Int.pow_succ, Int.pow_zero, Int.one_mul], by rw [Nat.pow_succ, Nat.pow_succ, Nat.pow_zero, Nat.one_mul]⟩
theorem nat_sqrt_sq (n : Nat) : Nat.sqrt (n * n) = n := by
  have h1 := Nat.sqrt_le (n * n)
  have h2 := Nat.lt_succ_sqrt (n * n)
  have h3 : Nat.sqrt (n * n) ≤ n := by
    rcases Nat.lt_or_ge n (Nat.sqrt (n * n)) with h | h
    · have := Nat.mul_lt_mul_of_lt_of_le h (Nat.le_of_lt h) (by omega); omega
    · exact h
  have h4 : n ≤ Nat.sqrt (n * n) := by
    rcases Nat.lt_or_ge (Nat.sqrt (n * n)) n with h | h
    · have := Nat.mul_le_mul (show (Nat.sqrt (n * n)).succ ≤ n by omega) (show (Nat.sqrt (n * n)).succ ≤ n by omega); omega
    · exact h
  omega
/-- The parts of a rational square. -/
theorem isSq_iff (q : Rat) : IsSq q ↔ (0 ≤ q.num ∧ Nat.sqrt q.num.toNat * Nat.sqrt q.num.toNat = q.num.toNat ∧ Nat.sqrt q.den * Nat.sqrt q.den = q.den) := by
  constructor
  · rintro ⟨s, hs, rfl⟩
    obtain ⟨h1, h2⟩ := sq_num s
    have h3 := Rat.num_nonneg.2 hs
    have e : (s.num * s.num).toNat = s.num.toNat * s.num.toNat := by
      obtain ⟨m, hm⟩ : ∃ m : Nat, s.num = m := ⟨s.num.toNat, by omega⟩
      rw [hm, ← Int.natCast_mul, Int.toNat_natCast, Int.toNat_natCast]
    rw [h1, h2, e, nat_sqrt_sq, nat_sqrt_sq]
    exact ⟨Int.mul_nonneg h3 h3, rfl, rfl⟩
  · rintro ⟨h0, h1, h2⟩
    refine ⟨Rat.divInt (Nat.sqrt q.num.toNat : Nat) (Nat.sqrt q.den : Nat), Rat.divInt_nonneg (by omega) (by omega), ?_⟩
    rw [Rat.divInt_mul_divInt, ← Int.natCast_mul, ← Int.natCast_mul, h1, h2, Int.toNat_of_nonneg h0, Rat.num_divInt_den]
theorem rsq_parts {q : Rat} (h : IsSq q) : (rsq q).num = (Nat.sqrt q.num.toNat : Nat) ∧ (rsq q).den = Nat.sqrt q.den := by
  have h1 := rsq_sq h
  obtain ⟨h2, h3⟩ := sq_num (rsq q)
  have h4 := Rat.num_nonneg.2 (rsq_nonneg h)
  rw [h1] at h2 h3
  obtain ⟨m, hm⟩ : ∃ m : Nat, (rsq q).num = m := ⟨(rsq q).num.toNat, by omega⟩
  rw [hm, ← Int.natCast_mul] at h2
  rw [h2, h3, Int.toNat_natCast, nat_sqrt_sq, nat_sqrt_sq, hm]
  exact ⟨rfl, rfl⟩
theorem Q_rsq {q : Rat} (h : IsSq q) : Q (rsq q) = ⟨I (Nat.sqrt q.num.toNat : Nat), I (Nat.sqrt q.den : Nat)⟩ := by
  obtain ⟨h1, h2⟩ := rsq_parts h
  unfold Q; rw [h1, h2]
theorem sqrt_le_self (n : Nat) : Nat.sqrt n ≤ n := by
  have := Nat.sqrt_le n
  rcases Nat.eq_zero_or_pos (Nat.sqrt n) with h | h
  · omega
  · have := Nat.le_mul_of_pos_left (Nat.sqrt n) h; omega
theorem rzSqrt {n : Nat} {q : Rat} (x : Rz n q) : Rz n (rsq q) := by
  by_cases h : IsSq q
  · obtain ⟨h1, h2⟩ := rsq_parts h
    exact ⟨x.num.abs (by rw [h1]; have := sqrt_le_self q.num.toNat; omega), x.den.abs (by rw [h2]; have := sqrt_le_self q.den; omega)⟩
  · have : rsq q = 0 := by unfold rsq; rw [dif_neg h]
    rw [this]
    exact ⟨x.num.abs (by simp), x.den.abs (by have := den_pos q; simp; omega)⟩
section
variable {k : Nat} [F : Fuel k] {q : Rat} {n : Nat}
theorem side_ok {a : Int} [s : Sz n a] (h : 4 * n + 40 ≤ LM) : rational_side k (I a) = some (if a < 0 then (I 0, false) else (I (Nat.sqrt a.toNat : Nat), decide (Nat.sqrt a.toNat * Nat.sqrt a.toNat = a.toNat))) := by
  unfold rational_side
  rw [integer_Sqrt_eq (by omega), Option.bind_some]
  by_cases h0 : a < 0
  · rw [if_pos h0, if_pos h0]; rfl
  · rw [if_neg h0, if_neg h0]
    have s1 : Sz n ((Nat.sqrt a.toNat : Nat) : Int) := s.abs (by have := sqrt_le_self a.toNat; omega)
    have s2 := szMul s1 s1
    show ((integer_Mul k _ _).bind _) = _
    rw [integer_Mul_eq (by omega), Option.bind_some, integer_Cmp_eq (by omega) (by omega), Option.bind_some]
    congr 2
    have e : ((cmpI (((Nat.sqrt a.toNat : Nat) : Int) * ((Nat.sqrt a.toNat : Nat) : Int)) a) == 0) = decide (cmpI (((Nat.sqrt a.toNat : Nat) : Int) * ((Nat.sqrt a.toNat : Nat) : Int)) a = 0) := rfl
    rw [e]
    apply dec_congr
    rw [cmpI_eq_zero, ← Int.natCast_mul]
    omega
theorem perfect_ok {a : Int} [s : Sz n a] (h : 4 * n + 40 ≤ LM) : swarfref02_perfect k (I a) = some (if a < 0 then (I 0, false) else (I (Nat.sqrt a.toNat : Nat), decide (Nat.sqrt a.toNat * Nat.sqrt a.toNat = a.toNat))) := by
  unfold swarfref02_perfect
  rw [rSqrt_eq (by omega), Option.bind_some]
  by_cases h0 : a < 0
  · rw [if_pos h0, if_pos h0]; rfl
  · rw [if_neg h0, if_neg h0]
    have s1 : Sz n ((Nat.sqrt a.toNat : Nat) : Int) := s.abs (by have := sqrt_le_self a.toNat; omega)
    have s2 := szMul s1 s1
    show ((swarfref01_Mul k _ _).bind _) = _
    rw [rMul_eq (by omega), Option.bind_some]
    obtain ⟨t, ht, hi⟩ := rSame_iff (k := k) (I (((Nat.sqrt a.toNat : Nat) : Int) * ((Nat.sqrt a.toNat : Nat) : Int))) (I a) (by rw [I_limbs]; have := s2.lim; omega)
    rw [ht, Option.bind_some]
    congr 2
    have : t = true ↔ Nat.sqrt a.toNat * Nat.sqrt a.toNat = a.toNat := hi.trans ⟨fun h => by have := I_inj h; rw [← Int.natCast_mul] at this; omega, fun h => by rw [← Int.natCast_mul, h, Int.toNat_of_nonneg (by omega)]⟩
    cases t <;> simp_all
theorem qSqrt_pos [x : Rz n q] (h : 4 * n + 40 ≤ LM) (hq : IsSq q) : rational_Sqrt k (Q q) = some (Q (rsq q), true) := by
  obtain ⟨h0, h1, h2⟩ := (isSq_iff q).1 hq
  have hd := den_pos q
  unfold rational_Sqrt
  rw [Q_num, Q_den, side_ok h, if_neg (by omega), Option.bind_some, cdec h1, cond_true, side_ok h, if_neg (by omega), Option.bind_some, Int.toNat_natCast, cdec h2, cond_true, Q_rsq hq]
theorem qSqrt_neg [x : Rz n q] (h : 4 * n + 40 ≤ LM) (hq : ¬ IsSq q) : rational_Sqrt k (Q q) = some (zR, false) := by
  have h0 := mt (isSq_iff q).2 hq
  have hd := den_pos q
  unfold rational_Sqrt
  rw [Q_num, Q_den, side_ok h]
  by_cases h1 : q.num < 0
  · rw [if_pos h1]; rfl
  · rw [if_neg h1, Option.bind_some]
    by_cases h2 : Nat.sqrt q.num.toNat * Nat.sqrt q.num.toNat = q.num.toNat
    · rw [cdec h2, cond_true, side_ok h, if_neg (by omega), Option.bind_some, Int.toNat_natCast, cdecF (fun h3 => h0 ⟨by omega, h2, h3⟩)]; rfl
    · rw [cdecF h2]; rfl
theorem rQSqrt_pos [x : Rz n q] (h : 4 * n + 40 ≤ LM) (hq : IsSq q) : swarfref02_Sqrt k (Q q) = some (Q (rsq q), true) := by
  obtain ⟨h0, h1, h2⟩ := (isSq_iff q).1 hq
  have hd := den_pos q
  unfold swarfref02_Sqrt
  rw [Q_num, Q_den, perfect_ok h, if_neg (by omega), Option.bind_some, perfect_ok h, if_neg (by omega), Option.bind_some, Int.toNat_natCast, cdec h1, cdec h2, Q_rsq hq]; rfl
theorem rQSqrt_neg [x : Rz n q] (h : 4 * n + 40 ≤ LM) (hq : ¬ IsSq q) : swarfref02_Sqrt k (Q q) = some (zR, false) := by
  have h0 := mt (isSq_iff q).2 hq
  have hd := den_pos q
  unfold swarfref02_Sqrt
  rw [Q_num, Q_den, perfect_ok h, perfect_ok h, Option.bind_some, if_neg (show ¬ ((q.den : Int) < 0) by omega), Option.bind_some, Int.toNat_natCast]
  by_cases h1 : q.num < 0
  · rw [if_pos h1]; rfl
  · rw [if_neg h1]
    by_cases h2 : Nat.sqrt q.num.toNat * Nat.sqrt q.num.toNat = q.num.toNat
    · rw [cdec h2, cdecF (fun h3 => h0 ⟨by omega, h2, h3⟩)]; rfl
    · rw [cdecF h2]; rfl
end
end
end Go.Proofs.YtbjkpogfgijmaaaGreat
