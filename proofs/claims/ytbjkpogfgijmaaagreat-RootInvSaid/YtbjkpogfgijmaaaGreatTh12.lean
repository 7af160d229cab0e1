/- Plain laws: the reference's operations on whole numbers. -/
import Derived.Test.YtbjkpogfgijmaaaGreatTh11
namespace Go.Proofs.YtbjkpogfgijmaaaGreat
open Go
set_option linter.unusedVariables false
set_option linter.unusedSimpArgs false

theorem rCmp_eq {k : Nat} [F : Fuel k] {x y : Int} {m n : Nat} [a : Sz m x] [b : Sz n y] (hm : m ≤ LM := by decide) (hn : n ≤ LM := by decide) :
    swarfref01_Cmp k (I x) (I y) = some (cmpI x y) := by
  unfold swarfref01_Cmp
  simp only [I_neg, I_limbs]
  rw [rcompare_ok (Nat.le_trans a.lim hm) (Nat.le_trans b.lim hn), rcompare_ok (Nat.le_trans b.lim hn) (Nat.le_trans a.lim hm)]
  by_cases h : decide (x < 0) = decide (y < 0)
  · have : (!(decide (x < 0) == decide (y < 0))) = false := by simp [h]
    rw [this, cond_false, cmp_abs h]
    by_cases hx : x < 0 <;> simp [hx]
  · have : (!(decide (x < 0) == decide (y < 0))) = true := by simpa using h
    rw [this, cond_true, cmp_sign h]
    by_cases hx : x < 0 <;> simp [hx]
theorem toNat_add (a b : Nat) : ((a : Int) + b).toNat = a + b := by omega
theorem toNat_sub (a b : Nat) : ((a : Int) - b).toNat = a - b := by omega
theorem rAdd_eq {k : Nat} [F : Fuel k] {x y : Int} {m n : Nat} [a : Sz m x] [b : Sz n y] (h : max m n + 1 ≤ LM := by decide) :
    swarfref01_Add k (I x) (I y) = some (I (x + y)) := by
  have ha := a.lim; have hb := b.lim
  have dx := lim_dig x.natAbs; have dy := lim_dig y.natAbs
  unfold swarfref01_Add
  simp only [I_neg, I_limbs]
  by_cases hs : decide (x < 0) = decide (y < 0)
  · have h1 : x < 0 ↔ y < 0 := by simpa using hs
    have : (decide (x < 0) == decide (y < 0)) = true := by simp [hs]
    have hl : (lim (x.natAbs + y.natAbs)).length ≤ max m n + 1 := lim_len_le (by
      have h1 := a.lt; have h2 := b.lt
      have h3 := bp_mono (Nat.le_max_left m n); have h4 := bp_mono (Nat.le_max_right m n)
      simp only [bp]; have := bp_pos (max m n); omega)
    rw [this, cond_true, rplus_ok dx dy (by omega) (by omega), lim_val, lim_val, toNat_add, Option.bind_some, rsigned_ok _ (lim_dig _) (by omega), Option.bind_some, lim_val]
    congr 2
    by_cases hx : x < 0
    · simp [hx]; omega
    · simp [hx]; omega
  · have h1 : ¬ (x < 0 ↔ y < 0) := by simpa using hs
    have : (decide (x < 0) == decide (y < 0)) = false := by simpa using hs
    rw [this, cond_false, rcompare_ok (by omega) (by omega), Option.bind_some]
    by_cases hlt : x.natAbs < y.natAbs
    · have hl := lim_len_mono (Nat.sub_le y.natAbs x.natAbs)
      rw [cdecF (fun h => by have := cmpI_lt (a := (x.natAbs : Int)) (b := y.natAbs) (by omega); omega), cond_false, rminus_ok dy dx (lim_len_mono (by omega)) (by omega) (by rw [lim_val, lim_val]; omega), lim_val, lim_val, toNat_sub, Option.bind_some, rsigned_ok _ (lim_dig _) (by omega), Option.bind_some, lim_val]
      congr 2
      by_cases hy : y < 0
      · simp [hy]; omega
      · simp [hy]; omega
    · have hl := lim_len_mono (Nat.sub_le x.natAbs y.natAbs)
      rw [cdec (by have := @cmpI_neg_iff (x.natAbs : Int) (y.natAbs : Int); omega), cond_true, rminus_ok dx dy (lim_len_mono (by omega)) (by omega) (by rw [lim_val, lim_val]; omega), lim_val, lim_val, toNat_sub, Option.bind_some, rsigned_ok _ (lim_dig _) (by omega), Option.bind_some, lim_val]
      congr 2
      by_cases hx : x < 0
      · simp [hx]; omega
      · simp [hx]; omega
theorem rSub_eq {k : Nat} [F : Fuel k] {x y : Int} {m n : Nat} [a : Sz m x] [b : Sz n y] (h : max m n + 1 ≤ LM := by decide) :
    swarfref01_Sub k (I x) (I y) = some (I (x - y)) := by
  have b' : Sz n (-y) := szNeg b
  unfold swarfref01_Sub
  rw [rNeg_eq (by omega), Option.bind_some, rAdd_eq h, Option.bind_some, Int.sub_eq_add_neg]
theorem rMul_eq {k : Nat} [F : Fuel k] {x y : Int} {m n : Nat} [a : Sz m x] [b : Sz n y] (h : m + n ≤ LM := by decide) :
    swarfref01_Mul k (I x) (I y) = some (I (x * y)) := by
  have ha := a.lim; have hb := b.lim
  have hs := (szMul a b).lim
  unfold swarfref01_Mul
  simp only [I_neg, I_limbs]
  have e0 : ((x.natAbs : Int) * (y.natAbs : Int)).toNat = (x * y).natAbs := by rw [Int.natAbs_mul]; have := Int.natCast_mul x.natAbs y.natAbs; omega
  rw [rtimes_ok (lim_dig _) (lim_dig _) (by omega), lim_val, lim_val, e0, Option.bind_some, rsigned_ok _ (lim_dig _) (by omega), Option.bind_some, lim_val, Int.natAbs_mul, Int.natCast_mul]
  congr 2
  by_cases hx : x < 0 <;> by_cases hy : y < 0 <;> simp only [hx, hy, decide_true, decide_false]
  · rw [show (x.natAbs : Int) = -x by omega, show (y.natAbs : Int) = -y by omega]; simp <;> grind
  · rw [show (x.natAbs : Int) = -x by omega, show (y.natAbs : Int) = y by omega]; simp <;> grind
  · rw [show (x.natAbs : Int) = x by omega, show (y.natAbs : Int) = -y by omega]; simp <;> grind
  · rw [show (x.natAbs : Int) = x by omega, show (y.natAbs : Int) = y by omega]; simp <;> grind
theorem rDivMod_eq {k : Nat} [F : Fuel k] {x y : Int} {m n : Nat} [a : Sz m x] [b : Sz n y] (hy : y ≠ 0) (h : m + n + 10 ≤ LM := by decide) :
    swarfref01_DivMod k (I x) (I y) = some (I (x.fdiv y), I (x.fmod y), 0) := by
  have hlm := LM_val
  have ha := a.lim; have hb := b.lim
  unfold swarfref01_DivMod
  simp only [I_neg, I_limbs]
  have hl := nat_pos_iff.2 hy
  have e0 : (((lim y.natAbs).length : Int) == 0) = false := beq_eq_false_iff_ne.2 (by omega)
  obtain ⟨q, hq⟩ : ∃ q, q = x.natAbs / y.natAbs := ⟨_, rfl⟩
  obtain ⟨r, hr⟩ : ∃ r, r = x.natAbs % y.natAbs := ⟨_, rfl⟩
  obtain ⟨f1, f2⟩ := fdiv_abs x y hy (q := (q : Int)) (r := (r : Int)) (by rw [hq]; simp) (by rw [hr]; simp)
  have hql : (lim q).length ≤ m := by have := lim_len_mono (Nat.div_le_self x.natAbs y.natAbs); rw [← hq] at this; omega
  have hrl : (lim r).length ≤ n := by have := lim_len_mono (Nat.le_of_lt (Nat.mod_lt x.natAbs (show 0 < y.natAbs by omega))); rw [← hr] at this; omega
  rw [e0, cond_false, rparts_ok (by omega) (by omega), ← hq, ← hr, Option.bind_some]
  dsimp only
  rw [rsigned_ok _ (lim_dig _) (by omega), Option.bind_some, rsigned_ok _ (lim_dig _) (by omega), Option.bind_some, lim_val, lim_val]
  have hrp := @lim_length_pos r
  by_cases h0 : (r : Int) = 0
  · rw [cdecF (by omega), cond_false]
    by_cases hs : decide (x < 0) = decide (y < 0)
    · obtain ⟨g1, g2⟩ := f1 hs
      have hi : (x < 0) = (y < 0) := propext (by simpa using hs)
      rw [g1, g2]
      simp [hi, h0]
    · obtain ⟨g1, g2⟩ := (f2 hs).1 h0
      rw [g1, g2]
      have : (!(decide (x < 0) == decide (y < 0))) = true := by simpa using hs
      simp [this, h0]
  · rw [cdec (by omega), cond_true]
    by_cases hs : decide (x < 0) = decide (y < 0)
    · obtain ⟨g1, g2⟩ := f1 hs
      have hi : (x < 0) = (y < 0) := propext (by simpa using hs)
      rw [g1, g2]
      simp [hi]
    · obtain ⟨g1, g2⟩ := (f2 hs).2 h0
      have : (!(decide (x < 0) == decide (y < 0))) = true := by simpa using hs
      simp only [this, cond_true]
      rw [rFromInt64_eq (by omega) (by omega), Option.bind_some]
      have s1 : Sz m (-(q : Int)) := szNeg ⟨by unfold len; rw [Int.natAbs_natCast]; exact hql⟩
      have s2 : Sz 2 (1 : Int) := szSmall (by decide)
      have s3 : Sz n (r : Int) := ⟨by unfold len; rw [Int.natAbs_natCast]; exact hrl⟩
      have s4 : Sz n (if decide (x < 0) = true then -(r : Int) else r) := by split; exact szNeg s3; exact s3
      have t1 := rSub_eq (k := k) (x := -(q : Int)) (y := 1) (a := s1) (b := s2) (by omega)
      have t2 := rAdd_eq (k := k) (x := if decide (x < 0) = true then -(r : Int) else r) (y := y) (a := s4) (b := b) (by omega)
      simp only [if_true]
      rw [t1, Option.bind_some, t2, Option.bind_some, g1, g2]
      simp
theorem rgcd_small {k : Nat} [F : Fuel k] (z : IntD) {u v : Nat} (hu : (u : Int) < 1000000000000000000) (hv : (v : Int) < 1000000000000000000) :
    iter (fun (x6 : (IntD × Int × Int × Unit)) => swarfref01_GCD_L2 k x6.1 x6.2.1 x6.2.2.1) k (z, (u : Int), (v : Int), ()) = some (z, ((Nat.gcd u v : Nat) : Int), ()) := gcd_small z hu hv
theorem rGCD_eq {k : Nat} [F : Fuel k] {x y : Int} {m n : Nat} [sa : Sz m x] [sb : Sz n y] (h : 2 * max m n + 10 ≤ LM := by decide) :
    swarfref01_GCD k (I x) (I y) = some (I ((Int.gcd x y : Nat) : Int)) := by
  have hlm := LM_val
  have ha := sa.lim; have hb := sb.lim
  unfold swarfref01_GCD
  rw [I_limbs, I_limbs]
  have hg : Int.gcd x y = Nat.gcd x.natAbs y.natAbs := rfl
  rw [hg]
  generalize x.natAbs = u at *
  generalize y.natAbs = v at *
  have gz : (lim (Nat.gcd u v)).length ≤ max m n := by
    by_cases hu : u = 0
    · subst hu; rw [Nat.gcd_zero_left]; omega
    · have := lim_len_mono (Nat.gcd_le_left (m := u) v (by omega)); omega
  refine Exists.elim (iter_ok (fun (x4 : (IntD × List Int × List Int × Unit)) => swarfref01_GCD_L0 k x4.1 x4.2.1 x4.2.2.1)
    (fun n' s => ∃ a : Nat, s = (⟨false, []⟩, lim a, lim n', ()) ∧ Nat.gcd a n' = Nat.gcd u v ∧ (lim a).length ≤ max m n ∧ (lim n').length ≤ max m n)
    (fun x => ∃ a b : Nat, x = (⟨false, []⟩, lim a, lim b, ()) ∧ Nat.gcd a b = Nat.gcd u v ∧ (lim a).length ≤ max m n ∧ (b ≠ 0 → (lim a).length ≤ 2 ∧ (lim b).length ≤ 2)) ?_ k v (⟨false, []⟩, lim u, lim v, ()) (F.lt (m := n) (by have := lim_len_le_iff.1 hb; omega) (by omega)) ⟨u, rfl, rfl, by omega, by omega⟩) ?_
  rotate_left
  · rintro x ⟨hx, a, b, rfl, h1, h2, h3⟩
    rw [hx, Option.bind_some]
    dsimp only
    by_cases hb0 : b = 0
    · subst hb0
      rw [Nat.gcd_zero_right] at h1
      have e1 : (((lim 0).length : Int) == 0) = true := by rw [lim_zero]; rfl
      rw [e1, cond_true, rsigned_ok _ (lim_dig _) (by omega), Option.bind_some, lim_val, h1]; simp
    · obtain ⟨h4, h5⟩ := h3 hb0
      have e1 : (((lim b).length : Int) == 0) = false := beq_eq_false_iff_ne.2 (by have := lim_length_pos (n := b); omega)
      have hsm := small_lt h5
      have hgl : (lim (Nat.gcd u v)).length ≤ 2 := by
        rw [← h1]; exact Nat.le_trans (lim_len_mono (Nat.gcd_le_right a (by omega))) h5
      have hsm2 := small_lt hgl
      rw [e1, cond_false, rshort_lim h4, Option.bind_some, rshort_lim h5, Option.bind_some, rgcd_small _ (small_lt h4) hsm, Option.bind_some]
      dsimp only
      rw [h1, rlimbs_ok (by omega), Option.bind_some, rsigned_ok _ (lim_dig _) (by omega), Option.bind_some, lim_val]; simp
  · rintro n' s ⟨a, rfl, hg', ha', hb'⟩
    dsimp only
    unfold swarfref01_GCD_L0
    have next : n' ≠ 0 → ∃ s' m', ((swarfref01_parts k (lim a) (lim n')).bind fun x1 => some (Sum.inl ((⟨false, []⟩ : IntD), lim n', x1.2, ()))) = some (Sum.inl s' : (IntD × List Int × List Int × Unit) ⊕ (IntD × List Int × List Int × Unit)) ∧ m' < n' ∧
          ∃ a : Nat, s' = (⟨false, []⟩, lim a, lim m', ()) ∧ Nat.gcd a m' = Nat.gcd u v ∧ (lim a).length ≤ max m n ∧ (lim m').length ≤ max m n := by
      intro h0
      have hlt : a % n' < n' := Nat.mod_lt _ (by omega)
      rw [rparts_ok (by omega) (by omega), Option.bind_some]
      exact ⟨_, a % n', rfl, hlt, n', rfl, by rw [gcd_step, hg'], hb', Nat.le_trans (lim_len_mono (Nat.le_of_lt hlt)) hb'⟩
    by_cases h0 : n' = 0
    · right
      subst h0
      exact ⟨_, by rw [cdecF (by rw [lim_zero]; simp), cond_false], a, 0, rfl, hg', ha', fun h => absurd rfl h⟩
    · have hp := lim_length_pos (n := n')
      rw [cdec (by omega), cond_true]
      by_cases h1 : ((lim a).length : Int) > 2
      · left
        rw [cdec h1, cond_true]
        exact next h0
      · rw [cdecF h1, cond_false]
        by_cases h2 : ((lim n').length : Int) > 2
        · left
          rw [cdec h2, cond_true]
          exact next h0
        · right
          exact ⟨_, by rw [cdecF h2, cond_false], a, n', rfl, hg', ha', fun _ => ⟨by omega, by omega⟩⟩
theorem rSqrt_pos {k : Nat} [F : Fuel k] {a : Nat} {n : Nat} [sa : Sz n (a : Int)] (ha : 0 < a) (h : 2 * n + 20 ≤ LM := by decide) : swarfref01_Sqrt k (I (a : Int)) = some (I ((Nat.sqrt a : Nat) : Int), 0) := by
  have hlm := LM_val
  have hl := sa.lim
  rw [Int.natAbs_natCast] at hl
  unfold swarfref01_Sqrt
  rw [I_nat_neg, I_nat_limbs, cond_false, beq_eq_false_iff_ne.2 (by have := lim_length_pos.2 ha; omega), cond_false]
  have w1 : IntKind.i64.wrap (((lim a).length : Int) + 1) = ((lim a).length : Int) + 1 := wI64 (by omega) (by omega)
  have w2 : IntKind.i64.wrap ((((lim a).length : Int) + 1).tdiv 2) = ((((lim a).length + 1) / 2 : Nat) : Int) := by
    rw [Int.tdiv_eq_ediv_of_nonneg (by omega), wI64 (by omega) (by omega)]; omega
  simp only [w1, w2]
  obtain ⟨p, hp⟩ : ∃ p, p = ((lim a).length + 1) / 2 := ⟨_, rfl⟩
  rw [← hp, make_ok (by omega), cond_true, cdec (by simp; omega), cond_true, Int.toNat_natCast, lim_pow]
  have hP0 := bp_pos p
  have hPn : ((bp p).toNat : Int) = bp p := by omega
  have hs0 : (lim (bp p).toNat).length ≤ p + 1 := lim_len_le (by simp only [bp]; omega)
  have e1 : (⟨false, lim (bp p).toNat⟩ : IntD) = I (((bp p).toNat : Nat) : Int) := by unfold I; rw [Int.natAbs_natCast, cdecF (by omega)]
  rw [e1, rFromInt64_eq (by omega) (by omega), Option.bind_some]
  have hlt := sqrt_lt_of (bp_sq_gt (a := a) (p := p) (by omega))
  have hs1 := Nat.sqrt_le a
  have hs2 := Nat.lt_succ_sqrt a
  refine Exists.elim (iter_ok (fun (x8 : (IntD × IntD × IntD × IntD × Unit)) => swarfref01_Sqrt_L0 k x8.1 x8.2.1 x8.2.2.1 x8.2.2.2.1) (fun m s => s = (I (a : Int), ⟨false, []⟩, I (m : Int), I 2, ()) ∧ Nat.sqrt a ≤ m ∧ 0 < m ∧ m ≤ (bp p).toNat) (fun x => x = (I ((Nat.sqrt a : Nat) : Int), 0, ())) ?_ k (bp p).toNat _ (F.lt (m := p) (by omega) (by omega)) ⟨rfl, by omega, by omega, Nat.le_refl _⟩) ?_
  rotate_left
  · rintro x ⟨hx, rfl⟩; rw [hx]; rfl
  · rintro m s ⟨rfl, hm, hm0, hmP⟩
    dsimp only
    unfold swarfref01_Sqrt_L0
    have s1 : Sz (p + 1) (m : Int) := ⟨by unfold len; rw [Int.natAbs_natCast]; exact Nat.le_trans (lim_len_mono hmP) hs0⟩
    have s2 : Sz 3 (2 : Int) := szSmall (by decide)
    have s3 : Sz n ((a / m : Nat) : Int) := sa.abs (by rw [Int.natAbs_natCast, Int.natAbs_natCast]; exact Nat.div_le_self _ _)
    have s4 := szAdd s1 s3
    have e2 := rDivMod_eq (k := k) (x := (a : Int)) (y := (m : Int)) (by omega) (by omega)
    have e3 := rAdd_eq (k := k) (x := (m : Int)) (y := ((a / m : Nat) : Int)) (by omega)
    have e4 := rDivMod_eq (k := k) (x := (m : Int) + ((a / m : Nat) : Int)) (y := (2 : Int)) (by omega) (by omega)
    have e5 : ((m : Int) + ((a / m : Nat) : Int)).fdiv 2 = (((m + a / m) / 2 : Nat) : Int) := by
      have := fdiv_nat (m + a / m) 2
      rw [Int.natCast_add] at this; exact this
    rw [fdiv_nat] at e2
    rw [e5] at e4
    have s5 : Sz (max (p + 1) n + 1) (((m + a / m) / 2 : Nat) : Int) := s4.abs (by omega)
    have e6 := rCmp_eq (k := k) (x := (((m + a / m) / 2 : Nat) : Int)) (y := (m : Int)) (by omega) (by omega)
    simp only [e2, e3, e4, e6, Option.bind_some]
    have hge := newton_ge hm0 hs1
    by_cases hc : m ≤ (m + a / m) / 2
    · right
      have := newton_end hm hs2 hm0 hc
      have hcc : cmpI (((m + a / m) / 2 : Nat) : Int) (m : Int) ≥ 0 := by
        have := @cmpI_neg_iff (((m + a / m) / 2 : Nat) : Int) (m : Int); omega
      exact ⟨_, by rw [cdec hcc, cond_true], by rw [this]⟩
    · left
      have hcc : ¬ cmpI (((m + a / m) / 2 : Nat) : Int) (m : Int) ≥ 0 := by
        have := cmpI_lt (a := (((m + a / m) / 2 : Nat) : Int)) (b := (m : Int)) (by omega); omega
      have hpos : 0 < (m + a / m) / 2 := by
        have : 1 ≤ Nat.sqrt a := by
          rcases Nat.eq_zero_or_pos (Nat.sqrt a) with h0 | h0
          · rw [h0] at hs2; omega
          · exact h0
        omega
      exact ⟨_, (m + a / m) / 2, by rw [cdecF hcc, cond_false], by omega, rfl, hge, hpos, by omega⟩
theorem rSqrt_eq {k : Nat} [F : Fuel k] {a : Int} {n : Nat} [sa : Sz n a] (h : 2 * n + 20 ≤ LM := by decide) : swarfref01_Sqrt k (I a) = some (if a < 0 then (I 0, 7) else (I ((Nat.sqrt a.toNat : Nat) : Int), 0)) := by
  by_cases h0 : a < 0
  · rw [if_pos h0]
    unfold swarfref01_Sqrt
    rw [I_neg, cdec h0, cond_true, zero_I]
  · rw [if_neg h0]
    obtain ⟨b, rfl⟩ : ∃ b : Nat, a = b := ⟨a.toNat, by omega⟩
    rw [Int.toNat_natCast]
    by_cases h1 : b = 0
    · subst h1
      unfold swarfref01_Sqrt
      rw [I_nat_neg, I_nat_limbs, lim_zero]
      simp [zero_I, Nat.sqrt]
    · exact rSqrt_pos (by omega) h

/-! ### Equal data -/
theorem rcmp_same {k : Nat} [F : Fuel k] {a b : List Int} (hl : a.length ≤ LM) (hlen : a.length = b.length) :
    ∃ x, iter (fun (x4 : (List Int × List Int × Int × Unit)) => swarfref01_compare_L0 k x4.1 x4.2.1 x4.2.2.1) k (a, b, IntKind.i64.wrap ((a.length : Int) - 1), ()) = some x ∧
      match x with
      | .inl _ => a = b
      | .inr y => y.1 ≠ 0 ∧ a ≠ b := by
  have hlm := LM_val
  refine iter_ok _ (fun n s => s = (a, b, (n : Int) - 1, ()) ∧ n ≤ a.length ∧ a.drop n = b.drop n) _ ?_ k a.length _ (F.len hl) ⟨by rw [wI64 (by omega) (by omega)], Nat.le_refl _, by rw [List.drop_length, hlen, List.drop_length]⟩
  rintro n s ⟨rfl, hn, he⟩
  dsimp only
  unfold swarfref01_compare_L0
  by_cases h0 : n = 0
  · right
    subst h0
    simp at he
    exact ⟨.inl (), by rw [cdecF (by omega), cond_false], he⟩
  · obtain ⟨m, rfl⟩ : ∃ m, n = m + 1 := ⟨n - 1, by omega⟩
    have e1 : ((m + 1 : Nat) : Int) - 1 = m := by omega
    rw [e1, cdec (by omega), cond_true, ixOk_of (by omega) (by omega), cond_true, ixOk_of (by omega) (by omega), cond_true, Int.toNat_natCast]
    by_cases h1 : a.getD m 0 < b.getD m 0
    · right
      refine ⟨.inr (-1, ()), by simp only [h1, decide_true, cond_true], by simp, ?_⟩
      rintro rfl; omega
    · by_cases h2 : a.getD m 0 > b.getD m 0
      · right
        refine ⟨.inr (1, ()), by simp only [h1, h2, decide_true, decide_false, cond_true, cond_false], by simp, ?_⟩
        rintro rfl; omega
      · left
        refine ⟨(a, b, (m : Int) - 1, ()), m, ?_, by omega, rfl, by omega, ?_⟩
        · simp only [h1, h2, decide_false, cond_false, cond_true]
          rw [wI64 (by omega) (by omega)]
        · rw [getD_drop a m (by omega), getD_drop b m (by omega), he]
          have : a.getD m 0 = b.getD m 0 := by omega
          rw [this]
theorem rSame_eq {k : Nat} [F : Fuel k] (a b : IntD) (hl : a.limbs.length ≤ LM) : swarfref01_Same k a b = some (decide (a.neg = b.neg ∧ a.limbs = b.limbs)) := by
  unfold swarfref01_Same swarfref01_compare
  by_cases hn : a.neg = b.neg
  · have e1 : (a.neg == b.neg) = true := by simp [hn]
    rw [e1, cond_true]
    by_cases hlen : a.limbs.length = b.limbs.length
    · have e2 : ((a.limbs.length : Int) != (b.limbs.length : Int)) = false := by simp [hlen]
      rw [e2, cond_false]
      obtain ⟨x, hx, hp⟩ := rcmp_same (k := k) hl hlen
      rw [hx]
      cases x with
      | inl x => dsimp only at hp; simp [hn, hp]
      | inr x => dsimp only at hp; simp [hn, hp.2, hp.1]
    · have e2 : ((a.limbs.length : Int) != (b.limbs.length : Int)) = true := by simp; omega
      have e3 : ¬ a.limbs = b.limbs := fun h => hlen (by rw [h])
      rw [e2, cond_true]
      by_cases h1 : (a.limbs.length : Int) < (b.limbs.length : Int)
      · rw [cdec h1, cond_true]; simp [e3]
      · rw [cdecF h1, cond_false]; simp [e3]
  · have e1 : (a.neg == b.neg) = false := by simpa using hn
    rw [e1, cond_false]; simp [hn]
theorem rSame_iff {k : Nat} [F : Fuel k] (a b : IntD) (hl : a.limbs.length ≤ LM) : ∃ t, swarfref01_Same k a b = some t ∧ (t = true ↔ a = b) := by
  refine ⟨_, rSame_eq a b hl, ?_⟩
  cases a; cases b; simp
end Go.Proofs.YtbjkpogfgijmaaaGreat
