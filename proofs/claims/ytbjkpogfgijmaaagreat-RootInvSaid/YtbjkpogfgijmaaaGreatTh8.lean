/- Plain laws: the program's greatest common divisor and square root of whole numbers. -/
import Derived.Test.YtbjkpogfgijmaaaGreatTh7
namespace Go.Proofs.YtbjkpogfgijmaaaGreat
open Go
set_option linter.unusedVariables false
set_option linter.unusedSimpArgs false

theorem I_nat_neg (x : Nat) : (I (x : Int)).neg = false := by rw [I_neg]; simp
theorem I_nat_limbs (x : Nat) : (I (x : Int)).limbs = lim x := by rw [I_limbs, Int.natAbs_natCast]
theorem lim2 {x : Nat} (h : (lim x).length = 2) : (lim x).getD 1 0 * 1000000000 + (lim x).getD 0 0 = x := by
  have h1 := top2 (m := 0) h
  rw [lim_val] at h1
  simp only [List.take_zero, val, bp, Int.zero_add, Int.one_mul, Nat.zero_add] at h1
  omega
theorem word_ok {k : Nat} (x : Nat) : integer_word k (I (x : Int)) = some (if (lim x).length ≤ 2 then ((x : Int), true) else (0, false)) := by
  unfold integer_word
  simp only [I_nat_limbs]
  have hd0 := (lim_dig x).getD 0
  have hd1 := (lim_dig x).getD 1
  match h : (lim x).length with
  | 0 =>
    have := @lim_length_pos x
    have h0 : x = 0 := by omega
    subst h0; simp
  | 1 =>
    obtain ⟨h1, h2, h3⟩ := lim_one h
    simp only [h1]
    rw [wU64 (by omega) (by omega)]
    simp [ixOk]
  | 2 =>
    have h1 := lim2 h
    rw [wU64 (x := (lim x).getD 1 0) (by omega) (by omega), wU64 (x := (lim x).getD 0 0) (by omega) (by omega), wU64 (x := (lim x).getD 1 0 * 1000000000) (by omega) (by omega), h1, wU64 (by omega) (by omega)]
    simp [ixOk]
  | n + 3 =>
    have e0 : (((n + 3 : Nat) : Int) == 0) = false := beq_eq_false_iff_ne.2 (by omega)
    have e1 : (((n + 3 : Nat) : Int) == 1) = false := beq_eq_false_iff_ne.2 (by omega)
    have e2 : (((n + 3 : Nat) : Int) == 2) = false := beq_eq_false_iff_ne.2 (by omega)
    rw [e0, e1, e2, if_neg (by omega)]; rfl
theorem small_lt {x : Nat} (h : (lim x).length ≤ 2) : (x : Int) < 1000000000000000000 := by
  have := lim_len_le_iff.1 h
  simp [bp] at this; omega
theorem gcd_step (a b : Nat) : Nat.gcd b (a % b) = Nat.gcd a b := by rw [Nat.gcd_comm a b, Nat.gcd_rec b a, Nat.gcd_comm]
theorem gcd_small {k : Nat} [F : Fuel k] (z : IntD) {u v : Nat} (hu : (u : Int) < 1000000000000000000) (hv : (v : Int) < 1000000000000000000) :
    iter (fun (x6 : (IntD × Int × Int × Unit)) => integer_GCD_L2 k x6.1 x6.2.1 x6.2.2.1) k (z, (u : Int), (v : Int), ()) = some (z, ((Nat.gcd u v : Nat) : Int), ()) := by
  refine Exists.elim (iter_ok (fun (x6 : (IntD × Int × Int × Unit)) => integer_GCD_L2 k x6.1 x6.2.1 x6.2.2.1) (fun n s => ∃ a : Nat, s = (z, (a : Int), (n : Int), ()) ∧ Nat.gcd a n = Nat.gcd u v) (fun x => x = (z, ((Nat.gcd u v : Nat) : Int), ())) ?_ k v _ (F.lt (m := 2) (by simp [bp]; omega) (by decide)) ⟨u, rfl, rfl⟩) ?_
  rotate_left
  · rintro x ⟨hx, rfl⟩; exact hx
  · rintro n s ⟨a, rfl, hg⟩
    dsimp only
    unfold integer_GCD_L2
    by_cases h0 : n = 0
    · right
      subst h0
      rw [Nat.gcd_zero_right] at hg
      exact ⟨_, by rw [cdecF (by omega), cond_false], by rw [hg]⟩
    · left
      refine ⟨_, a % n, ?_, Nat.mod_lt _ (by omega), n, rfl, by rw [gcd_step, hg]⟩
      rw [cdec (by omega), cond_true, beq_eq_false_iff_ne.2 (show ((n : Int) ≠ 0) by omega), cond_false, Int.tmod_eq_emod_of_nonneg (by omega)]
      simp
theorem integer_GCD_eq {k : Nat} [F : Fuel k] {x y : Int} {m n : Nat} [sa : Sz m x] [sb : Sz n y] (h : 2 * max m n + 2 ≤ LM := by decide) :
    integer_GCD k (I x) (I y) = some (I ((Int.gcd x y : Nat) : Int)) := by
  have hlm := LM_val
  have ha := sa.lim; have hb := sb.lim
  unfold integer_GCD
  have e1 := signed_ok (k := k) false (lim_dig x.natAbs) (by omega)
  have e2 := signed_ok (k := k) false (lim_dig y.natAbs) (by omega)
  rw [lim_val] at e1 e2
  simp only [Bool.false_eq_true, if_false] at e1 e2
  rw [I_limbs, I_limbs, e1, e2, Option.bind_some, Option.bind_some]
  have hg : Int.gcd x y = Nat.gcd x.natAbs y.natAbs := rfl
  rw [hg]
  generalize x.natAbs = u at *
  generalize y.natAbs = v at *
  have gz : (lim (Nat.gcd u v)).length ≤ max m n := by
    by_cases hu : u = 0
    · subst hu; rw [Nat.gcd_zero_left]; omega
    · have := lim_len_mono (Nat.gcd_le_left (m := u) v (by omega)); omega
  refine Exists.elim (iter_ok (fun (x14 : (IntD × IntD × IntD × Unit)) => integer_GCD_L0 k x14.1 x14.2.1 x14.2.2.1)
    (fun n' s => ∃ a : Nat, s = (⟨false, []⟩, I (a : Int), I (n' : Int), ()) ∧ Nat.gcd a n' = Nat.gcd u v ∧ (lim a).length ≤ max m n ∧ (lim n').length ≤ max m n)
    (fun x => match x with
      | .inl z => z.2.1 = I ((Nat.gcd u v : Nat) : Int)
      | .inr z => z.1 = I ((Nat.gcd u v : Nat) : Int)) ?_ k v _ (F.lt (m := n) (by have := lim_len_le_iff.1 hb; omega) (by omega)) ⟨u, rfl, rfl, by omega, by omega⟩) ?_
  rotate_left
  · rintro x ⟨hx, hp⟩
    rw [hx]
    cases x with
    | inl z =>
      have e3 := signed_ok (k := k) false (lim_dig (Nat.gcd u v)) (by omega)
      rw [lim_val] at e3
      dsimp only at hp
      simp only [Option.bind_some]
      rw [cdec (by rw [hp, I_nat_limbs]; simp; omega), cond_true, hp, I_nat_limbs, e3]
      simp
    | inr z => dsimp only at hp; simp [hp]
  · rintro n' s ⟨a, rfl, hg', ha', hb'⟩
    dsimp only
    unfold integer_GCD_L0
    by_cases h0 : n' = 0
    · right
      subst h0
      rw [Nat.gcd_zero_right] at hg'
      refine ⟨_, by rw [cdecF (by rw [I_nat_limbs, lim_zero]; simp), cond_false], ?_⟩
      dsimp only; rw [hg']
    · rw [cdec (by rw [I_nat_limbs]; have := lim_length_pos (n := n'); omega), cond_true, word_ok, word_ok]
      have div : ∃ q, integer_divide k (I (a : Int)).limbs (I (n' : Int)).limbs = some (q, lim (a % n')) ∨ ∃ r, integer_divide k (I (a : Int)).limbs (I (n' : Int)).limbs = some (q, r) ∧ Dig r ∧ r.length ≤ LM ∧ val r = ((a % n' : Nat) : Int) := by
        obtain ⟨q, r, hqr, q1, r1, q2, r2, q3, r3⟩ := divide_ok (k := k) (lim_dig a) (lim_dig n') (by rw [lim_val]; omega) (by omega) (by omega)
        rw [lim_val, lim_val] at r3
        refine ⟨q, .inr ⟨r, by rw [I_nat_limbs, I_nat_limbs]; exact hqr, r1, by omega, by rw [r3]; simp⟩⟩
      have next : ∃ s' m', ((integer_divide k (I (a : Int)).limbs (I (n' : Int)).limbs).bind fun x9 => (integer_signed k false x9.2).bind fun x10 => some (Sum.inl ((⟨false, []⟩ : IntD), I (n' : Int), x10, ()))) = some (Sum.inl s' : (IntD × IntD × IntD × Unit) ⊕ ((IntD × IntD × Unit) ⊕ (IntD × Unit))) ∧ m' < n' ∧
          ∃ a : Nat, s' = (⟨false, []⟩, I (a : Int), I (m' : Int), ()) ∧ Nat.gcd a m' = Nat.gcd u v ∧ (lim a).length ≤ max m n ∧ (lim m').length ≤ max m n := by
        obtain ⟨q, r, hqr, q1, r1, q2, r2, q3, r3⟩ := divide_ok (k := k) (lim_dig a) (lim_dig n') (by rw [lim_val]; omega) (by omega) (by omega)
        rw [lim_val, lim_val] at r3
        have r4 : val r = ((a % n' : Nat) : Int) := by rw [r3]; simp
        have hlt : a % n' < n' := Nat.mod_lt _ (by omega)
        refine ⟨_, a % n', ?_, hlt, n', rfl, by rw [gcd_step, hg'], hb', Nat.le_trans (lim_len_mono (Nat.le_of_lt hlt)) hb'⟩
        rw [I_nat_limbs, I_nat_limbs, hqr, Option.bind_some, signed_ok _ r1 (by omega), Option.bind_some, r4]
        simp
      by_cases h1 : (lim a).length ≤ 2
      · by_cases h2 : (lim n').length ≤ 2
        · right
          rw [if_pos h1, if_pos h2]
          obtain ⟨l, hl, l1, l2, l3⟩ := split_ok (k := k) (u := ((Nat.gcd u v : Nat) : Int)) (by omega) (by
            have : Nat.gcd u v ≤ n' := by rw [← hg']; exact Nat.gcd_le_right a (by omega)
            have := small_lt h2; omega)
          refine ⟨.inr (I ((Nat.gcd u v : Nat) : Int), ()), ?_, rfl⟩
          simp only [Option.bind_some, cond_true, gcd_small (k := k) (⟨false, []⟩ : IntD) (small_lt h1) (small_lt h2), hg', hl]
          rw [signed_ok _ l1 (by omega), l3]; simp
        · left
          rw [if_pos h1, if_neg h2]
          simp only [Option.bind_some, cond_true, cond_false]
          exact next
      · left
        rw [if_neg h1]
        simp only [Option.bind_some, cond_true, cond_false]
        exact next

/-! ### Square roots -/
theorem newton_ge {a s x : Nat} (hx : 0 < x) (hs : s * s ≤ a) : s ≤ (x + a / x) / 2 := by
  rw [Nat.le_div_iff_mul_le (by omega)]
  rcases Nat.le_or_ge (2 * s) x with h | h
  · exact Nat.le_trans (show s * 2 ≤ x by omega) (Nat.le_add_right x _)
  · have : 2 * s - x ≤ a / x := by
      rw [Nat.le_div_iff_mul_le hx]
      have h1 : ((2 * s - x : Nat) : Int) = 2 * s - x := by omega
      have h2 : (((2 * s - x) * x : Nat) : Int) ≤ ((s * s : Nat) : Int) := by
        rw [Int.natCast_mul, h1, Int.natCast_mul]
        have : 0 ≤ ((s : Int) - x) * (s - x) := by
          rcases Int.le_total (s : Int) x with h3 | h3
          · have := Int.mul_nonneg (show (0 : Int) ≤ x - s by omega) (show (0 : Int) ≤ x - s by omega); grind
          · exact Int.mul_nonneg (by omega) (by omega)
        grind
      omega
    omega
theorem newton_end {a s x : Nat} (hx : s ≤ x) (hs : a < (s + 1) * (s + 1)) (h0 : 0 < x) (h : x ≤ (x + a / x) / 2) : x = s := by
  rcases Nat.lt_or_ge s x with h1 | h1
  · exfalso
    have h2 : x * 2 ≤ x + a / x := (Nat.le_div_iff_mul_le (by omega)).1 h
    have h3 : x ≤ a / x := by omega
    have h4 : x * x ≤ a := (Nat.le_div_iff_mul_le h0).1 h3
    have h5 : (s + 1) * (s + 1) ≤ x * x := Nat.mul_le_mul (by omega) (by omega)
    omega
  · omega
theorem fdiv_nat (a b : Nat) : (a : Int).fdiv b = ((a / b : Nat) : Int) := by
  rw [Int.fdiv_eq_ediv_of_nonneg _ (by omega)]; simp
theorem lim_pow (p : Nat) : List.replicate p (0 : Int) ++ [1] = lim (bp p).toNat := by
  have hd : Dig (List.replicate p (0 : Int) ++ [1]) := (Dig.replicate p).append (Dig.cons (by omega) (by omega) Dig.nil)
  have hn : Norm (List.replicate p (0 : Int) ++ [1]) := ⟨hd, fun h => by simp⟩
  have := hn.eq_lim
  rwa [val_append, val_replicate, List.length_replicate, show (0 : Int) + bp p * val [1] = bp p by simp [val]] at this
theorem bp_sq_gt {a : Nat} {p : Nat} (h : (lim a).length ≤ 2 * p) : a < (bp p).toNat * (bp p).toNat := by
  have h1 := lim_len_le_iff.1 h
  have h2 : 2 * p = p + p := by omega
  rw [h2, bp_add] at h1
  have := bp_pos p
  have h3 : (((bp p).toNat * (bp p).toNat : Nat) : Int) = bp p * bp p := by rw [Int.natCast_mul, Int.toNat_of_nonneg (by omega)]
  omega
theorem sqrt_lt_of {a P : Nat} (h : a < P * P) : Nat.sqrt a < P := by
  rcases Nat.lt_or_ge (Nat.sqrt a) P with h1 | h1
  · exact h1
  · have := Nat.mul_le_mul h1 h1; have := Nat.sqrt_le a; omega
theorem integer_Sqrt_pos {k : Nat} [F : Fuel k] {a : Nat} {n : Nat} [sa : Sz n (a : Int)] (ha : 0 < a) (h : 2 * n + 10 ≤ LM := by decide) : integer_Sqrt k (I (a : Int)) = some (I ((Nat.sqrt a : Nat) : Int), 0) := by
  have hlm := LM_val
  have hl := sa.lim
  rw [Int.natAbs_natCast] at hl
  unfold integer_Sqrt
  rw [I_nat_neg, I_nat_limbs, cond_false, beq_eq_false_iff_ne.2 (by have := lim_length_pos.2 ha; omega), cond_false]
  have w1 : IntKind.i64.wrap (((lim a).length : Int) + 1) = ((lim a).length : Int) + 1 := wI64 (by omega) (by omega)
  have w2 : IntKind.i64.wrap ((((lim a).length : Int) + 1).tdiv 2) = ((((lim a).length + 1) / 2 : Nat) : Int) := by
    rw [Int.tdiv_eq_ediv_of_nonneg (by omega), wI64 (by omega) (by omega)]; omega
  simp only [w1, w2]
  obtain ⟨p, hp⟩ : ∃ p, p = ((lim a).length + 1) / 2 := ⟨_, rfl⟩
  rw [← hp, make_ok (by omega), cond_true, cdec (by simp; omega), cond_true, Int.toNat_natCast, lim_pow]
  have hP0 := bp_pos p
  have hPn : ((bp p).toNat : Int) = bp p := by omega
  have hs0 : (lim (bp p).toNat).length ≤ p + 1 := lim_len_le (by simp only [bp]; omega)
  have e1 := signed_ok (k := k) false (lim_dig (bp p).toNat) (by omega)
  rw [lim_val] at e1
  simp only [Bool.false_eq_true, if_false] at e1
  rw [e1, Option.bind_some, integer_FromInt64_eq (by omega) (by omega), Option.bind_some]
  have hlt := sqrt_lt_of (bp_sq_gt (a := a) (p := p) (by omega))
  have hs1 := Nat.sqrt_le a
  have hs2 := Nat.lt_succ_sqrt a
  refine Exists.elim (iter_ok (fun (x8 : (IntD × IntD × IntD × IntD × Unit)) => integer_Sqrt_L0 k x8.1 x8.2.1 x8.2.2.1 x8.2.2.2.1) (fun m s => s = (I (a : Int), ⟨false, []⟩, I (m : Int), I 2, ()) ∧ Nat.sqrt a ≤ m ∧ 0 < m ∧ m ≤ (bp p).toNat) (fun x => x = (I ((Nat.sqrt a : Nat) : Int), 0, ())) ?_ k (bp p).toNat _ (F.lt (m := p) (by omega) (by omega)) ⟨rfl, by omega, by omega, Nat.le_refl _⟩) ?_
  rotate_left
  · rintro x ⟨hx, rfl⟩; rw [hx]; rfl
  · rintro m s ⟨rfl, hm, hm0, hmP⟩
    dsimp only
    unfold integer_Sqrt_L0
    have s1 : Sz (p + 1) (m : Int) := ⟨by unfold len; rw [Int.natAbs_natCast]; exact Nat.le_trans (lim_len_mono hmP) hs0⟩
    have s2 : Sz 3 (2 : Int) := szSmall (by decide)
    have s3 : Sz n ((a / m : Nat) : Int) := sa.abs (by rw [Int.natAbs_natCast, Int.natAbs_natCast]; exact Nat.div_le_self _ _)
    have s4 := szAdd s1 s3
    have e2 := integer_DivMod_eq (k := k) (x := (a : Int)) (y := (m : Int)) (by omega) (by omega)
    have e3 := integer_Add_eq (k := k) (x := (m : Int)) (y := ((a / m : Nat) : Int)) (by omega)
    have e4 := integer_DivMod_eq (k := k) (x := (m : Int) + ((a / m : Nat) : Int)) (y := (2 : Int)) (by omega) (by omega)
    have e5 : ((m : Int) + ((a / m : Nat) : Int)).fdiv 2 = (((m + a / m) / 2 : Nat) : Int) := by
      have := fdiv_nat (m + a / m) 2
      rw [Int.natCast_add] at this; exact this
    rw [fdiv_nat] at e2
    rw [e5] at e4
    have s5 : Sz (max (p + 1) n + 1) (((m + a / m) / 2 : Nat) : Int) := s4.abs (by omega)
    have e6 := integer_Cmp_eq (k := k) (x := (((m + a / m) / 2 : Nat) : Int)) (y := (m : Int)) (by omega) (by omega)
    simp only [e2, e3, e4, e6, Option.bind_some]
    have hge := newton_ge hm0 hs1
    by_cases hc : m ≤ (m + a / m) / 2
    · right
      have := newton_end hm hs2 hm0 hc
      have hcc : cmpI (((m + a / m) / 2 : Nat) : Int) (m : Int) ≥ 0 := by
        have := @cmpI_neg_iff (((m + a / m) / 2 : Nat) : Int) (m : Int); omega
      exact ⟨_, by rw [cdec hcc, cond_true], by rw [this]⟩
    · left
      have hcc : ¬ cmpI (((m + a / m) / 2 : Nat) : Int) (m : Int) ≥ 0 := by
        have := cmpI_lt (a := (((m + a / m) / 2 : Nat) : Int)) (b := (m : Int)) (by omega); omega
      have hpos : 0 < (m + a / m) / 2 := by
        have : 1 ≤ Nat.sqrt a := by
          rcases Nat.eq_zero_or_pos (Nat.sqrt a) with h0 | h0
          · rw [h0] at hs2; omega
          · exact h0
        omega
      exact ⟨_, (m + a / m) / 2, by rw [cdecF hcc, cond_false], by omega, rfl, hge, hpos, by omega⟩
theorem zero_I : (⟨false, []⟩ : IntD) = I 0 := by unfold I; simp [lim_zero]
/-- The square root, rounded down; 7 where there is none. -/
theorem integer_Sqrt_eq {k : Nat} [F : Fuel k] {a : Int} {n : Nat} [sa : Sz n a] (h : 2 * n + 10 ≤ LM := by decide) : integer_Sqrt k (I a) = some (if a < 0 then (I 0, 7) else (I ((Nat.sqrt a.toNat : Nat) : Int), 0)) := by
  by_cases h0 : a < 0
  · rw [if_pos h0]
    unfold integer_Sqrt
    rw [I_neg, cdec h0, cond_true, zero_I]
  · rw [if_neg h0]
    obtain ⟨b, rfl⟩ : ∃ b : Nat, a = b := ⟨a.toNat, by omega⟩
    rw [Int.toNat_natCast]
    by_cases h1 : b = 0
    · subst h1
      unfold integer_Sqrt
      rw [I_nat_neg, I_nat_limbs, lim_zero]
      simp [zero_I, Nat.sqrt]
    · exact integer_Sqrt_pos (by omega) h
end Go.Proofs.YtbjkpogfgijmaaaGreat
