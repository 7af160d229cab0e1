/- Plain laws: the program's greatest common divisor and square root of whole numbers. Plain laws: the reference's limb arithmetic. Plain laws: the reference's whole numbers. Plain laws: the reference's whole numbers, joined. -/
import Derived.Test.YtbjkpogfgijmaaaGreatTh4
namespace Go.Proofs.YtbjkpogfgijmaaaGreat
/-! ## Plain laws: the program's greatest common divisor and square root of whole numbers. -/
section
open Go
set_option linter.unusedVariables false
set_option linter.unusedSimpArgs false

theorem I_nat_neg (x : Nat) : (I (x : Int)).neg = false := by rw [I_neg]; simp
theorem I_nat_limbs (x : Nat) : (I (x : Int)).limbs = lim x := by rw [I_limbs, Int.natAbs_natCast]
theorem lim2 {x : Nat} (h : (lim x).length = 2) : (lim x).getD 1 0 * 1000000000 + (lim x).getD 0 0 = x := by
  have h1 := top2 (m := 0) h
  rw [lim_val] at h1
  simp only [List.take_zero, val, bp, Int.zero_add, Int.one_mul, Nat.zero_add] at h1
  omega
theorem word_ok {k : Nat} (x : Nat) : integer_word k (I (x : Int)) = some (if (lim x).length ≤ 2 then ((x : Int), true) else (0, false)) := by
  unfold integer_word
  simp only [I_nat_limbs]
  have hd0 := (lim_dig x).getD 0
  have hd1 := (lim_dig x).getD 1
  match h : (lim x).length with
  | 0 =>
    have := @lim_length_pos x
    have h0 : x = 0 := by omega
    subst h0; simp
  | 1 =>
    obtain ⟨h1, h2, h3⟩ := lim_one h
    simp only [h1]
    rw [wU64 (by omega) (by omega)]
    simp [ixOk]
  | 2 =>
    have h1 := lim2 h
    rw [wU64 (x := (lim x).getD 1 0) (by omega) (by omega), wU64 (x := (lim x).getD 0 0) (by omega) (by omega), wU64 (x := (lim x).getD 1 0 * 1000000000) (by omega) (by omega), h1, wU64 (by omega) (by omega)]
    simp [ixOk]
  | n + 3 =>
    have e0 : (((n + 3 : Nat) : Int) == 0) = false := beq_eq_false_iff_ne.2 (by omega)
    have e1 : (((n + 3 : Nat) : Int) == 1) = false := beq_eq_false_iff_ne.2 (by omega)
    have e2 : (((n + 3 : Nat) : Int) == 2) = false := beq_eq_false_iff_ne.2 (by omega)
    rw [e0, e1, e2, if_neg (by omega)]; rfl
theorem small_lt {x : Nat} (h : (lim x).length ≤ 2) : (x : Int) < 1000000000000000000 := by
  have := lim_len_le_iff.1 h
  simp [bp] at this; omega
theorem gcd_step (a b : Nat) : Nat.gcd b (a % b) = Nat.gcd a b := by rw [Nat.gcd_comm a b, Nat.gcd_rec b a, Nat.gcd_comm]
theorem gcd_small {k : Nat} [F : Fuel k] (z : IntD) {u v : Nat} (hu : (u : Int) < 1000000000000000000) (hv : (v : Int) < 1000000000000000000) :
    iter (fun (x6 : (IntD × Int × Int × Unit)) => integer_GCD_L2 k x6.1 x6.2.1 x6.2.2.1) k (z, (u : Int), (v : Int), ()) = some (z, ((Nat.gcd u v : Nat) : Int), ()) := by
  refine Exists.elim (iter_ok (fun (x6 : (IntD × Int × Int × Unit)) => integer_GCD_L2 k x6.1 x6.2.1 x6.2.2.1) (fun n s => ∃ a : Nat, s = (z, (a : Int), (n : Int), ()) ∧ Nat.gcd a n = Nat.gcd u v) (fun x => x = (z, ((Nat.gcd u v : Nat) : Int), ())) ?_ k v _ (F.lt (m := 2) (by simp [bp]; omega) (by decide)) ⟨u, rfl, rfl⟩) ?_
  rotate_left
  · rintro x ⟨hx, rfl⟩; exact hx
  · rintro n s ⟨a, rfl, hg⟩
    dsimp only
    unfold integer_GCD_L2
    by_cases h0 : n = 0
    · right
      subst h0
      rw [Nat.gcd_zero_right] at hg
      exact ⟨_, by rw [cdecF (by omega), cond_false], by rw [hg]⟩
    · left
      refine ⟨_, a % n, ?_, Nat.mod_lt _ (by omega), n, rfl, by rw [gcd_step, hg]⟩
      rw [cdec (by omega), cond_true, beq_eq_false_iff_ne.2 (show ((n : Int) ≠ 0) by omega), cond_false, Int.tmod_eq_emod_of_nonneg (by omega)]
      simp
theorem integer_GCD_eq {k : Nat} [F : Fuel k] {x y : Int} {m n : Nat} [sa : Sz m x] [sb : Sz n y] (h : 2 * max m n + 2 ≤ LM := by decide) :
    integer_GCD k (I x) (I y) = some (I ((Int.gcd x y : Nat) : Int)) := by
  have hlm := LM_val
  have ha := sa.lim; have hb := sb.lim
  unfold integer_GCD
  have e1 := signed_ok (k := k) false (lim_dig x.natAbs) (by omega)
  have e2 := signed_ok (k := k) false (lim_dig y.natAbs) (by omega)
  rw [lim_val] at e1 e2
  simp only [Bool.false_eq_true, if_false] at e1 e2
  rw [I_limbs, I_limbs, e1, e2, Option.bind_some, Option.bind_some]
  have hg : Int.gcd x y = Nat.gcd x.natAbs y.natAbs := rfl
  rw [hg]
  generalize x.natAbs = u at *
  generalize y.natAbs = v at *
  have gz : (lim (Nat.gcd u v)).length ≤ max m n := by
    by_cases hu : u = 0
    · subst hu; rw [Nat.gcd_zero_left]; omega
    · have := lim_len_mono (Nat.gcd_le_left (m := u) v (by omega)); omega
  refine Exists.elim (iter_ok (fun (x14 : (IntD × IntD × IntD × Unit)) => integer_GCD_L0 k x14.1 x14.2.1 x14.2.2.1)
    (fun n' s => ∃ a : Nat, s = (⟨false, []⟩, I (a : Int), I (n' : Int), ()) ∧ Nat.gcd a n' = Nat.gcd u v ∧ (lim a).length ≤ max m n ∧ (lim n').length ≤ max m n)
    (fun x => match x with
      | .inl z => z.2.1 = I ((Nat.gcd u v : Nat) : Int)
      | .inr z => z.1 = I ((Nat.gcd u v : Nat) : Int)) ?_ k v _ (F.lt (m := n) (by have := lim_len_le_iff.1 hb; omega) (by omega)) ⟨u, rfl, rfl, by omega, by omega⟩) ?_
  rotate_left
  · rintro x ⟨hx, hp⟩
    rw [hx]
    cases x with
    | inl z =>
      have e3 := signed_ok (k := k) false (lim_dig (Nat.gcd u v)) (by omega)
      rw [lim_val] at e3
      dsimp only at hp
      simp only [Option.bind_some]
      rw [cdec (by rw [hp, I_nat_limbs]; simp; omega), cond_true, hp, I_nat_limbs, e3]
      simp
    | inr z => dsimp only at hp; simp [hp]
  · rintro n' s ⟨a, rfl, hg', ha', hb'⟩
    dsimp only
    unfold integer_GCD_L0
    by_cases h0 : n' = 0
    · right
      subst h0
      rw [Nat.gcd_zero_right] at hg'
      refine ⟨_, by rw [cdecF (by rw [I_nat_limbs, lim_zero]; simp), cond_false], ?_⟩
      dsimp only; rw [hg']
    · rw [cdec (by rw [I_nat_limbs]; have := lim_length_pos (n := n'); omega), cond_true, word_ok, word_ok]
      have div : ∃ q, integer_divide k (I (a : Int)).limbs (I (n' : Int)).limbs = some (q, lim (a % n')) ∨ ∃ r, integer_divide k (I (a : Int)).limbs (I (n' : Int)).limbs = some (q, r) ∧ Dig r ∧ r.length ≤ LM ∧ val r = ((a % n' : Nat) : Int) := by
        obtain ⟨q, r, hqr, q1, r1, q2, r2, q3, r3⟩ := divide_ok (k := k) (lim_dig a) (lim_dig n') (by rw [lim_val]; omega) (by omega) (by omega)
        rw [lim_val, lim_val] at r3
        refine ⟨q, .inr ⟨r, by rw [I_nat_limbs, I_nat_limbs]; exact hqr, r1, by omega, by rw [r3]; simp⟩⟩
      have next : ∃ s' m', ((integer_divide k (I (a : Int)).limbs (I (n' : Int)).limbs).bind fun x9 => (integer_signed k false x9.2).bind fun x10 => some (Sum.inl ((⟨false, []⟩ : IntD), I (n' : Int), x10, ()))) = some (Sum.inl s' : (IntD × IntD × IntD × Unit) ⊕ ((IntD × IntD × Unit) ⊕ (IntD × Unit))) ∧ m' < n' ∧
          ∃ a : Nat, s' = (⟨false, []⟩, I (a : Int), I (m' : Int), ()) ∧ Nat.gcd a m' = Nat.gcd u v ∧ (lim a).length ≤ max m n ∧ (lim m').length ≤ max m n := by
        obtain ⟨q, r, hqr, q1, r1, q2, r2, q3, r3⟩ := divide_ok (k := k) (lim_dig a) (lim_dig n') (by rw [lim_val]; omega) (by omega) (by omega)
        rw [lim_val, lim_val] at r3
        have r4 : val r = ((a % n' : Nat) : Int) := by rw [r3]; simp
        have hlt : a % n' < n' := Nat.mod_lt _ (by omega)
        refine ⟨_, a % n', ?_, hlt, n', rfl, by rw [gcd_step, hg'], hb', Nat.le_trans (lim_len_mono (Nat.le_of_lt hlt)) hb'⟩
        rw [I_nat_limbs, I_nat_limbs, hqr, Option.bind_some, signed_ok _ r1 (by omega), Option.bind_some, r4]
        simp
      by_cases h1 : (lim a).length ≤ 2
      · by_cases h2 : (lim n').length ≤ 2
        · right
          rw [if_pos h1, if_pos h2]
          obtain ⟨l, hl, l1, l2, l3⟩ := split_ok (k := k) (u := ((Nat.gcd u v : Nat) : Int)) (by omega) (by
            have : Nat.gcd u v ≤ n' := by rw [← hg']; exact Nat.gcd_le_right a (by omega)
            have := small_lt h2; omega)
          refine ⟨.inr (I ((Nat.gcd u v : Nat) : Int), ()), ?_, rfl⟩
          simp only [Option.bind_some, cond_true, gcd_small (k := k) (⟨false, []⟩ : IntD) (small_lt h1) (small_lt h2), hg', hl]
          rw [signed_ok _ l1 (by omega), l3]; simp
        · left
          rw [if_pos h1, if_neg h2]
          simp only [Option.bind_some, cond_true, cond_false]
          exact next
      · left
        rw [if_neg h1]
        simp only [Option.bind_some, cond_true, cond_false]
        exact next

/-! ### Square roots -/
theorem newton_ge {a s x : Nat} (hx : 0 < x) (hs : s * s ≤ a) : s ≤ (x + a / x) / 2 := by
  rw [Nat.le_div_iff_mul_le (by omega)]
  rcases Nat.le_or_ge (2 * s) x with h | h
  · exact Nat.le_trans (show s * 2 ≤ x by omega) (Nat.le_add_right x _)
  · have : 2 * s - x ≤ a / x := by
      rw [Nat.le_div_iff_mul_le hx]
      have h1 : ((2 * s - x : Nat) : Int) = 2 * s - x := by omega
      have h2 : (((2 * s - x) * x : Nat) : Int) ≤ ((s * s : Nat) : Int) := by
        rw [Int.natCast_mul, h1, Int.natCast_mul]
        have : 0 ≤ ((s : Int) - x) * (s - x) := by
          rcases Int.le_total (s : Int) x with h3 | h3
          · have := Int.mul_nonneg (show (0 : Int) ≤ x - s by omega) (show (0 : Int) ≤ x - s by omega); grind
          · exact Int.mul_nonneg (by omega) (by omega)
        grind
      omega
    omega
theorem newton_end {a s x : Nat} (hx : s ≤ x) (hs : a < (s + 1) * (s + 1)) (h0 : 0 < x) (h : x ≤ (x + a / x) / 2) : x = s := by
  rcases Nat.lt_or_ge s x with h1 | h1
  · exfalso
    have h2 : x * 2 ≤ x + a / x := (Nat.le_div_iff_mul_le (by omega)).1 h
    have h3 : x ≤ a / x := by omega
    have h4 : x * x ≤ a := (Nat.le_div_iff_mul_le h0).1 h3
    have h5 : (s + 1) * (s + 1) ≤ x * x := Nat.mul_le_mul (by omega) (by omega)
    omega
  · omega
theorem fdiv_nat (a b : Nat) : (a : Int).fdiv b = ((a / b : Nat) : Int) := by
  rw [Int.fdiv_eq_ediv_of_nonneg _ (by omega)]; simp
theorem lim_pow (p : Nat) : List.replicate p (0 : Int) ++ [1] = lim (bp p).toNat := by
  have hd : Dig (List.replicate p (0 : Int) ++ [1]) := (Dig.replicate p).append (Dig.cons (by omega) (by omega) Dig.nil)
  have hn : Norm (List.replicate p (0 : Int) ++ [1]) := ⟨hd, fun h => by simp⟩
  have := hn.eq_lim
  rwa [val_append, val_replicate, List.length_replicate, show (0 : Int) + bp p * val [1] = bp p by simp [val]] at this
theorem bp_sq_gt {a : Nat} {p : Nat} (h : (lim a).length ≤ 2 * p) : a < (bp p).toNat * (bp p).toNat := by
  have h1 := lim_len_le_iff.1 h
  have h2 : 2 * p = p + p := by omega
  rw [h2, bp_add] at h1
  have := bp_pos p
  have h3 : (((bp p).toNat * (bp p).toNat : Nat) : Int) = bp p * bp p := by rw [Int.natCast_mul, Int.toNat_of_nonneg (by omega)]
  omega
theorem sqrt_lt_of {a P : Nat} (h : a < P * P) : Nat.sqrt a < P := by
  rcases Nat.lt_or_ge (Nat.sqrt a) P with h1 | h1
  · exact h1
  · have := Nat.mul_le_mul h1 h1; have := Nat.sqrt_le a; omega
theorem integer_Sqrt_pos {k : Nat} [F : Fuel k] {a : Nat} {n : Nat} [sa : Sz n (a : Int)] (ha : 0 < a) (h : 2 * n + 10 ≤ LM := by decide) : integer_Sqrt k (I (a : Int)) = some (I ((Nat.sqrt a : Nat) : Int), 0) := by
  have hlm := LM_val
  have hl := sa.lim
  rw [Int.natAbs_natCast] at hl
  unfold integer_Sqrt
  rw [I_nat_neg, I_nat_limbs, cond_false, beq_eq_false_iff_ne.2 (by have := lim_length_pos.2 ha; omega), cond_false]
  have w1 : IntKind.i64.wrap (((lim a).length : Int) + 1) = ((lim a).length : Int) + 1 := wI64 (by omega) (by omega)
  have w2 : IntKind.i64.wrap ((((lim a).length : Int) + 1).tdiv 2) = ((((lim a).length + 1) / 2 : Nat) : Int) := by
    rw [Int.tdiv_eq_ediv_of_nonneg (by omega), wI64 (by omega) (by omega)]; omega
  simp only [w1, w2]
  obtain ⟨p, hp⟩ : ∃ p, p = ((lim a).length + 1) / 2 := ⟨_, rfl⟩
  rw [← hp, make_ok (by omega), cond_true, cdec (by simp; omega), cond_true, Int.toNat_natCast, lim_pow]
  have hP0 := bp_pos p
  have hPn : ((bp p).toNat : Int) = bp p := by omega
  have hs0 : (lim (bp p).toNat).length ≤ p + 1 := lim_len_le (by simp only [bp]; omega)
  have e1 := signed_ok (k := k) false (lim_dig (bp p).toNat) (by omega)
  rw [lim_val] at e1
  simp only [Bool.false_eq_true, if_false] at e1
  rw [e1, Option.bind_some, integer_FromInt64_eq (by omega) (by omega), Option.bind_some]
  have hlt := sqrt_lt_of (bp_sq_gt (a := a) (p := p) (by omega))
  have hs1 := Nat.sqrt_le a
  have hs2 := Nat.lt_succ_sqrt a
  refine Exists.elim (iter_ok (fun (x8 : (IntD × IntD × IntD × IntD × Unit)) => integer_Sqrt_L0 k x8.1 x8.2.1 x8.2.2.1 x8.2.2.2.1) (fun m s => s = (I (a : Int), ⟨false, []⟩, I (m : Int), I 2, ()) ∧ Nat.sqrt a ≤ m ∧ 0 < m ∧ m ≤ (bp p).toNat) (fun x => x = (I ((Nat.sqrt a : Nat) : Int), 0, ())) ?_ k (bp p).toNat _ (F.lt (m := p) (by omega) (by omega)) ⟨rfl, by omega, by omega, Nat.le_refl _⟩) ?_
  rotate_left
  · rintro x ⟨hx, rfl⟩; rw [hx]; rfl
  · rintro m s ⟨rfl, hm, hm0, hmP⟩
    dsimp only
    unfold integer_Sqrt_L0
    have s1 : Sz (p + 1) (m : Int) := ⟨by unfold len; rw [Int.natAbs_natCast]; exact Nat.le_trans (lim_len_mono hmP) hs0⟩
    have s2 : Sz 3 (2 : Int) := szSmall (by decide)
    have s3 : Sz n ((a / m : Nat) : Int) := sa.abs (by rw [Int.natAbs_natCast, Int.natAbs_natCast]; exact Nat.div_le_self _ _)
    have s4 := szAdd s1 s3
    have e2 := integer_DivMod_eq (k := k) (x := (a : Int)) (y := (m : Int)) (by omega) (by omega)
    have e3 := integer_Add_eq (k := k) (x := (m : Int)) (y := ((a / m : Nat) : Int)) (by omega)
    have e4 := integer_DivMod_eq (k := k) (x := (m : Int) + ((a / m : Nat) : Int)) (y := (2 : Int)) (by omega) (by omega)
    have e5 : ((m : Int) + ((a / m : Nat) : Int)).fdiv 2 = (((m + a / m) / 2 : Nat) : Int) := by
      have := fdiv_nat (m + a / m) 2
      rw [Int.natCast_add] at this; exact this
    rw [fdiv_nat] at e2
    rw [e5] at e4
    have s5 : Sz (max (p + 1) n + 1) (((m + a / m) / 2 : Nat) : Int) := s4.abs (by omega)
    have e6 := integer_Cmp_eq (k := k) (x := (((m + a / m) / 2 : Nat) : Int)) (y := (m : Int)) (by omega) (by omega)
    simp only [e2, e3, e4, e6, Option.bind_some]
    have hge := newton_ge hm0 hs1
    by_cases hc : m ≤ (m + a / m) / 2
    · right
      have := newton_end hm hs2 hm0 hc
      have hcc : cmpI (((m + a / m) / 2 : Nat) : Int) (m : Int) ≥ 0 := by
        have := @cmpI_neg_iff (((m + a / m) / 2 : Nat) : Int) (m : Int); omega
      exact ⟨_, by rw [cdec hcc, cond_true], by rw [this]⟩
    · left
      have hcc : ¬ cmpI (((m + a / m) / 2 : Nat) : Int) (m : Int) ≥ 0 := by
        have := cmpI_lt (a := (((m + a / m) / 2 : Nat) : Int)) (b := (m : Int)) (by omega); omega
      have hpos : 0 < (m + a / m) / 2 := by
        have : 1 ≤ Nat.sqrt a := by
          rcases Nat.eq_zero_or_pos (Nat.sqrt a) with h0 | h0
          · rw [h0] at hs2; omega
          · exact h0
        omega
      exact ⟨_, (m + a / m) / 2, by rw [cdecF hcc, cond_false], by omega, rfl, hge, hpos, by omega⟩
theorem zero_I : (⟨false, []⟩ : IntD) = I 0 := by unfold I; simp [lim_zero]
/-- The square root, rounded down; 7 where there is none. -/
theorem integer_Sqrt_eq {k : Nat} [F : Fuel k] {a : Int} {n : Nat} [sa : Sz n a] (h : 2 * n + 10 ≤ LM := by decide) : integer_Sqrt k (I a) = some (if a < 0 then (I 0, 7) else (I ((Nat.sqrt a.toNat : Nat) : Int), 0)) := by
  by_cases h0 : a < 0
  · rw [if_pos h0]
    unfold integer_Sqrt
    rw [I_neg, cdec h0, cond_true, zero_I]
  · rw [if_neg h0]
    obtain ⟨b, rfl⟩ : ∃ b : Nat, a = b := ⟨a.toNat, by omega⟩
    rw [Int.toNat_natCast]
    by_cases h1 : b = 0
    · subst h1
      unfold integer_Sqrt
      rw [I_nat_neg, I_nat_limbs, lim_zero]
      simp [zero_I, Nat.sqrt]
    · exact integer_Sqrt_pos (by omega) h
end
/-! ## Plain laws: the reference's limb arithmetic. -/
section
open Go
set_option linter.unusedVariables false
set_option linter.unusedSimpArgs false

theorem rtrim_ok {k : Nat} [F : Fuel k] {l : List Int} (h : Dig l) (hl : l.length ≤ LM) : swarfref01_trim k l = some (lim (val l).toNat) := trim_ok h hl
theorem rlimbs_ok {k : Nat} [F : Fuel k] {n : Nat} (h : (n : Int) < 18446744073709551616) : swarfref01_limbs k (n : Int) = some (lim n) := by
  have hlm := LM_val
  have h3 : (lim n).length ≤ 3 := lim_len_le (by simp [bp]; omega)
  unfold swarfref01_limbs
  refine Exists.elim (iter_ok (fun (x2 : (Int × List Int × Unit)) => swarfref01_limbs_L0 k x2.1 x2.2.1) (fun m s => ∃ o, s = ((m : Int), o, ()) ∧ o ++ lim m = lim n) (fun x => x = (lim n, ())) ?_ k n _ (F.lt (m := 3) (by simp [bp]; omega) (by omega)) ⟨[], rfl, rfl⟩) ?_
  rotate_left
  · rintro x ⟨hx, rfl⟩; rw [hx]; rfl
  · rintro m s ⟨o, rfl, ho⟩
    dsimp only
    unfold swarfref01_limbs_L0
    by_cases h0 : m = 0
    · right
      subst h0
      rw [lim_zero, List.append_nil] at ho
      exact ⟨_, by rw [cdecF (by omega), cond_false], by rw [ho]⟩
    · left
      have hol : o.length ≤ 3 := by rw [← ho, List.length_append] at h3; omega
      have hmn : m ≤ n := by
        have h1 := congrArg val ho
        rw [val_append, lim_val, lim_val] at h1
        have hd : Dig o := fun x hx => lim_dig n x (by rw [← ho]; simp [hx])
        have h2 := val_nonneg hd
        have h4 : 1 * (m : Int) ≤ bp o.length * m := Int.mul_le_mul_of_nonneg_right (by have := bp_pos o.length; omega) (by omega)
        omega
      refine ⟨_, m / 1000000000, ?_, by omega, o ++ [((m % 1000000000 : Nat) : Int)], rfl, ?_⟩
      · rw [cdec (by omega), cond_true, cdec (by simp; omega), cond_true, Int.tmod_eq_emod_of_nonneg (by omega), Int.tdiv_eq_ediv_of_nonneg (by omega), wU64 (by omega) (by omega), wU32 (by omega) (by omega)]
        simp
      · rw [← ho, lim_pos (n := m) (by omega)]; simp
theorem rsigned_ok {k : Nat} [F : Fuel k] (s : Bool) {l : List Int} (h : Dig l) (hl : l.length ≤ LM) : swarfref01_signed k s l = some (I (if s then -(val l) else val l)) := by
  unfold swarfref01_signed
  rw [rtrim_ok h hl, Option.bind_some]
  have e3 := I_of s (val l).toNat
  have e4 : ((val l).toNat : Int) = val l := by have := val_nonneg h; omega
  have e2 : decide (((lim (val l).toNat).length : Int) > 0) = decide (0 < (val l).toNat) := by
    have := @lim_length_pos (val l).toNat
    simp only [decide_eq_decide]; omega
  rw [e4] at e3
  rw [e2]
  cases s <;> simpa using e3
theorem rFromInt64_eq {k : Nat} [F : Fuel k] {z : Int} (h0 : -9223372036854775808 ≤ z) (h1 : z < 9223372036854775808) : swarfref01_FromInt64 k z = some (I z) := by
  have hlm := LM_val
  unfold swarfref01_FromInt64
  have h3 : (lim z.natAbs).length ≤ 3 := lim_len_le (by simp [bp]; omega)
  have e0 := rlimbs_ok (k := k) (n := z.natAbs) (by omega)
  by_cases hz : z < 0
  · have e1 : IntKind.u64.wrap (0 - IntKind.u64.wrap z) = (z.natAbs : Int) := by
      have : IntKind.u64.wrap z = z + 18446744073709551616 := by rw [wU64_eq]; omega
      rw [this, wU64_eq]; omega
    rw [cdec hz, cond_true, e1, e0, Option.bind_some, rsigned_ok _ (lim_dig _) (by omega), Option.bind_some, lim_val, if_pos rfl]
    congr 2; omega
  · have e1 : IntKind.u64.wrap z = (z.natAbs : Int) := by rw [wU64 (by omega) (by omega)]; omega
    rw [cdecF hz, cond_false, e1, e0, Option.bind_some, rsigned_ok _ (lim_dig _) (by omega), Option.bind_some, lim_val]
    simp only [Bool.false_eq_true, if_false]
    congr 2; omega
theorem rSign_eq {k : Nat} (z : Int) : swarfref01_Sign k (I z) = some (sgI z) := by
  unfold swarfref01_Sign sgI
  rw [I_neg, I_limbs]
  by_cases h0 : z = 0
  · subst h0; simp [lim_zero]
  · rw [beq_eq_false_iff_ne.2 (by have := nat_pos_iff.2 h0; omega), cond_false]
    by_cases h : z < 0
    · simp [h]
    · have : z > 0 := by omega
      simp [h, this]
theorem rNeg_eq {k : Nat} [F : Fuel k] {x : Int} {n : Nat} [a : Sz n x] (h : n ≤ LM := by decide) : swarfref01_Neg k (I x) = some (I (-x)) := by
  have ha := a.lim
  unfold swarfref01_Neg
  rw [I_neg, I_limbs, rsigned_ok _ (lim_dig _) (by omega), Option.bind_some, lim_val]
  congr 2
  by_cases hx : x < 0
  · simp [hx]; omega
  · simp [hx]; omega
theorem rshort_ok {k : Nat} [F : Fuel k] {l : List Int} (hd : Dig l) (hl : l.length ≤ 2) : swarfref01_short k l = some (val l) := by
  have hlm := LM_val
  unfold swarfref01_short
  have hv := val_lt hd
  refine Exists.elim (iter_ok (fun (x2 : (List Int × Int × Int × Unit)) => swarfref01_short_L0 k x2.1 x2.2.1 x2.2.2.1) (fun m s => m ≤ l.length ∧ s = (l, val (l.drop m), (m : Int) - 1, ())) (fun x => x = (val l, ())) ?_ k l.length (l, 0, IntKind.i64.wrap ((l.length : Int) - 1), ()) (F.len (by omega)) ⟨Nat.le_refl _, by rw [wI64 (by omega) (by omega), List.drop_length]; rfl⟩) ?_
  rotate_left
  · rintro x ⟨hx, rfl⟩; rw [hx]; rfl
  · rintro m s ⟨hm, rfl⟩
    dsimp only
    unfold swarfref01_short_L0
    by_cases h0 : m = 0
    · right
      subst h0
      exact ⟨_, by rw [cdecF (by omega), cond_false], by simp⟩
    · left
      obtain ⟨i, rfl⟩ : ∃ i, m = i + 1 := ⟨m - 1, by omega⟩
      have e1 : ((i + 1 : Nat) : Int) - 1 = i := by omega
      have hv2 := val_lt (hd.drop (i + 1))
      have hv3 := val_nonneg (hd.drop (i + 1))
      rw [List.length_drop] at hv2
      have hv4 : val (l.drop (i + 1)) < 1000000000 := by
        have : bp (l.length - (i + 1)) ≤ bp 1 := bp_mono (by omega)
        simp [bp] at this; omega
      have hx := hd.getD i
      refine ⟨_, i, ?_, by omega, by omega, rfl⟩
      rw [e1, cdec (by omega), cond_true, ixOk_of (by omega) (by omega), cond_true, Int.toNat_natCast, val_drop l i (by omega)]
      rw [wU64 (x := val (l.drop (i + 1)) * 1000000000) (by omega) (by omega), wU64 (x := l.getD i 0) (by omega) (by omega), wU64 (by omega) (by omega), wI64 (by omega) (by omega)]
      congr 4; omega
theorem rshort_lim {k : Nat} [F : Fuel k] {n : Nat} (hl : (lim n).length ≤ 2) : swarfref01_short k (lim n) = some (n : Int) := by
  rw [rshort_ok (lim_dig n) hl, lim_val]
theorem rcompare_ok {k : Nat} [F : Fuel k] {m n : Nat} (hm : (lim m).length ≤ LM) (hn : (lim n).length ≤ LM) : swarfref01_compare k (lim m) (lim n) = some (cmpI m n) := cmp_lims hm hn

/-! ### Sums -/
theorem rplus_loop {k : Nat} [F : Fuel k] {a b : List Int} (ha : Dig a) (hb : Dig b) (hl : b.length ≤ a.length) (hm : a.length + 1 ≤ LM) :
    ((iter (fun (x2 : (List Int × List Int × List Int × Int × Int × Unit)) => swarfref01_plus_L0 k x2.1 x2.2.1 x2.2.2.1 x2.2.2.2.1 x2.2.2.2.2.1) k (a, b, (List.replicate (IntKind.i64.wrap ((a.length : Int) + 1)).toNat (0 : Int)), 0, 0, ())).bind fun x1 =>
      bif ixOk (x1.1.length : Int) x1.2.1.length then
        (swarfref01_trim k (x1.2.1.set ((x1.1.length : Int).toNat) x1.2.2.1)).bind fun x3 =>
        some x3
      else
        none) = some (lim (val a + val b).toNat) := by
  have hlm := LM_val
  rw [wI64 (by omega) (by omega), show ((a.length : Int) + 1).toNat = a.length + 1 by omega]
  refine Exists.elim (iter_ok (fun (x2 : (List Int × List Int × List Int × Int × Int × Unit)) => swarfref01_plus_L0 k x2.1 x2.2.1 x2.2.2.1 x2.2.2.2.1 x2.2.2.2.2.1) (fun n s => ∃ (i : Nat) (o : List Int) (c : Int), n = a.length - i ∧ i ≤ a.length ∧ s = (a, b, o, c, (i : Int), ()) ∧ o.length = a.length + 1 ∧ Dig o ∧ 0 ≤ c ∧ c ≤ 1 ∧ (∀ j, i ≤ j → o.getD j 0 = 0) ∧ val o + bp i * c = val (a.take i) + val (b.take i))
    (fun x => ∃ o c, x = (a, o, c, ()) ∧ o.length = a.length + 1 ∧ Dig o ∧ 0 ≤ c ∧ c ≤ 1 ∧ o.getD a.length 0 = 0 ∧ val o + bp a.length * c = val a + val b) ?_ k a.length (a, b, List.replicate (a.length + 1) 0, 0, 0, ()) (F.len (by omega)) ⟨0, _, 0, by omega, by omega, rfl, by simp, Dig.replicate _, by simp, by simp, fun j _ => getD_replicate _ _, by simp [val, val_replicate]⟩) ?_
  rotate_left
  · rintro x ⟨hx, o, c, rfl, h1, h2, h3, h4, h5, h6⟩
    rw [hx]
    simp only [Option.bind_some, Int.toNat_natCast]
    rw [ixOk_of (by omega) (by omega), cond_true, rtrim_ok (h2.set _ h3 (by omega)) (by simp; omega), val_set _ _ _ (by omega), h5]
    simp only [Int.sub_zero, h6]; rfl
  · rintro n s ⟨i, o, c, rfl, hi, rfl, hol, hod, hc0, hc1, hz, hv⟩
    dsimp only
    unfold swarfref01_plus_L0
    by_cases h0 : i = a.length
    · right
      subst h0
      refine ⟨_, by rw [cdecF (by omega), cond_false], o, c, rfl, hol, hod, hc0, hc1, hz _ (Nat.le_refl _), ?_⟩
      rw [val_take_all a (Nat.le_refl _), val_take_all b hl] at hv; exact hv
    · left
      have hx := ha.getD i
      have hy := hb.getD i
      have ea := val_take_succ a i
      have eb := val_take_succ b i
      have e1 : ixOk (i : Int) a.length = true := ixOk_of (by omega) (by omega)
      have e2 : ixOk (i : Int) o.length = true := ixOk_of (by omega) (by omega)
      have w3 : IntKind.i64.wrap ((i : Int) + 1) = ((i + 1 : Nat) : Int) := by rw [wI64 (by omega) (by omega)]; omega
      have w1 : IntKind.u32.wrap (c + a.getD i 0) = c + a.getD i 0 := wU32 (by omega) (by omega)
      have w2 : IntKind.u32.wrap (c + a.getD i 0 + b.getD i 0) = c + a.getD i 0 + b.getD i 0 := wU32 (by omega) (by omega)
      have key : ∀ t : Int, t = c + a.getD i 0 + b.getD i 0 → ∃ s' m, some (Sum.inl (a, b, o.set i (t.tmod 1000000000), IntKind.u32.wrap (t.tdiv 1000000000), ((i + 1 : Nat) : Int), ())) = some (Sum.inl s' : (List Int × List Int × List Int × Int × Int × Unit) ⊕ (List Int × List Int × Int × Unit)) ∧ m < a.length - i ∧
          ∃ (i_1 : Nat) (o : List Int) (c : Int), m = a.length - i_1 ∧ i_1 ≤ a.length ∧ s' = (a, b, o, c, (i_1 : Int), ()) ∧ o.length = a.length + 1 ∧ Dig o ∧ 0 ≤ c ∧ c ≤ 1 ∧ (∀ j, i_1 ≤ j → o.getD j 0 = 0) ∧ val o + bp i_1 * c = val (a.take i_1) + val (b.take i_1) := by
        intro t ht
        have t0 : 0 ≤ t := by omega
        rw [Int.tmod_eq_emod_of_nonneg t0, Int.tdiv_eq_ediv_of_nonneg t0, wU32 (by omega) (by omega)]
        refine ⟨_, a.length - (i + 1), rfl, by omega, i + 1, _, _, rfl, by omega, rfl, by simp [hol], hod.set _ (by omega) (by omega), by omega, by omega, fun j hj => ?_, ?_⟩
        · rw [getD_set _ _ _ _ (by omega), if_neg (by omega)]; exact hz j (by omega)
        · rw [val_set _ _ _ (by omega), hz i (Nat.le_refl _), ea, eb]; simp only [bp]
          have hdm : t = 1000000000 * (t / 1000000000) + t % 1000000000 := by omega
          generalize t / 1000000000 = q at *
          generalize t % 1000000000 = e at *
          grind
      rw [cdec (by omega), cond_true]
      simp only [e1, cond_true, Int.toNat_natCast, e2, w3, w1]
      by_cases hib : (i : Int) < (b.length : Int)
      · have e4 : ixOk (i : Int) b.length = true := ixOk_of (by omega) (by omega)
        simp only [cdec hib, cond_true, e4, w2]
        exact key _ rfl
      · simp only [cdecF hib, cond_false]
        have h0 : b.getD i 0 = 0 := getD_out (by omega)
        exact key _ (by rw [h0]; omega)
theorem rplus_ok {k : Nat} [F : Fuel k] {a b : List Int} (ha : Dig a) (hb : Dig b) (hla : a.length + 1 ≤ LM) (hlb : b.length + 1 ≤ LM) : swarfref01_plus k a b = some (lim (val a + val b).toNat) := by
  have hlm := LM_val
  unfold swarfref01_plus
  by_cases h : (a.length : Int) < (b.length : Int)
  · rw [cdec h, cond_true]
    have w1 : IntKind.i64.wrap ((b.length : Int) + 1) = ((b.length + 1 : Nat) : Int) := by rw [wI64 (by omega) (by omega)]; omega
    have e2 := make_ok hlb
    rw [← w1] at e2
    rw [e2, cond_true, Int.add_comm (val a)]
    exact rplus_loop (k := k) hb ha (by omega) hlb
  · rw [cdecF h, cond_false]
    have w1 : IntKind.i64.wrap ((a.length : Int) + 1) = ((a.length + 1 : Nat) : Int) := by rw [wI64 (by omega) (by omega)]; omega
    have e2 := make_ok hla
    rw [← w1] at e2
    rw [e2, cond_true]
    exact rplus_loop (k := k) ha hb (by omega) hla

/-! ### Differences -/
theorem rminus_ok {k : Nat} [F : Fuel k] {a b : List Int} (ha : Dig a) (hb : Dig b) (hl : b.length ≤ a.length) (hm : a.length ≤ LM) (hle : val b ≤ val a) : swarfref01_minus k a b = some (lim (val a - val b).toNat) := by
  have hlm := LM_val
  unfold swarfref01_minus
  rw [make_ok hm, cond_true]
  refine Exists.elim (iter_ok (fun (x2 : (List Int × List Int × List Int × Int × Int × Unit)) => swarfref01_minus_L0 k x2.1 x2.2.1 x2.2.2.1 x2.2.2.2.1 x2.2.2.2.2.1) (fun n s => ∃ (i : Nat) (o : List Int) (c : Int), n = a.length - i ∧ i ≤ a.length ∧ s = (a, b, o, c, (i : Int), ()) ∧ o.length = a.length ∧ Dig o ∧ 0 ≤ c ∧ c ≤ 1 ∧ (∀ j, i ≤ j → o.getD j 0 = 0) ∧ val o - bp i * c = val (a.take i) - val (b.take i))
    (fun x => ∃ o c, x = (o, ()) ∧ o.length = a.length ∧ Dig o ∧ 0 ≤ c ∧ c ≤ 1 ∧ val o - bp a.length * c = val a - val b) ?_ k a.length (a, b, List.replicate (a.length : Int).toNat 0, 0, 0, ()) (F.len (by omega)) ⟨0, _, 0, by omega, by omega, rfl, by simp, Dig.replicate _, by simp, by simp, fun j _ => getD_replicate _ _, by simp [val, val_replicate]⟩) ?_
  rotate_left
  · rintro x ⟨hx, o, c, rfl, h1, h2, h3, h4, h5⟩
    have hc : c = 0 := by
      have := bp_pos a.length; have := val_lt h2
      rw [h1] at this
      by_cases hc : c = 0
      · exact hc
      · have : c = 1 := by omega
        subst this; omega
    subst hc
    rw [hx]
    simp only [Option.bind_some]
    rw [rtrim_ok h2 (by omega), Option.bind_some]
    congr 3; omega
  · rintro n s ⟨i, o, c, rfl, hi, rfl, hol, hod, hc0, hc1, hz, hv⟩
    dsimp only
    unfold swarfref01_minus_L0
    by_cases h0 : i = a.length
    · right
      subst h0
      refine ⟨_, by rw [cdecF (by omega), cond_false], o, c, rfl, hol, hod, hc0, hc1, ?_⟩
      rw [val_take_all a (Nat.le_refl _), val_take_all b hl] at hv; exact hv
    · left
      have hx := ha.getD i
      have hy := hb.getD i
      have ea := val_take_succ a i
      have eb := val_take_succ b i
      have e1 : ixOk (i : Int) a.length = true := ixOk_of (by omega) (by omega)
      have e2 : ixOk (i : Int) o.length = true := ixOk_of (by omega) (by omega)
      have w3 : IntKind.i64.wrap ((i : Int) + 1) = ((i + 1 : Nat) : Int) := by rw [wI64 (by omega) (by omega)]; omega
      have w1 : IntKind.u32.wrap (a.getD i 0 + 1000000000) = a.getD i 0 + 1000000000 := wU32 (by omega) (by omega)
      have w2 : IntKind.u32.wrap (a.getD i 0 + 1000000000 - c) = a.getD i 0 + 1000000000 - c := wU32 (by omega) (by omega)
      have w4 : IntKind.u32.wrap (a.getD i 0 + 1000000000 - c - b.getD i 0) = a.getD i 0 + 1000000000 - c - b.getD i 0 := wU32 (by omega) (by omega)
      have key : ∀ t : Int, t = a.getD i 0 + 1000000000 - c - b.getD i 0 → ∃ s' m, (bif decide (t ≥ 1000000000) then some (Sum.inl (a, b, o.set i (IntKind.u32.wrap (t - 1000000000)), 0, ((i + 1 : Nat) : Int), ())) else some (Sum.inl (a, b, o.set i t, 1, ((i + 1 : Nat) : Int), ()))) = some (Sum.inl s' : (List Int × List Int × List Int × Int × Int × Unit) ⊕ (List Int × Unit)) ∧ m < a.length - i ∧
          ∃ (i_1 : Nat) (o : List Int) (c : Int), m = a.length - i_1 ∧ i_1 ≤ a.length ∧ s' = (a, b, o, c, (i_1 : Int), ()) ∧ o.length = a.length ∧ Dig o ∧ 0 ≤ c ∧ c ≤ 1 ∧ (∀ j, i_1 ≤ j → o.getD j 0 = 0) ∧ val o - bp i_1 * c = val (a.take i_1) - val (b.take i_1) := by
        intro t ht
        have hz' : ∀ x : Int, ∀ j, i + 1 ≤ j → (o.set i x).getD j 0 = 0 := fun x j hj => by
          rw [getD_set _ _ _ _ (by omega), if_neg (by omega)]; exact hz j (by omega)
        by_cases hs : t ≥ 1000000000
        · rw [cdec hs, cond_true, wU32 (by omega) (by omega)]
          refine ⟨_, a.length - (i + 1), rfl, by omega, i + 1, _, _, rfl, by omega, rfl, by simp [hol], hod.set _ (by omega) (by omega), by simp, by simp, hz' _, ?_⟩
          rw [val_set _ _ _ (by omega), hz i (Nat.le_refl _), ea, eb]; simp only [bp]; grind
        · rw [cdecF hs, cond_false]
          refine ⟨_, a.length - (i + 1), rfl, by omega, i + 1, _, _, rfl, by omega, rfl, by simp [hol], hod.set _ (by omega) (by omega), by simp, by simp, hz' _, ?_⟩
          rw [val_set _ _ _ (by omega), hz i (Nat.le_refl _), ea, eb]; simp only [bp]; grind
      rw [cdec (by omega), cond_true]
      simp only [e1, cond_true, Int.toNat_natCast, e2, w3, w1, w2]
      by_cases hib : (i : Int) < (b.length : Int)
      · have e4 : ixOk (i : Int) b.length = true := ixOk_of (by omega) (by omega)
        simp only [cdec hib, cond_true, e4, w4]
        exact key _ rfl
      · simp only [cdecF hib, cond_false]
        have h0 : b.getD i 0 = 0 := getD_out (by omega)
        exact key _ (by rw [h0]; omega)

/-! ### Products -/
theorem rtimes_inner {k : Nat} [F : Fuel k] {a b o : List Int} {i : Nat} (ha : Dig a) (hb : Dig b) (ho : Dig o) (hi : i < a.length) (hol : o.length = a.length + b.length) (hm : a.length + b.length ≤ LM) :
    ∃ x, iter (fun (x2 : (List Int × List Int × List Int × Int × Int × Int × Unit)) => swarfref01_times_L2 k x2.1 x2.2.1 x2.2.2.1 x2.2.2.2.1 x2.2.2.2.2.1 x2.2.2.2.2.2.1) k (a, b, o, (i : Int), 0, 0, ()) = some x ∧
      ∃ o' c, x = (a, b, o', (i : Int), c, ()) ∧ Dig o' ∧ o'.length = o.length ∧ 0 ≤ c ∧ c < 1000000000 ∧ (∀ j, i + b.length ≤ j → o'.getD j 0 = o.getD j 0) ∧ val o' + bp (i + b.length) * c = val o + bp i * (a.getD i 0 * val b) := by
  have hlm := LM_val
  refine iter_ok _ (fun n s => ∃ (j : Nat) (o' : List Int) (c : Int), n = b.length - j ∧ j ≤ b.length ∧ s = (a, b, o', (i : Int), c, (j : Int), ()) ∧ Dig o' ∧ o'.length = o.length ∧ 0 ≤ c ∧ c < 1000000000 ∧ (∀ l, i + j ≤ l → o'.getD l 0 = o.getD l 0) ∧ val o' + bp (i + j) * c = val o + bp i * (a.getD i 0 * val (b.take j))) _ ?_ k b.length _ (F.len (by omega)) ⟨0, o, 0, by omega, by omega, rfl, ho, rfl, by simp, by simp, fun _ _ => rfl, by simp [val]⟩
  rintro n s ⟨j, o', c, rfl, hj, rfl, hod, hol', hc0, hc1, hsame, hv⟩
  dsimp only
  unfold swarfref01_times_L2
  by_cases h0 : j = b.length
  · right
    subst h0
    refine ⟨_, by rw [cdecF (by omega), cond_false], o', c, rfl, hod, hol', hc0, hc1, hsame, ?_⟩
    rw [val_take_all b (Nat.le_refl _)] at hv; exact hv
  · left
    have hlt : j < b.length := by omega
    have hx := ha.getD i
    have hy := hb.getD j
    have hz := hod.getD (i + j)
    have hxy := Dig.prod hx hy
    have eb := val_take_succ b j
    have e0 : ixOk (i : Int) a.length = true := ixOk_of (by omega) (by omega)
    have e1 : ixOk (j : Int) b.length = true := ixOk_of (by omega) (by omega)
    have w1 : IntKind.i64.wrap ((i : Int) + (j : Int)) = ((i + j : Nat) : Int) := by rw [wI64 (by omega) (by omega)]; omega
    have e2 : ixOk ((i + j : Nat) : Int) o'.length = true := ixOk_of (by omega) (by omega)
    have w3 : IntKind.i64.wrap ((j : Int) + 1) = ((j + 1 : Nat) : Int) := by rw [wI64 (by omega) (by omega)]; omega
    have w4 : IntKind.u64.wrap (o'.getD (i + j) 0) = o'.getD (i + j) 0 := wU64 (by omega) (by omega)
    have w5 : IntKind.u64.wrap (a.getD i 0) = a.getD i 0 := wU64 (by omega) (by omega)
    have w6 : IntKind.u64.wrap (b.getD j 0) = b.getD j 0 := wU64 (by omega) (by omega)
    have w7 : IntKind.u64.wrap (a.getD i 0 * b.getD j 0) = a.getD i 0 * b.getD j 0 := wU64 (by omega) (by omega)
    have w8 : IntKind.u64.wrap (c + o'.getD (i + j) 0) = c + o'.getD (i + j) 0 := wU64 (by omega) (by omega)
    have w9 : IntKind.u64.wrap (c + o'.getD (i + j) 0 + a.getD i 0 * b.getD j 0) = c + o'.getD (i + j) 0 + a.getD i 0 * b.getD j 0 := wU64 (by omega) (by omega)
    rw [cdec (by omega), cond_true]
    simp only [e0, e1, e2, cond_true, Int.toNat_natCast, w1, w3, w4, w5, w6, w7, w8, w9]
    generalize ht : c + o'.getD (i + j) 0 + a.getD i 0 * b.getD j 0 = t
    have t0 : 0 ≤ t := by omega
    have t1 : t < 1000000000 * 1000000000 := by omega
    rw [Int.tmod_eq_emod_of_nonneg t0, Int.tdiv_eq_ediv_of_nonneg t0, wU32 (by omega) (by omega), wU64 (by omega) (by omega)]
    refine ⟨_, b.length - (j + 1), rfl, by omega, j + 1, _, _, rfl, by omega, rfl, hod.set _ (by omega) (by omega), by simp [hol'], by omega, by omega, fun l hl => ?_, ?_⟩
    · rw [getD_set _ _ _ _ (by omega), if_neg (by omega)]; exact hsame l (by omega)
    · rw [val_set _ _ _ (by omega), eb, ← Nat.add_assoc]
      simp only [bp]
      have hb' := bp_add i j
      have hdm : t = 1000000000 * (t / 1000000000) + t % 1000000000 := by omega
      generalize t / 1000000000 = q at *
      generalize t % 1000000000 = r at *
      grind
theorem rtimes_ok {k : Nat} [F : Fuel k] {a b : List Int} (ha : Dig a) (hb : Dig b) (hm : a.length + b.length ≤ LM) : swarfref01_times k a b = some (lim (val a * val b).toNat) := by
  have hlm := LM_val
  unfold swarfref01_times
  have w0 : IntKind.i64.wrap ((a.length : Int) + (b.length : Int)) = ((a.length + b.length : Nat) : Int) := by rw [wI64 (by omega) (by omega)]; omega
  simp only [w0, make_ok hm, cond_true]
  rw [Int.toNat_natCast]
  refine Exists.elim (iter_ok (fun (x4 : (List Int × List Int × List Int × Int × Unit)) => swarfref01_times_L0 k x4.1 x4.2.1 x4.2.2.1 x4.2.2.2.1) (fun n s => ∃ (i : Nat) (o : List Int), n = a.length - i ∧ i ≤ a.length ∧ s = (a, b, o, (i : Int), ()) ∧ Dig o ∧ o.length = a.length + b.length ∧ (∀ j, i + b.length ≤ j → o.getD j 0 = 0) ∧ val o = val (a.take i) * val b)
    (fun x => ∃ o, x = (o, ()) ∧ Dig o ∧ o.length = a.length + b.length ∧ val o = val a * val b) ?_ k a.length (a, b, List.replicate (a.length + b.length) 0, 0, ()) (F.len (by omega)) ⟨0, _, by omega, by omega, rfl, Dig.replicate _, by rw [List.length_replicate], fun j _ => getD_replicate _ _, by simp [val, val_replicate]⟩) ?_
  rotate_left
  · rintro x ⟨hx, o, rfl, h1, h2, h3⟩
    rw [hx]
    simp only [Option.bind_some]
    rw [rtrim_ok h1 (by omega), h3]; rfl
  · rintro n s ⟨i, o, rfl, hi, rfl, hod, hol, hz, hv⟩
    dsimp only
    unfold swarfref01_times_L0
    by_cases h0 : i = a.length
    · right
      subst h0
      refine ⟨_, by rw [cdecF (by omega), cond_false], o, rfl, hod, hol, ?_⟩
      rw [val_take_all a (Nat.le_refl _)] at hv; exact hv
    · left
      have w1 : IntKind.i64.wrap ((i : Int) + (b.length : Int)) = ((i + b.length : Nat) : Int) := by rw [wI64 (by omega) (by omega)]; omega
      have w3 : IntKind.i64.wrap ((i : Int) + 1) = ((i + 1 : Nat) : Int) := by rw [wI64 (by omega) (by omega)]; omega
      obtain ⟨x, hx, o', c, rfl, ho', hol', hc0, hc1, hs, hv'⟩ := rtimes_inner (k := k) ha hb hod (i := i) (by omega) hol hm
      have e2 : ixOk ((i + b.length : Nat) : Int) o'.length = true := ixOk_of (by omega) (by omega)
      rw [cdec (by omega), cond_true]
      simp only [hx, Option.bind_some, w1, w3, e2, cond_true, Int.toNat_natCast]
      rw [wU32 (by omega) (by omega)]
      refine ⟨_, a.length - (i + 1), rfl, by omega, i + 1, _, rfl, by omega, rfl, ho'.set _ hc0 hc1, by simp; omega, fun j hj => ?_, ?_⟩
      · rw [getD_set _ _ _ _ (by omega), if_neg (by omega), hs j (by omega)]; exact hz j (by omega)
      · rw [val_set _ _ _ (by omega), hs _ (by omega), hz _ (by omega), val_take_succ]
        grind
theorem rby_ok {k : Nat} [F : Fuel k] {a : List Int} {n : Nat} (ha : Dig a) (hn : n < 1000000000) (hm : a.length + 1 ≤ LM) : swarfref01_by k a (n : Int) = some (lim (val a * n).toNat) := by
  have hlm := LM_val
  unfold swarfref01_by
  have hd : Dig [(n : Int)] := Dig.cons (by omega) (by omega) Dig.nil
  have hl : (lim n).length ≤ 1 := lim_len_le (by simp [bp]; omega)
  have hv : (val [(n : Int)]).toNat = n := by simp [val]
  rw [rtrim_ok hd (by simp; omega), hv, Option.bind_some, rtimes_ok ha (lim_dig n) (by omega), lim_val]; rfl
end
/-! ## Plain laws: the reference's whole numbers. -/
section
open Go
set_option linter.unusedVariables false
set_option linter.unusedSimpArgs false

/-! ### Long division -/
theorem rparts_fix {k : Nat} [F : Fuel k] {sc top i : Int} {V R d q : Nat} {out u : List Int} (hV : 0 < V) (hVl : (lim V).length + 3 ≤ LM) (hRl : (lim R).length ≤ LM) (hq : q = R / V) (hqd : q ≤ d) (hd : d < 1000000000) :
    iter (fun (x12 : (Int × List Int × Int × List Int × List Int × List Int × Int × Int × List Int × Unit)) => swarfref01_parts_L2 k x12.1 x12.2.1 x12.2.2.1 x12.2.2.2.1 x12.2.2.2.2.1 x12.2.2.2.2.2.1 x12.2.2.2.2.2.2.1 x12.2.2.2.2.2.2.2.1 x12.2.2.2.2.2.2.2.2.1) k (sc, lim V, top, lim R, out, u, i, (d : Int), lim (V * d), ()) = some (sc, lim V, top, lim R, out, u, i, (q : Int), lim (V * q), ()) := by
  have hlm := LM_val
  have hdm := Nat.div_add_mod R V
  have hml := Nat.mod_lt R hV
  have hlen : ∀ e : Nat, e < 1000000000 → (lim (V * e)).length ≤ (lim V).length + 1 := fun e he => lim_len_le (by
    have h1 := lim_lt V
    have h2 : (V : Int) * e ≤ V * 1000000000 := Int.mul_le_mul_of_nonneg_left (by omega) (by omega)
    rw [Int.natCast_mul]; simp only [bp]; omega)
  refine Exists.elim (iter_ok (fun (x12 : (Int × List Int × Int × List Int × List Int × List Int × Int × Int × List Int × Unit)) => swarfref01_parts_L2 k x12.1 x12.2.1 x12.2.2.1 x12.2.2.2.1 x12.2.2.2.2.1 x12.2.2.2.2.2.1 x12.2.2.2.2.2.2.1 x12.2.2.2.2.2.2.2.1 x12.2.2.2.2.2.2.2.2.1)
    (fun n s => s = (sc, lim V, top, lim R, out, u, i, (n : Int), lim (V * n), ()) ∧ q ≤ n ∧ n ≤ d) (fun x => x = (sc, lim V, top, lim R, out, u, i, (q : Int), lim (V * q), ())) ?_ k d (sc, lim V, top, lim R, out, u, i, (d : Int), lim (V * d), ()) (F.lt (m := 1) (by simp [bp]; omega) (by omega)) ⟨rfl, hqd, Nat.le_refl _⟩) ?_
  rotate_left
  · rintro x ⟨hx, rfl⟩; exact hx
  · rintro n s ⟨rfl, hqn, hnd⟩
    dsimp only
    unfold swarfref01_parts_L2
    rw [rcompare_ok (by have := hlen n (by omega); omega) hRl, Option.bind_some]
    by_cases hgt : R < V * n
    · left
      rw [cdec (cmpI_pos_iff.2 (by omega)), cond_true]
      have hqn' : q < n := by
        rcases Nat.lt_or_ge q n with h | h
        · exact h
        · have : V * n ≤ V * q := Nat.mul_le_mul_left _ h
          rw [hq] at this; omega
      obtain ⟨m, rfl⟩ : ∃ m, n = m + 1 := ⟨n - 1, by omega⟩
      have hge : V ≤ V * (m + 1) := Nat.le_mul_of_pos_right _ (by omega)
      have hsub : V * (m + 1) - V = V * m := by rw [Nat.mul_add, Nat.mul_one]; omega
      rw [rminus_ok (lim_dig _) (lim_dig _) (lim_len_mono hge) (by have := hlen (m + 1) (by omega); omega) (by rw [lim_val, lim_val]; omega), lim_val, lim_val, Option.bind_some]
      refine ⟨_, m, rfl, by omega, ?_, by omega, by omega⟩
      have e1 : (((V * (m + 1) : Nat) : Int) - (V : Int)).toNat = V * m := by omega
      rw [e1, wU64 (by omega) (by omega)]
      congr 9; omega
    · right
      rw [cdecF (fun h => hgt (by have := cmpI_pos_iff.1 h; omega)), cond_false]
      have : n = q := by
        have : n ≤ R / V := (Nat.le_div_iff_mul_le hV).2 (by rw [Nat.mul_comm]; omega)
        omega
      subst this
      exact ⟨_, rfl, rfl⟩
/-- One digit of the quotient. -/
theorem rparts_digit {k : Nat} [F : Fuel k] {sc top : Int} {V R d q : Nat} {out u : List Int} {i : Nat} (hV : 0 < V) (hVl : (lim V).length + 3 ≤ LM) (hRl : (lim R).length ≤ LM) (hq : q = R / V) (hqd : q ≤ d) (hd : d < 1000000000) (hi : i < out.length) (hol : out.length ≤ LM) :
    ((swarfref01_by k (lim V) (d : Int)).bind fun x8 =>
      (iter (fun (x12 : (Int × List Int × Int × List Int × List Int × List Int × Int × Int × List Int × Unit)) => swarfref01_parts_L2 k x12.1 x12.2.1 x12.2.2.1 x12.2.2.2.1 x12.2.2.2.2.1 x12.2.2.2.2.2.1 x12.2.2.2.2.2.2.1 x12.2.2.2.2.2.2.2.1 x12.2.2.2.2.2.2.2.2.1) k (sc, lim V, top, lim R, out, u, (i : Int), (d : Int), x8, ())).bind fun x11 =>
      (swarfref01_minus k x11.2.2.2.1 x11.2.2.2.2.2.2.2.2.1).bind fun x13 =>
      bif ixOk x11.2.2.2.2.2.2.1 x11.2.2.2.2.1.length then
        some (Sum.inl (x11.1, x11.2.1, x11.2.2.1, x13, (x11.2.2.2.2.1.set x11.2.2.2.2.2.2.1.toNat (IntKind.u32.wrap (x11.2.2.2.2.2.2.2.1))), x11.2.2.2.2.2.1, IntKind.i64.wrap (x11.2.2.2.2.2.2.1 - 1), ()))
      else
        none) = some (Sum.inl (sc, lim V, top, lim (R % V), out.set i (q : Int), u, (i : Int) - 1, ()) : (Int × List Int × Int × List Int × List Int × List Int × Int × Unit) ⊕ (Int × List Int × List Int × Unit)) := by
  have hlm := LM_val
  have hdm := Nat.div_add_mod R V
  rw [← hq] at hdm
  have e1 : (val (lim V) * (d : Int)).toNat = V * d := by
    rw [lim_val]; have : ((V * d : Nat) : Int) = (V : Int) * d := Int.natCast_mul V d
    omega
  rw [rby_ok (lim_dig V) hd (by omega), e1, Option.bind_some, rparts_fix hV hVl hRl hq hqd hd, Option.bind_some]
  dsimp only
  have hle : V * q ≤ R := by omega
  rw [rminus_ok (lim_dig _) (lim_dig _) (lim_len_mono hle) hRl (by rw [lim_val, lim_val]; omega), lim_val, lim_val, Option.bind_some, ixOk_of (by omega) (by omega), cond_true, Int.toNat_natCast, wI64 (by omega) (by omega), wU32 (by omega) (by omega)]
  have e2 : ((R : Int) - ((V * q : Nat) : Int)).toNat = R % V := by omega
  rw [e2]
/-- The estimate out of the leading limbs. -/
theorem rparts_est {V R h q : Nat} {n : Nat} (hq : q = R / V) (hn : (lim V).length = n + 1) (hR : (R : Int) < (h + 1) * bp n) (htop : 0 < (lim V).getD n 0) : (q : Int) ≤ (h : Int) / (lim V).getD n 0 := by
  have h1 := val_split (lim V) n (by omega)
  rw [lim_val, val_drop _ n (by omega), List.drop_of_length_le (by omega)] at h1
  have h2 := val_nonneg ((lim_dig V).take n)
  have h3 : V * q ≤ R := by rw [hq]; exact Nat.mul_div_le R V
  simp only [val, Int.mul_zero, Int.add_zero] at h1
  refine guess_start (PB := bp n) (v := (V : Int)) (u := (R : Int)) (bp_pos n) htop ?_ (by grind) hR (by omega)
  have : ((q * V : Nat) : Int) ≤ R := by rw [Nat.mul_comm]; omega
  rwa [Int.natCast_mul] at this
theorem lim_cons (x : Int) (h0 : 0 ≤ x) (h1 : x < 1000000000) (R : Nat) : (val ([x] ++ lim R)).toNat = x.toNat + 1000000000 * R := by
  rw [List.singleton_append]; simp only [val]; rw [lim_val]; omega
theorem rparts_loop {k : Nat} [F : Fuel k] {sc : Int} {V : Nat} {u : List Int} (hV : 0 < V) (hVl : (lim V).length + 3 ≤ LM) (hu : Dig u) (hul : u.length + 3 ≤ LM) (hVu : (lim V).length + u.length + 5 ≤ LM) :
    ∃ x, iter (fun (x57 : (Int × List Int × Int × List Int × List Int × List Int × Int × Unit)) => swarfref01_parts_L0 k x57.1 x57.2.1 x57.2.2.1 x57.2.2.2.1 x57.2.2.2.2.1 x57.2.2.2.2.2.1 x57.2.2.2.2.2.2.1) k (sc, lim V, (lim V).getD ((lim V).length - 1) 0, [], List.replicate u.length 0, u, (u.length : Int) - 1, ()) = some x ∧
      ∃ R out, x = (sc, lim R, out, ()) ∧ Dig out ∧ out.length = u.length ∧ R < V ∧ val u = V * val out + R := by
  have hlm := LM_val
  obtain ⟨n, hn⟩ : ∃ n, (lim V).length = n + 1 := ⟨(lim V).length - 1, by have := lim_length_pos.2 hV; omega⟩
  have htop0 := (lim_dig V).getD n
  have htop1 := lim_top hV
  rw [hn, Nat.add_sub_cancel] at htop1
  have hVlt := lim_lt V
  rw [hn] at hVlt
  rw [hn, Nat.add_sub_cancel]
  refine iter_ok _ (fun m s => ∃ (R : Nat) (out : List Int), m ≤ u.length ∧ s = (sc, lim V, (lim V).getD n 0, lim R, out, u, (m : Int) - 1, ()) ∧ Dig out ∧ out.length = u.length ∧ R < V ∧ val (u.drop m) = V * val (out.drop m) + R) _ ?_ k u.length _ (F.len (by omega)) ⟨0, _, Nat.le_refl _, by rw [lim_zero], Dig.replicate _, by simp, hV, by simp [val]⟩
  rintro m s ⟨R, out, hm, rfl, hod, hol, hR, hv⟩
  dsimp only
  unfold swarfref01_parts_L0
  by_cases h0 : m = 0
  · right
    subst h0
    exact ⟨_, by rw [cdecF (by omega), cond_false], R, out, rfl, hod, hol, hR, by simpa using hv⟩
  · left
    obtain ⟨i, rfl⟩ : ∃ i, m = i + 1 := ⟨m - 1, by omega⟩
    have e0 : ((i + 1 : Nat) : Int) - 1 = i := by omega
    have hx := hu.getD i
    have hRl : (lim R).length ≤ n + 1 := lim_len_le (by omega)
    rw [e0, cdec (by omega), cond_true, ixOk_of (by omega) (by omega), cond_true, Int.toNat_natCast, cdec (by simp; omega), cond_true]
    rw [rtrim_ok ((Dig.cons hx.1 hx.2 Dig.nil).append (lim_dig R)) (by simp; omega), Option.bind_some, lim_cons _ hx.1 hx.2]
    obtain ⟨R', hR'⟩ : ∃ R', R' = (u.getD i 0).toNat + 1000000000 * R := ⟨_, rfl⟩
    rw [← hR']
    have hR'lt : R' < 1000000000 * V := by omega
    have hR'l : (lim R').length ≤ n + 2 := lim_len_le (by simp only [bp]; simp only [bp] at hVlt; omega)
    obtain ⟨q, hqq⟩ : ∃ q, q = R' / V := ⟨_, rfl⟩
    have hq : q < 1000000000 := by rw [hqq]; exact Nat.div_lt_of_lt_mul (by rw [Nat.mul_comm]; exact hR'lt)
    have hd1 := (lim_dig R').getD (n + 1)
    have hd2 := (lim_dig R').getD n
    have w0 : IntKind.i64.wrap (((n + 1 : Nat) : Int) - 1) = (n : Int) := by rw [wI64 (by omega) (by omega)]; omega
    have w1 : IntKind.u64.wrap ((lim R').getD (n + 1) 0) = (lim R').getD (n + 1) 0 := wU64 (by omega) (by omega)
    have w2 : IntKind.u64.wrap ((lim R').getD n 0) = (lim R').getD n 0 := wU64 (by omega) (by omega)
    have w3 : IntKind.u64.wrap ((lim R').getD (n + 1) 0 * 1000000000) = (lim R').getD (n + 1) 0 * 1000000000 := wU64 (by omega) (by omega)
    have w4 : IntKind.u64.wrap ((lim R').getD (n + 1) 0 * 1000000000 + (lim R').getD n 0) = (lim R').getD (n + 1) 0 * 1000000000 + (lim R').getD n 0 := wU64 (by omega) (by omega)
    have t0 : ((lim V).getD n 0 == 0) = false := beq_eq_false_iff_ne.2 htop1
    have fin : ∃ s' m', some (Sum.inl (sc, lim V, (lim V).getD n 0, lim (R' % V), out.set i (q : Int), u, (i : Int) - 1, ())) = some (Sum.inl s' : (Int × List Int × Int × List Int × List Int × List Int × Int × Unit) ⊕ (Int × List Int × List Int × Unit)) ∧ m' < i + 1 ∧
        ∃ (R : Nat) (out : List Int), m' ≤ u.length ∧ s' = (sc, lim V, (lim V).getD n 0, lim R, out, u, (m' : Int) - 1, ()) ∧ Dig out ∧ out.length = u.length ∧ R < V ∧ val (u.drop m') = V * val (out.drop m') + R := by
      refine ⟨_, i, rfl, by omega, R' % V, _, by omega, rfl, hod.set _ (by omega) (by omega), by simp [hol], Nat.mod_lt _ hV, ?_⟩
      rw [val_drop u i (by omega), hv, val_drop _ i (by simp; omega), getD_set _ _ _ _ (by omega), if_pos rfl]
      have e1 : (out.set i (q : Int)).drop (i + 1) = out.drop (i + 1) := by rw [List.drop_set]; simp
      rw [e1]
      have e2 : ((R' : Nat) : Int) = u.getD i 0 + 1000000000 * R := by omega
      have e3 : (R' : Int) = V * (q : Int) + ((R' % V : Nat) : Int) := by
        have := Nat.div_add_mod R' V
        rw [← hqq] at this
        have h2 := congrArg (Nat.cast (R := Int)) this
        rw [Int.natCast_add, Int.natCast_mul] at h2; exact h2.symm
      generalize (q : Int) = a at e3 ⊢
      generalize ((R' % V : Nat) : Int) = b at e3 ⊢
      grind
    -- whatever the estimate is, cut to a limb
    have cut : ∀ g : Int, 0 ≤ g → g ≤ 18446744073709551615 → (q : Int) ≤ g → ∀ A B : Option ((Int × List Int × Int × List Int × List Int × List Int × Int × Unit) ⊕ (Int × List Int × List Int × Unit)),
        (∀ d : Nat, d = 999999999 → A = ((swarfref01_by k (lim V) (d : Int)).bind fun x8 =>
      (iter (fun (x12 : (Int × List Int × Int × List Int × List Int × List Int × Int × Int × List Int × Unit)) => swarfref01_parts_L2 k x12.1 x12.2.1 x12.2.2.1 x12.2.2.2.1 x12.2.2.2.2.1 x12.2.2.2.2.2.1 x12.2.2.2.2.2.2.1 x12.2.2.2.2.2.2.2.1 x12.2.2.2.2.2.2.2.2.1) k (sc, lim V, (lim V).getD n 0, lim R', out, u, (i : Int), (d : Int), x8, ())).bind fun x11 =>
      (swarfref01_minus k x11.2.2.2.1 x11.2.2.2.2.2.2.2.2.1).bind fun x13 =>
      bif ixOk x11.2.2.2.2.2.2.1 x11.2.2.2.2.1.length then
        some (Sum.inl (x11.1, x11.2.1, x11.2.2.1, x13, (x11.2.2.2.2.1.set x11.2.2.2.2.2.2.1.toNat (IntKind.u32.wrap (x11.2.2.2.2.2.2.2.1))), x11.2.2.2.2.2.1, IntKind.i64.wrap (x11.2.2.2.2.2.2.1 - 1), ()))
      else
        none)) →
        (∀ d : Nat, (d : Int) = g → d < 1000000000 → B = ((swarfref01_by k (lim V) (d : Int)).bind fun x8 =>
      (iter (fun (x12 : (Int × List Int × Int × List Int × List Int × List Int × Int × Int × List Int × Unit)) => swarfref01_parts_L2 k x12.1 x12.2.1 x12.2.2.1 x12.2.2.2.1 x12.2.2.2.2.1 x12.2.2.2.2.2.1 x12.2.2.2.2.2.2.1 x12.2.2.2.2.2.2.2.1 x12.2.2.2.2.2.2.2.2.1) k (sc, lim V, (lim V).getD n 0, lim R', out, u, (i : Int), (d : Int), x8, ())).bind fun x11 =>
      (swarfref01_minus k x11.2.2.2.1 x11.2.2.2.2.2.2.2.2.1).bind fun x13 =>
      bif ixOk x11.2.2.2.2.2.2.1 x11.2.2.2.2.1.length then
        some (Sum.inl (x11.1, x11.2.1, x11.2.2.1, x13, (x11.2.2.2.2.1.set x11.2.2.2.2.2.2.1.toNat (IntKind.u32.wrap (x11.2.2.2.2.2.2.2.1))), x11.2.2.2.2.2.1, IntKind.i64.wrap (x11.2.2.2.2.2.2.1 - 1), ()))
      else
        none)) → (bif decide (g > 999999999) then A else B) = some (Sum.inl (sc, lim V, (lim V).getD n 0, lim (R' % V), out.set i (q : Int), u, (i : Int) - 1, ())) := by
      intro g g0 g1 g2 A B hA hB
      by_cases hg : g > 999999999
      · rw [cdec hg, cond_true, hA 999999999 rfl]
        exact rparts_digit hV hVl (by omega) hqq (by omega) (by omega) (by omega) (by omega)
      · rw [cdecF hg, cond_false, hB g.toNat (by omega) (by omega)]
        exact rparts_digit hV hVl (by omega) hqq (by omega) (by omega) (by omega) (by omega)
    by_cases hl2 : (lim R').length = n + 2
    · -- as long as the divisor and one limb more
      have ht := top2 (m := n) hl2
      rw [lim_val] at ht
      have ht1 := val_lt ((lim_dig R').take n)
      rw [List.length_take, Nat.min_eq_left (by omega)] at ht1
      have hest := rparts_est (V := V) (R := R') hqq (h := ((lim R').getD (n + 1) 0 * 1000000000 + (lim R').getD n 0).toNat) hn (by rw [Int.toNat_of_nonneg (by omega)]; grind) (by omega)
      rw [Int.toNat_of_nonneg (by omega)] at hest
      have q0 : 0 ≤ ((lim R').getD (n + 1) 0 * 1000000000 + (lim R').getD n 0) / (lim V).getD n 0 := Int.ediv_nonneg (by omega) (by omega)
      have q1 : ((lim R').getD (n + 1) 0 * 1000000000 + (lim R').getD n 0) / (lim V).getD n 0 ≤ (lim R').getD (n + 1) 0 * 1000000000 + (lim R').getD n 0 := Int.ediv_le_self _ (by omega)
      have w5 : IntKind.u64.wrap (((lim R').getD (n + 1) 0 * 1000000000 + (lim R').getD n 0) / (lim V).getD n 0) = ((lim R').getD (n + 1) 0 * 1000000000 + (lim R').getD n 0) / (lim V).getD n 0 := wU64 (by omega) (by omega)
      rw [hn, cdec (by omega), cond_true, ixOk_of (by omega) (by omega), cond_true, cdec (by omega), cond_true, w0, ixOk_of (by omega) (by omega), cond_true, t0, cond_false]
      simp only [Int.toNat_natCast, w1, w2, w3, w4]
      rw [Int.tdiv_eq_ediv_of_nonneg (by omega), w5]
      obtain ⟨s', m', f1, f2⟩ := fin
      refine ⟨s', m', (cut _ q0 (by omega) hest _ _ ?_ ?_).trans f1, f2⟩
      · rintro d rfl; rfl
      · intro d hd hd2
        rw [← hd, wU32 (by omega) (by omega)]; rfl
    · by_cases hl1 : (lim R').length = n + 1
      · have ht := val_split (lim R') n (by omega)
        rw [lim_val, val_drop _ n (by omega), List.drop_of_length_le (by omega)] at ht
        simp only [val, Int.mul_zero, Int.add_zero] at ht
        have ht1 := val_lt ((lim_dig R').take n)
        rw [List.length_take, Nat.min_eq_left (by omega)] at ht1
        have hest := rparts_est (V := V) (R := R') hqq (h := ((lim R').getD n 0).toNat) hn (by rw [Int.toNat_of_nonneg (by omega)]; grind) (by omega)
        rw [Int.toNat_of_nonneg (by omega)] at hest
        have q0 : 0 ≤ (lim R').getD n 0 / (lim V).getD n 0 := Int.ediv_nonneg (by omega) (by omega)
        have q1 : (lim R').getD n 0 / (lim V).getD n 0 ≤ (lim R').getD n 0 := Int.ediv_le_self _ (by omega)
        have w5 : IntKind.u64.wrap ((lim R').getD n 0 / (lim V).getD n 0) = (lim R').getD n 0 / (lim V).getD n 0 := wU64 (by omega) (by omega)
        rw [hn, cdecF (by omega), cond_false, cdec (by omega), cond_true, w0, ixOk_of (by omega) (by omega), cond_true, t0, cond_false]
        simp only [Int.toNat_natCast, w2, Int.zero_add]
        rw [Int.tdiv_eq_ediv_of_nonneg (by omega), w5]
        obtain ⟨s', m', f1, f2⟩ := fin
        refine ⟨s', m', (cut _ q0 (by omega) hest _ _ ?_ ?_).trans f1, f2⟩
        · rintro d rfl; rfl
        · intro d hd hd2
          rw [← hd, wU32 (by omega) (by omega)]; rfl
      · have hRV : q = 0 := by rw [hqq]; exact Nat.div_eq_of_lt (by
          have h1 := lim_len_le_iff.1 (show (lim R').length ≤ n by omega)
          have h2 := lim_ge hV
          rw [hn, Nat.add_sub_cancel] at h2; omega)
        have w5 : IntKind.u64.wrap ((0 : Int).tdiv ((lim V).getD n 0)) = 0 := by rw [Int.zero_tdiv]; rfl
        rw [hn, cdecF (by omega), cond_false, cdecF (by omega), cond_false, t0, cond_false, w5]
        obtain ⟨s', m', f1, f2⟩ := fin
        refine ⟨s', m', (cut 0 (by omega) (by omega) (by omega) _ _ ?_ ?_).trans f1, f2⟩
        · rintro d rfl; rfl
        · intro d hd hd2
          have : d = 0 := by omega
          subst this; rfl
end
/-! ## Plain laws: the reference's whole numbers, joined. -/
section
open Go
set_option linter.unusedVariables false
set_option linter.unusedSimpArgs false

theorem rback_loop {k : Nat} [F : Fuel k] {sc : Int} {r out : List Int} (hs0 : 0 < sc) (hs1 : sc < 1000000000) (hr : Dig r) (hl : r.length ≤ LM) :
    ∃ last c, iter (fun (x59 : (Int × List Int × List Int × Int × List Int × Int × Unit)) => swarfref01_parts_L4 k x59.1 x59.2.1 x59.2.2.1 x59.2.2.2.1 x59.2.2.2.2.1 x59.2.2.2.2.2.1) k (sc, r, out, 0, (List.replicate (r.length : Int).toNat (0 : Int)), IntKind.i64.wrap ((r.length : Int) - 1), ()) = some (out, last, ()) ∧ Dig last ∧ last.length = r.length ∧ 0 ≤ c ∧ c < sc ∧ val r = sc * val last + c := by
  have hlm := LM_val
  refine Exists.elim (iter_ok (fun (x59 : (Int × List Int × List Int × Int × List Int × Int × Unit)) => swarfref01_parts_L4 k x59.1 x59.2.1 x59.2.2.1 x59.2.2.2.1 x59.2.2.2.2.1 x59.2.2.2.2.2.1)
    (fun n s => ∃ (q : List Int) (c : Int), n ≤ r.length ∧ s = (sc, r, out, c, q, (n : Int) - 1, ()) ∧ Dig q ∧ q.length = r.length ∧ 0 ≤ c ∧ c < sc ∧ val (r.drop n) = sc * val (q.drop n) + c)
    (fun x => ∃ q c, x = (out, q, ()) ∧ Dig q ∧ q.length = r.length ∧ 0 ≤ c ∧ c < sc ∧ val r = sc * val q + c) ?_ k r.length (sc, r, out, 0, (List.replicate (r.length : Int).toNat (0 : Int)), IntKind.i64.wrap ((r.length : Int) - 1), ()) (F.len hl) ⟨_, 0, Nat.le_refl _, by rw [wI64 (by omega) (by omega)], Dig.replicate _, by simp, by simp, hs0, by simp [val]⟩) ?_
  rotate_left
  · rintro x ⟨hx, q, c, rfl, h⟩
    exact ⟨q, c, hx, h⟩
  · rintro n s ⟨q, c, hn, rfl, hq, hql, hc0, hc1, hv⟩
    dsimp only
    unfold swarfref01_parts_L4
    by_cases h0 : n = 0
    · right
      subst h0
      exact ⟨_, by rw [cdecF (by omega), cond_false], q, c, rfl, hq, hql, hc0, hc1, by simpa using hv⟩
    · left
      obtain ⟨m, rfl⟩ : ∃ m, n = m + 1 := ⟨n - 1, by omega⟩
      have e0 : ((m + 1 : Nat) : Int) - 1 = m := by omega
      have hx := hr.getD m
      have w1 : IntKind.u64.wrap sc = sc := wU64 (by omega) (by omega)
      have w2 : (sc == 0) = false := beq_eq_false_iff_ne.2 (by omega)
      have w3 : IntKind.u64.wrap (c * 1000000000) = c * 1000000000 := wU64 (by omega) (by omega)
      have w4 : IntKind.u64.wrap (r.getD m 0) = r.getD m 0 := wU64 (by omega) (by omega)
      have w5 : IntKind.u64.wrap (c * 1000000000 + r.getD m 0) = c * 1000000000 + r.getD m 0 := wU64 (by omega) (by omega)
      have w6 : IntKind.i64.wrap ((m : Int) - 1) = (m : Int) - 1 := wI64 (by omega) (by omega)
      rw [e0, cdec (by omega), cond_true, ixOk_of (by omega) (by omega), cond_true, ixOk_of (i := (m : Int)) (n := q.length) (by omega) (by omega), cond_true]
      simp only [w1, w2, w3, w4, w5, w6, cond_false, Int.toNat_natCast]
      generalize ht : c * 1000000000 + r.getD m 0 = t
      have t0 : 0 ≤ t := by omega
      have d1 := Int.mul_ediv_add_emod t sc
      have d2 := Int.emod_nonneg t (show sc ≠ 0 by omega)
      have d3 := Int.emod_lt_of_pos t hs0
      have d4 : 0 ≤ t / sc := Int.ediv_nonneg t0 (by omega)
      have d5 : t / sc < 1000000000 := by
        apply Int.ediv_lt_of_lt_mul hs0
        rw [Int.mul_comm]; omega
      rw [Int.tmod_eq_emod_of_nonneg t0, Int.tdiv_eq_ediv_of_nonneg t0, wU64 d4 (by omega), wU32 d4 (by omega)]
      refine ⟨_, m, rfl, by omega, _, _, by omega, rfl, hq.set _ d4 d5, by simp [hql], d2, d3, ?_⟩
      rw [val_drop r m (by omega), hv, val_drop _ m (by simp; omega), getD_set _ _ _ _ (by omega), if_pos rfl]
      have : (q.set m (t / sc)).drop (m + 1) = q.drop (m + 1) := by rw [List.drop_set]; simp
      rw [this]
      generalize t / sc = d at *
      generalize t % sc = e at *
      grind
theorem rparts_ok {k : Nat} [F : Fuel k] {A D : Nat} (hD : 0 < D) (hA : (lim A).length + (lim D).length + 10 ≤ LM) : swarfref01_parts k (lim A) (lim D) = some (lim (A / D), lim (A % D)) := by
  have hlm := LM_val
  have hDl := lim_length_pos.2 hD
  have hlong : ∀ X : Option (List Int × List Int), X = (bif ixOk (IntKind.i64.wrap (((lim D).length : Int) - 1)) (lim D).length then
        bif (IntKind.u64.wrap ((IntKind.u64.wrap (((lim D).getD (IntKind.i64.wrap (((lim D).length : Int) - 1)).toNat 0))) + 1)) == 0 then
          none
        else
          (swarfref01_by k (lim D) (IntKind.u32.wrap (IntKind.u64.wrap ((1000000000 : Int).tdiv (IntKind.u64.wrap ((IntKind.u64.wrap (((lim D).getD (IntKind.i64.wrap (((lim D).length : Int) - 1)).toNat 0))) + 1)))))).bind fun x5 =>
          bif ixOk (IntKind.i64.wrap ((x5.length : Int) - 1)) x5.length then
            bif (decide (0 ≤ IntKind.i64.wrap (((lim A).length : Int) + 1))) && (decide (IntKind.i64.wrap (((lim A).length : Int) + 1) ≤ IntKind.i64.wrap (((lim A).length : Int) + 1)) && decide ((IntKind.i64.wrap (((lim A).length : Int) + 1)) * ((4 : Nat) : Int) ≤ 281474976710656)) then
              (swarfref01_by k (lim A) (IntKind.u32.wrap (IntKind.u64.wrap ((1000000000 : Int).tdiv (IntKind.u64.wrap ((IntKind.u64.wrap (((lim D).getD (IntKind.i64.wrap (((lim D).length : Int) - 1)).toNat 0))) + 1)))))).bind fun x6 =>
              bif sliceOk (List.replicate (IntKind.i64.wrap (((lim A).length : Int) + 1)).toNat (0 : Int)).length none (some (x6.length : Int)) none then
                (iter (fun (x57 : (Int × List Int × Int × List Int × List Int × List Int × Int × Unit)) => swarfref01_parts_L0 k x57.1 x57.2.1 x57.2.2.1 x57.2.2.2.1 x57.2.2.2.2.1 x57.2.2.2.2.2.1 x57.2.2.2.2.2.2.1) k (IntKind.u32.wrap (IntKind.u64.wrap ((1000000000 : Int).tdiv (IntKind.u64.wrap ((IntKind.u64.wrap (((lim D).getD (IntKind.i64.wrap (((lim D).length : Int) - 1)).toNat 0))) + 1)))), x5, IntKind.u64.wrap ((x5.getD (IntKind.i64.wrap ((x5.length : Int) - 1)).toNat 0)), [], ((List.replicate (IntKind.i64.wrap (((lim A).length : Int) + 1)).toNat (0 : Int)).take (x6.length : Int).toNat), x6, IntKind.i64.wrap ((x6.length : Int) - 1), ())).bind fun x56 =>
                bif (decide (0 ≤ (x56.2.1.length : Int))) && (decide ((x56.2.1.length : Int) ≤ (x56.2.1.length : Int)) && decide ((x56.2.1.length : Int) * ((4 : Nat) : Int) ≤ 281474976710656)) then
                  (iter (fun (x59 : (Int × List Int × List Int × Int × List Int × Int × Unit)) => swarfref01_parts_L4 k x59.1 x59.2.1 x59.2.2.1 x59.2.2.2.1 x59.2.2.2.2.1 x59.2.2.2.2.2.1) k (x56.1, x56.2.1, x56.2.2.1, 0, (List.replicate (x56.2.1.length : Int).toNat (0 : Int)), IntKind.i64.wrap ((x56.2.1.length : Int) - 1), ())).bind fun x58 =>
                  (swarfref01_trim k x58.1).bind fun x60 =>
                  (swarfref01_trim k x58.2.1).bind fun x61 =>
                  some (x60, x61)
                else
                  none
              else
                none
            else
              none
          else
            none
      else
        none) → X = some (lim (A / D), lim (A % D)) := by
    rintro X rfl
    have w1 : IntKind.i64.wrap (((lim D).length : Int) - 1) = (((lim D).length - 1 : Nat) : Int) := by rw [wI64 (by omega) (by omega)]; omega
    have hb := (lim_dig D).getD ((lim D).length - 1)
    have hb0 := lim_top hD
    rw [w1, ixOk_of (by omega) (by omega), cond_true, Int.toNat_natCast]
    generalize (lim D).getD ((lim D).length - 1) 0 = B1 at *
    have w2 : IntKind.u64.wrap B1 = B1 := wU64 (by omega) (by omega)
    have w3 : IntKind.u64.wrap (B1 + 1) = B1 + 1 := wU64 (by omega) (by omega)
    have w4 : (B1 + 1 == 0) = false := beq_eq_false_iff_ne.2 (by omega)
    obtain ⟨sc, hsc⟩ : ∃ sc : Int, sc = 1000000000 / (B1 + 1) := ⟨_, rfl⟩
    have sc1 : 1 ≤ sc := by rw [hsc]; exact Int.le_ediv_of_mul_le (by omega) (by omega)
    have sc2 : sc ≤ 1000000000 := by rw [hsc]; exact Int.ediv_le_self _ (by omega)
    have w5 : (1000000000 : Int).tdiv (B1 + 1) = sc := by rw [Int.tdiv_eq_ediv_of_nonneg (by omega), hsc]
    have w6 : IntKind.u32.wrap (IntKind.u64.wrap sc) = sc := by rw [wU64 (by omega) (by omega), wU32 (by omega) (by omega)]
    simp only [w2, w3, w4, w5, w6, cond_false]
    by_cases hsm : sc < 1000000000
    · obtain ⟨c, rfl⟩ : ∃ c : Nat, sc = c := ⟨sc.toNat, by omega⟩
      have e1 : ((D : Int) * (c : Int)).toNat = D * c := by have := Int.natCast_mul D c; omega
      have e2 : ((A : Int) * (c : Int)).toNat = A * c := by have := Int.natCast_mul A c; omega
      rw [rby_ok (lim_dig D) (by omega) (by omega), lim_val, e1, Option.bind_some]
      have hDc : 0 < D * c := Nat.mul_pos hD (by omega)
      have hDcl := lim_length_pos.2 hDc
      have hup : ∀ x : Nat, (lim (x * c)).length ≤ (lim x).length + 1 := fun x => lim_len_le (by
        have h1 := lim_lt x
        have h2 : (x : Int) * c ≤ x * 1000000000 := Int.mul_le_mul_of_nonneg_left (by omega) (by omega)
        rw [Int.natCast_mul]; simp only [bp]; omega)
      have h1 := hup D
      have h2 := hup A
      have w7 : IntKind.i64.wrap (((lim (D * c)).length : Int) - 1) = (((lim (D * c)).length - 1 : Nat) : Int) := by rw [wI64 (by omega) (by omega)]; omega
      have w8 : IntKind.i64.wrap (((lim A).length : Int) + 1) = (((lim A).length + 1 : Nat) : Int) := by rw [wI64 (by omega) (by omega)]; omega
      have hd := (lim_dig (D * c)).getD ((lim (D * c)).length - 1)
      have w9 : IntKind.u64.wrap ((lim (D * c)).getD ((lim (D * c)).length - 1) 0) = (lim (D * c)).getD ((lim (D * c)).length - 1) 0 := wU64 (by omega) (by omega)
      have w10 : IntKind.i64.wrap (((lim (A * c)).length : Int) - 1) = ((lim (A * c)).length : Int) - 1 := wI64 (by omega) (by omega)
      rw [w7, ixOk_of (by omega) (by omega), cond_true, w8, make_ok (by omega), cond_true, rby_ok (lim_dig A) (by omega) (by omega), lim_val, e2, Option.bind_some]
      have s1 : sliceOk ((List.replicate ((((lim A).length + 1 : Nat) : Int).toNat) (0 : Int)).length : Int) none (some ((lim (A * c)).length : Int)) none = true := by simp [sliceOk]; omega
      have t1 : (List.replicate ((((lim A).length + 1 : Nat) : Int).toNat) (0 : Int)).take ((lim (A * c)).length : Int).toNat = List.replicate (lim (A * c)).length 0 := by
        rw [Int.toNat_natCast, Int.toNat_natCast, List.take_replicate, Nat.min_eq_left (by omega)]
      rw [s1, cond_true, t1, Int.toNat_natCast, w9, w10]
      obtain ⟨x, hx, R, out, rfl, f1, f2, f3, f4⟩ := rparts_loop (k := k) (sc := (c : Int)) hDc (by omega) (lim_dig (A * c)) (by omega) (by omega)
      rw [hx, Option.bind_some]
      dsimp only
      have hRl : (lim R).length ≤ (lim (D * c)).length := lim_len_mono (by omega)
      obtain ⟨last, r, hlast, g1, g2, g3, g4, g5⟩ := rback_loop (k := k) (sc := (c : Int)) (r := lim R) (out := out) (by omega) (by omega) (lim_dig R) (by omega)
      rw [make_ok (by omega), cond_true, hlast, Option.bind_some]
      dsimp only
      rw [rtrim_ok f1 (by omega), Option.bind_some, rtrim_ok g1 (by omega), Option.bind_some]
      have o0 := val_nonneg f1
      have l0 := val_nonneg g1
      obtain ⟨q, hq⟩ : ∃ q : Nat, val out = q := ⟨(val out).toNat, by omega⟩
      obtain ⟨z, hz⟩ : ∃ z : Nat, val last = z := ⟨(val last).toNat, by omega⟩
      rw [lim_val, hq, ← Int.natCast_mul, ← Int.natCast_add] at f4
      have f5 : A * c = D * c * q + R := by omega
      rw [lim_val, hz] at g5
      have hr0 : r = 0 ∧ z + D * q = A := by
        have k1 : r = c * ((A : Int) - D * q - z) := by
          have k2 := congrArg (Nat.cast (R := Int)) f5
          simp only [Int.natCast_add, Int.natCast_mul] at k2
          grind
        have k3 : (A : Int) - D * q - z = 0 := by
          rcases Int.lt_trichotomy ((A : Int) - D * q - z) 0 with k4 | k4 | k4
          · have : (c : Int) * ((A : Int) - D * q - z) ≤ c * (-1) := Int.mul_le_mul_of_nonneg_left (by omega) (by omega)
            omega
          · exact k4
          · have : (c : Int) * 1 ≤ c * ((A : Int) - D * q - z) := Int.mul_le_mul_of_nonneg_left (by omega) (by omega)
            omega
        rw [k3, Int.mul_zero] at k1
        refine ⟨k1, ?_⟩
        have : ((z + D * q : Nat) : Int) = A := by rw [Int.natCast_add, Int.natCast_mul]; omega
        omega
      have hzD : z < D := by
        have k1 : c * z < c * D := by
          have k2 : (R : Int) = ((c * z : Nat) : Int) := by rw [Int.natCast_mul]; omega
          have k3 : R = c * z := by omega
          rw [← k3, Nat.mul_comm c D]; exact f3
        exact Nat.lt_of_mul_lt_mul_left k1
      have hA' : A = z + D * q := hr0.2.symm
      have a1 : A / D = q := by rw [hA', Nat.add_mul_div_left _ _ hD, Nat.div_eq_of_lt hzD]; omega
      have a2 : A % D = z := by rw [hA', Nat.add_mul_mod_self_left, Nat.mod_eq_of_lt hzD]
      rw [a1, a2, hq, hz, Int.toNat_natCast, Int.toNat_natCast]
    · -- the leading limb is never 0
      exfalso
      have : sc * 2 ≤ 1000000000 := by
        have k1 : sc * (B1 + 1) ≤ 1000000000 := by rw [hsc]; exact Int.ediv_mul_le _ (by omega)
        have k2 : sc * 2 ≤ sc * (B1 + 1) := Int.mul_le_mul_of_nonneg_left (by omega) (by omega)
        omega
      omega
  unfold swarfref01_parts
  by_cases h1 : ((lim A).length : Int) ≤ 2
  · by_cases h2 : ((lim D).length : Int) ≤ 2
    · rw [cdec h1, cond_true, cdec h2, cond_true, rshort_lim (by omega), rshort_lim (by omega), Option.bind_some, Option.bind_some, beq_eq_false_iff_ne.2 (by omega), cond_false]
      have s1 := small_lt (x := A) (by omega)
      have s2 := small_lt (x := D) (by omega)
      rw [Int.tdiv_eq_ediv_of_nonneg (by omega), Int.tmod_eq_emod_of_nonneg (by omega)]
      have e1 : (A : Int) / (D : Int) = ((A / D : Nat) : Int) := by simp
      have e2 : (A : Int) % (D : Int) = ((A % D : Nat) : Int) := by simp
      have hle := Nat.div_le_self A D
      have hlt := Nat.mod_lt A hD
      rw [e1, e2]
      generalize A / D = q at *
      generalize A % D = r at *
      rw [wU64 (by omega) (by omega), rlimbs_ok (by omega), rlimbs_ok (by omega)]; rfl
    · rw [cdec h1, cond_true, cdecF h2, cond_false]
      exact hlong _ rfl
  · rw [cdecF h1, cond_false]
    exact hlong _ rfl
end
end Go.Proofs.YtbjkpogfgijmaaaGreat
