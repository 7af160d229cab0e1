/- Plain laws: whole square roots of the program and the reference (chapter 48), distances. -/
import Derived.Test.YtbjkpogfgijmaaaGreatLa0
import Derived.Test.YtbjkpogfgijmaaaGreatTh12
namespace Go.Proofs.YtbjkpogfgijmaaaGreat
open Go
set_option linter.unusedVariables false
set_option linter.unusedSimpArgs false

/-- The square root of a number, rounded down. -/
def isq (n : Int) : Int := ((Nat.sqrt n.toNat : Nat) : Int)
theorem isq_nonneg (n : Int) : 0 ≤ isq n := by unfold isq; omega
theorem isq_sq {n : Int} (h : 0 ≤ n) : isq n * isq n ≤ n ∧ n < (isq n + 1) * (isq n + 1) := by
  have h1 := Nat.sqrt_le n.toNat
  have h2 := Nat.lt_succ_sqrt n.toNat
  unfold isq
  have e : (n.toNat : Int) = n := by omega
  generalize Nat.sqrt n.toNat = r at *
  have h1' : ((r * r : Nat) : Int) ≤ (n.toNat : Int) := by omega
  have h2' : (n.toNat : Int) < (((r + 1) * (r + 1) : Nat) : Int) := by
    have : r.succ = r + 1 := rfl
    rw [this] at h2; omega
  rw [Int.natCast_mul] at h1' h2'
  rw [Int.natCast_add] at h2'
  rw [e] at h1' h2'
  exact ⟨h1', h2'⟩
theorem sq_lt_of {x y : Int} (h1 : 0 ≤ x) (h2 : x < y) : x * x < y * y := by
  have a := Int.mul_le_mul_of_nonneg_left (show x ≤ y by omega) h1
  have b := Int.mul_lt_mul_of_pos_right h2 (show 0 < y by omega)
  omega
theorem le_of_sq {x y : Int} (hy : 0 ≤ y) (h : x * x ≤ y * y) : x ≤ y := by
  rcases ilt_or_ge y x with g | g
  rotate_left
  · exact g
  · have := sq_lt_of hy g; omega
theorem lt_of_sq {x y : Int} (hy : 0 ≤ y) (h : x * x < y * y) : x < y := by
  rcases ilt_or_ge x y with g | g
  · exact g
  · have := sq_le hy g; omega
theorem le_isq {x n : Int} (hn : 0 ≤ n) (h : x * x ≤ n) : x ≤ isq n := by
  have h1 := isq_sq hn
  have h2 := isq_nonneg n
  have := lt_of_sq (x := x) (y := isq n + 1) (by omega) (by omega)
  omega
theorem isq_le {x n : Int} (hn : 0 ≤ n) (hx : 0 ≤ x) (h : n < (x + 1) * (x + 1)) : isq n ≤ x := by
  have h1 := isq_sq hn
  have h2 := isq_nonneg n
  have := lt_of_sq (x := isq n) (y := x + 1) (by omega) (by omega)
  omega
theorem isq_mono {m n : Int} (hm : 0 ≤ m) (h : m ≤ n) : isq m ≤ isq n := le_isq (by omega) (by have := isq_sq hm; omega)
theorem isq_eq {x n : Int} (hn : 0 ≤ n) (hx : 0 ≤ x) (h1 : x * x ≤ n) (h2 : n < (x + 1) * (x + 1)) : isq n = x := by
  have := le_isq hn h1
  have := isq_le hn hx h2
  omega
/-- A whole number of the program, as a number of 64 bits. -/
theorem int64_ok {k : Nat} [F : Fuel k] {z : Int} (h0 : 0 ≤ z) (h1 : z < 9223372036854775808) : integer_Int64 k (I z) = some (z, true) := by
  unfold integer_Int64
  have sz : Sz 3 z := Sz.of (by simp only [bp]; omega)
  have sl : Sz 3 (-9223372036854775808 : Int) := Sz.of (by simp only [bp]; omega)
  have sh : Sz 3 (9223372036854775807 : Int) := Sz.of (by simp only [bp]; omega)
  rw [integer_FromInt64_eq (by omega) (by omega), Option.bind_some, integer_Cmp_eq, Option.bind_some, cmpI_gt (by omega), cdecF (by omega), cond_false,
    integer_FromInt64_eq (by omega) (by omega), Option.bind_some, integer_Cmp_eq, Option.bind_some]
  have hc : ¬ cmpI z 9223372036854775807 > 0 := by rw [cmpI_pos_iff]; omega
  rw [cdecF hc, cond_false]
  have hl := sz.lim
  have hd := lim_dig z.natAbs
  have hv := lim_val z.natAbs
  have hI : (I z).limbs = lim z.natAbs := rfl
  rw [hI]
  generalize hL : lim z.natAbs = L at *
  refine Exists.elim (iter_ok (fun (x6 : (IntD × Int × Int × Unit)) => integer_Int64_L0 k x6.1 x6.2.1 x6.2.2.1) (fun n s => s = (I z, val (L.drop n), (n : Int) - 1, ()) ∧ n ≤ L.length)
    (fun x => x = (I z, z, ())) ?_ k L.length (I z, 0, IntKind.i64.wrap ((L.length : Int) - 1), ()) (F.len (show L.length ≤ LM by rw [LM_val]; omega)) ⟨by rw [List.drop_length, wI64 (by omega) (by omega)]; rfl, Nat.le_refl _⟩) ?_
  · rintro n s ⟨rfl, hn⟩
    simp only []
    unfold integer_Int64_L0
    cases n with
    | zero =>
      right
      rw [cdecF (by omega), cond_false]
      refine ⟨_, rfl, ?_⟩
      rw [List.drop_zero, hv]
      congr 2
      omega
    | succ m =>
      left
      have e : ((m + 1 : Nat) : Int) - 1 = m := by omega
      rw [e, cdec (by omega), cond_true, hI, ixOk_of (by omega) (by omega), cond_true, Int.toNat_natCast]
      have g := hd.getD m
      have d1 : L.drop m = L.getD m 0 :: L.drop (m + 1) := by rw [List.drop_eq_getElem_cons (by omega), getD_in (by omega)]
      have v1 : val (L.drop m) = L.getD m 0 + 1000000000 * val (L.drop (m + 1)) := by rw [d1]; rfl
      have n1 := val_nonneg (hd.drop (m + 1))
      have n2 := val_split L m (by omega)
      have n3 := val_nonneg (hd.take m)
      have n4 : val (L.drop m) ≤ bp m * val (L.drop m) := by
        have := bp_pos m
        have := Int.mul_le_mul_of_nonneg_right (show (1 : Int) ≤ bp m by omega) (val_nonneg (hd.drop m))
        omega
      refine ⟨_, m, rfl, by omega, ?_, by omega⟩
      rw [wU64 (x := val (L.drop (m + 1)) * 1000000000) (by omega) (by omega), wU64 (x := L.getD m 0) (by omega) (by omega), wU64 (by omega) (by omega), wI64 (by omega) (by omega), v1]
      congr 2
      omega
  · rintro x ⟨hx, rfl⟩
    rw [hx, Option.bind_some]
    simp only []
    rw [I_neg, cdecF (by omega), cond_false, wI64 (by omega) (by omega)]
theorem lsqrt_ok {k : Nat} [F : Fuel k] {n : Int} (h0 : 0 ≤ n) (h1 : n < 9223372036854775808) : lookahead_sqrt k n = some (isq n) := by
  unfold lookahead_sqrt
  have sz : Sz 3 n := Sz.of (by simp only [bp]; omega)
  rw [integer_FromInt64_eq (by omega) (by omega), Option.bind_some, integer_Sqrt_eq, Option.bind_some, if_neg (by omega)]
  have e : ((0 : Int) != 0) = false := rfl
  simp only [e, cond_false]
  have hs := isq_sq h0
  have hp := isq_nonneg n
  have hi : isq n < 9223372036854775808 := by
    have := lt_of_sq (x := isq n) (y := 9223372036854775808) (by omega) (by omega)
    exact this
  have := int64_ok (k := k) hp hi
  unfold isq at this
  rw [this]; rfl
theorem rroot_ok {k : Nat} [F : Fuel k] {n : Int} (h0 : 0 ≤ n) (h1 : n ≤ 1000000000000000000) : swarfref48_root k n = some (isq n) := by
  unfold swarfref48_root
  refine Exists.elim (iter_ok (fun (x2 : (Int × Int × Int × Unit)) => swarfref48_root_L0 k x2.1 x2.2.1 x2.2.2.1) (fun m s => ∃ lo hi : Int, s = (n, lo, hi, ()) ∧ 0 ≤ lo ∧ lo ≤ hi ∧ hi ≤ 3000000000 ∧ (m : Int) = hi - lo ∧ lo * lo ≤ n ∧ n < (hi + 1) * (hi + 1))
    (fun x => x = (isq n, ())) ?_ k 3000000000 (n, 0, 3000000000, ()) (F.lt (m := 2) (by simp only [bp]; omega) (by rw [LM_val]; omega)) ⟨0, 3000000000, rfl, by omega, by omega, by omega, by omega, by omega, by omega⟩) ?_
  · rintro m s ⟨lo, hi, rfl, a1, a2, a3, a4, a5, a6⟩
    simp only []
    unfold swarfref48_root_L0
    by_cases c : lo < hi
    · rw [cdec c, cond_true, wI64 (x := lo + hi) (by omega) (by omega), wI64 (x := lo + hi + 1) (by omega) (by omega)]
      have e : (lo + hi + 1).tdiv 2 = (lo + hi + 1) / 2 := Int.tdiv_eq_ediv_of_nonneg (by omega)
      rw [e]
      generalize hmid : (lo + hi + 1) / 2 = mid
      have q := sq_le (x := mid) (c := 3000000000) (by omega) (by omega)
      rw [wI64 (x := mid) (by omega) (by omega), wI64 (x := mid * mid) (by omega) (by omega)]
      left
      by_cases d : mid * mid ≤ n
      · rw [cdec d, cond_true]
        exact ⟨_, (hi - mid).toNat, rfl, by omega, mid, hi, rfl, by omega, by omega, a3, by omega, d, a6⟩
      · rw [cdecF d, cond_false, wI64 (by omega) (by omega)]
        refine ⟨_, (mid - 1 - lo).toNat, rfl, by omega, lo, mid - 1, rfl, by omega, by omega, by omega, by omega, a5, ?_⟩
        rw [Int.sub_add_cancel]; omega
    · rw [cdecF c, cond_false]
      right
      have : lo = hi := by omega
      subst this
      exact ⟨_, rfl, by rw [isq_eq h0 a1 a5 a6]⟩
  · rintro x ⟨hx, rfl⟩
    rw [hx]; rfl

/-- The greatest speed after a length. -/
def nxt (v n a : Int) : Int := isq (v * v + 2 * a * n)
theorem nxt_arg {v n a : Int} (hv : 0 ≤ v ∧ v ≤ 1000000) (hn : 0 ≤ n ∧ n ≤ 100000000) (ha : 1 ≤ a ∧ a ≤ 100000000) :
    IntKind.i64.wrap ((IntKind.i64.wrap (v * v)) + (IntKind.i64.wrap ((IntKind.i64.wrap (2 * a)) * n))) = v * v + 2 * a * n ∧ 0 ≤ v * v + 2 * a * n ∧ v * v + 2 * a * n ≤ 20001000000000000 := by
  have q1 := sq_le hv.1 hv.2
  have q2 := al_le ha hn
  rw [wI64 (x := 2 * a) (by omega) (by omega), wI64 (x := v * v) (by omega) (by omega), wI64 (x := 2 * a * n) (by omega) (by omega), wI64 (by omega) (by omega)]
  omega
theorem lfaster_ok {k : Nat} [F : Fuel k] {v n a : Int} (hv : 0 ≤ v ∧ v ≤ 1000000) (hn : 0 ≤ n ∧ n ≤ 100000000) (ha : 1 ≤ a ∧ a ≤ 100000000) : lookahead_faster k v n a = some (nxt v n a) := by
  obtain ⟨e, h1, h2⟩ := nxt_arg hv hn ha
  unfold lookahead_faster
  rw [e, lsqrt_ok h1 (by omega)]; rfl
theorem rafter_ok {k : Nat} [F : Fuel k] {v n a : Int} (hv : 0 ≤ v ∧ v ≤ 1000000) (hn : 0 ≤ n ∧ n ≤ 100000000) (ha : 1 ≤ a ∧ a ≤ 100000000) : swarfref48_after k v n a = some (nxt v n a) := by
  obtain ⟨e, h1, h2⟩ := nxt_arg hv hn ha
  unfold swarfref48_after
  rw [e, rroot_ok h1 (by omega)]; rfl
theorem nxt_mono {v w n a : Int} (h0 : 0 ≤ v) (h : v ≤ w) (hn : 0 ≤ n) (ha : 0 ≤ a) : nxt v n a ≤ nxt w n a := by
  unfold nxt
  have h1 := sq_le h0 h
  have h2 : 0 ≤ 2 * a * n := Int.mul_nonneg (by omega) hn
  exact isq_mono (by omega) (by omega)
theorem nxt_ge {v n a : Int} (h0 : 0 ≤ v) (hn : 0 ≤ n) (ha : 0 ≤ a) : v ≤ nxt v n a := by
  unfold nxt
  have h1 := sq_le h0 (Int.le_refl v)
  have h2 : 0 ≤ 2 * a * n := Int.mul_nonneg (by omega) hn
  exact le_isq (by omega) (by omega)
theorem le_nxt_iff {v w n a : Int} (h0 : 0 ≤ v) (hw : 0 ≤ w) (hn : 0 ≤ n) (ha : 0 ≤ a) : w ≤ nxt v n a ↔ w * w ≤ v * v + 2 * a * n := by
  unfold nxt
  have h1 := sq_le h0 (Int.le_refl v)
  have h2 : 0 ≤ 2 * a * n := Int.mul_nonneg (by omega) hn
  constructor
  · intro h
    have := isq_sq (n := v * v + 2 * a * n) (by omega)
    have := sq_le hw h
    omega
  · intro h; exact le_isq (by omega) h

/-! ### Distances -/
/-- Whether a position is within range. -/
def nearP (p : PosD) : Bool := inB p.X (-10000000) 10000000 && (inB p.Y (-10000000) 10000000 && inB p.Z (-10000000) 10000000)
theorem nearP_iff {p : PosD} : nearP p = true ↔ (-10000000 ≤ p.X ∧ p.X ≤ 10000000) ∧ (-10000000 ≤ p.Y ∧ p.Y ≤ 10000000) ∧ (-10000000 ≤ p.Z ∧ p.Z ≤ 10000000) := by
  rw [nearP, Bool.and_eq_true, Bool.and_eq_true, inB_iff, inB_iff, inB_iff]
theorem inside_ok (k : Nat) (p : PosD) : swarfref48_inside k p = some (nearP p) := by
  unfold swarfref48_inside nearP inB
  by_cases h1 : -10000000 ≤ p.X <;> by_cases h2 : p.X ≤ 10000000 <;> by_cases h3 : -10000000 ≤ p.Y <;> by_cases h4 : p.Y ≤ 10000000 <;> by_cases h5 : -10000000 ≤ p.Z <;> simp [h1, h2, h3, h4, h5]
theorem far_ok {k : Nat} [F : Fuel k] (p : PosD) : lookahead_far k p = some (!(nearP p)) := by
  unfold lookahead_far
  obtain ⟨j, rfl⟩ : ∃ j, k = j + 4 := ⟨k - 4, by have := F.len (n := 4) (by rw [LM_val]; omega); omega⟩
  have e1 : IntKind.i64.wrap 1 = 1 := rfl
  have e2 : IntKind.i64.wrap 2 = 2 := rfl
  have e3 : IntKind.i64.wrap 3 = 3 := rfl
  have g0 : ixOk 0 3 = true := rfl
  have g1 : ixOk 1 3 = true := rfl
  have g2 : ixOk 2 3 = true := rfl
  unfold nearP
  cases x1 : inB p.X (-10000000) 10000000 with
  | false => simp [iter, lookahead_far_L0, within_ok, g0, x1]
  | true =>
    cases x2 : inB p.Y (-10000000) 10000000 with
    | false => simp [iter, lookahead_far_L0, within_ok, g0, g1, e1, x1, x2]
    | true =>
      cases x3 : inB p.Z (-10000000) 10000000 with
      | false => simp [iter, lookahead_far_L0, within_ok, g0, g1, g2, e1, e2, x1, x2, x3]
      | true => simp [iter, lookahead_far_L0, within_ok, g0, g1, g2, e1, e2, e3, x1, x2, x3]
/-- The square of a vector. -/
def sqP (p : PosD) : Int := p.X * p.X + p.Y * p.Y + p.Z * p.Z
theorem abs_sq {x c : Int} (h1 : -c ≤ x) (h2 : x ≤ c) : 0 ≤ x * x ∧ x * x ≤ c * c := by
  rcases Int.le_total 0 x with h | h
  · exact sq_le h h2
  · have := sq_le (x := -x) (c := c) (by omega) (by omega)
    rwa [Int.neg_mul_neg] at this
theorem sqP_wrap {p : PosD} (c : Int) (hc : c = 10000000 ∨ c = 20000000) (h1 : -c ≤ p.X ∧ p.X ≤ c) (h2 : -c ≤ p.Y ∧ p.Y ≤ c) (h3 : -c ≤ p.Z ∧ p.Z ≤ c) :
    IntKind.i64.wrap ((IntKind.i64.wrap ((IntKind.i64.wrap (p.X * p.X)) + (IntKind.i64.wrap (p.Y * p.Y)))) + (IntKind.i64.wrap (p.Z * p.Z))) = sqP p ∧ 0 ≤ sqP p ∧ sqP p ≤ 1200000000000000 := by
  have q1 := abs_sq h1.1 h1.2
  have q2 := abs_sq h2.1 h2.2
  have q3 := abs_sq h3.1 h3.2
  have q4 : c * c ≤ 400000000000000 := by rcases hc with rfl | rfl <;> omega
  unfold sqP
  rw [wI64 (x := p.X * p.X) (by omega) (by omega), wI64 (x := p.Y * p.Y) (by omega) (by omega), wI64 (x := p.Z * p.Z) (by omega) (by omega), wI64 (x := p.X * p.X + p.Y * p.Y) (by omega) (by omega), wI64 (by omega) (by omega)]
  omega
/-- The distance of two positions, rounded up, or the error. -/
def lenP (a b : PosD) : Int × Int :=
  if nearP a = true ∧ nearP b = true then (if isq (sqP ⟨b.X - a.X, b.Y - a.Y, b.Z - a.Z⟩) * isq (sqP ⟨b.X - a.X, b.Y - a.Y, b.Z - a.Z⟩) < sqP ⟨b.X - a.X, b.Y - a.Y, b.Z - a.Z⟩ then (isq (sqP ⟨b.X - a.X, b.Y - a.Y, b.Z - a.Z⟩) + 1, 0) else (isq (sqP ⟨b.X - a.X, b.Y - a.Y, b.Z - a.Z⟩), 0)) else (0, 11)
theorem isq_small {n : Int} (h0 : 0 ≤ n) (h : n ≤ 1200000000000000) : isq n ≤ 40000000 := by
  have := isq_sq h0
  exact isq_le h0 (by omega) (by omega)
theorem length_ok {k : Nat} [F : Fuel k] (a b : PosD) : lookahead_Length k a b = some (lenP a b) := by
  unfold lookahead_Length lenP
  rw [far_ok, Option.bind_some, far_ok]
  cases ha : nearP a with
  | false => simp
  | true =>
    cases hb : nearP b with
    | false => simp
    | true =>
      rw [nearP_iff] at ha hb
      simp only [Bool.not_true, cond_false, Option.bind_some, and_self, if_true]
      rw [wI64 (x := b.X - a.X) (by omega) (by omega), wI64 (x := b.Y - a.Y) (by omega) (by omega), wI64 (x := b.Z - a.Z) (by omega) (by omega)]
      unfold lookahead_square
      obtain ⟨e, h1, h2⟩ := sqP_wrap (p := ⟨b.X - a.X, b.Y - a.Y, b.Z - a.Z⟩) 20000000 (Or.inr rfl) (by simp only []; omega) (by simp only []; omega) (by simp only []; omega)
      rw [e, Option.bind_some, lsqrt_ok h1 (by omega), Option.bind_some]
      have := isq_small h1 h2
      have hn := isq_nonneg (sqP ⟨b.X - a.X, b.Y - a.Y, b.Z - a.Z⟩)
      have := isq_sq h1
      have := sq_le hn (Int.le_refl _)
      rw [wI64 (by omega) (by omega), wI64 (by omega) (by omega)]
      by_cases c : isq (sqP ⟨b.X - a.X, b.Y - a.Y, b.Z - a.Z⟩) * isq (sqP ⟨b.X - a.X, b.Y - a.Y, b.Z - a.Z⟩) < sqP ⟨b.X - a.X, b.Y - a.Y, b.Z - a.Z⟩
      · rw [cdec c, if_pos c]; rfl
      · rw [cdecF c, if_neg c]; rfl
theorem rlength_ok {k : Nat} [F : Fuel k] (a b : PosD) : swarfref48_Length k a b = some (lenP a b) := by
  unfold swarfref48_Length lenP
  rw [inside_ok, Option.bind_some, inside_ok]
  cases ha : nearP a with
  | false => simp
  | true =>
    cases hb : nearP b with
    | false => simp
    | true =>
      rw [nearP_iff] at ha hb
      simp only [Bool.not_true, cond_false, Option.bind_some, and_self, if_true]
      rw [wI64 (x := b.X - a.X) (by omega) (by omega), wI64 (x := b.Y - a.Y) (by omega) (by omega), wI64 (x := b.Z - a.Z) (by omega) (by omega)]
      unfold swarfref48_Square
      obtain ⟨e, h1, h2⟩ := sqP_wrap (p := ⟨b.X - a.X, b.Y - a.Y, b.Z - a.Z⟩) 20000000 (Or.inr rfl) (by simp only []; omega) (by simp only []; omega) (by simp only []; omega)
      rw [e, Option.bind_some, rroot_ok h1 (by omega), Option.bind_some]
      have := isq_small h1 h2
      have hn := isq_nonneg (sqP ⟨b.X - a.X, b.Y - a.Y, b.Z - a.Z⟩)
      have := isq_sq h1
      have := sq_le hn (Int.le_refl _)
      rw [wI64 (by omega) (by omega), wI64 (by omega) (by omega)]
      by_cases c : isq (sqP ⟨b.X - a.X, b.Y - a.Y, b.Z - a.Z⟩) * isq (sqP ⟨b.X - a.X, b.Y - a.Y, b.Z - a.Z⟩) < sqP ⟨b.X - a.X, b.Y - a.Y, b.Z - a.Z⟩
      · rw [cdec c, if_pos c]; rfl
      · rw [cdecF c, if_neg c]; rfl
/-- The greatest speed that can be reached, or the error. -/
def fasP (v n a : Int) : Int × Int := if (inB v 0 1000000 && (inB n 0 100000000 && inB a 1 100000000)) = true then (nxt v n a, 0) else (0, 1)
theorem Faster_ok {k : Nat} [F : Fuel k] (v n a : Int) : lookahead_Faster k v n a = some (fasP v n a) := by
  unfold lookahead_Faster fasP
  rw [within_ok, Option.bind_some, within_ok, Option.bind_some, within_ok, Option.bind_some]
  cases h1 : inB v 0 1000000 with
  | false => rfl
  | true =>
    cases h2 : inB n 0 100000000 with
    | false => rfl
    | true =>
      cases h3 : inB a 1 100000000 with
      | false => rfl
      | true =>
        rw [inB_iff] at h1 h2 h3
        rw [lfaster_ok h1 h2 h3]; rfl
theorem rFaster_ok {k : Nat} [F : Fuel k] (v n a : Int) : swarfref48_Faster k v n a = some (fasP v n a) := by
  unfold swarfref48_Faster fasP
  rw [speed_ok, Option.bind_some, long_ok, Option.bind_some, accel_ok, Option.bind_some]
  cases h1 : inB v 0 1000000 with
  | false => rfl
  | true =>
    cases h2 : inB n 0 100000000 with
    | false => rfl
    | true =>
      cases h3 : inB a 1 100000000 with
      | false => rfl
      | true =>
        rw [inB_iff] at h1 h2 h3
        rw [rafter_ok h1 h2 h3]; rfl
end Go.Proofs.YtbjkpogfgijmaaaGreat
