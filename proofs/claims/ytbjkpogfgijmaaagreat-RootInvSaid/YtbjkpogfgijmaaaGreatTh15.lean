/- Plain laws: which data are numbers in normal form; rational square roots. -/
import Derived.Test.YtbjkpogfgijmaaaGreatTh14
namespace Go.Proofs.YtbjkpogfgijmaaaGreat
open Go
set_option linter.unusedVariables false
set_option linter.unusedSimpArgs false

/-! ### Normal form of whole numbers -/
theorem dig_inj : ∀ {a b : List Int}, Dig a → Dig b → a.length = b.length → val a = val b → a = b
  | [], [], _, _, _, _ => rfl
  | [], _ :: _, _, _, h, _ => by simp at h
  | _ :: _, [], _, _, h, _ => by simp at h
  | x :: a, y :: b, ha, hb, h, hv => by
    have hx := ha.head; have hy := hb.head
    simp only [val] at hv
    have h1 : val a = val b := by omega
    have h2 : x = y := by omega
    rw [h2, dig_inj ha.tail hb.tail (by simpa using h) h1]
theorem dig_norm {l : List Int} (h : Dig l) (hl : (lim (val l).toNat).length = l.length) : l = lim (val l).toNat :=
  dig_inj h (lim_dig _) hl.symm (by rw [lim_val]; have := val_nonneg h; omega)
theorem I_dig (z : Int) : Dig (I z).limbs := lim_dig _
theorem I_exists_iff {a : IntD} (h : Dig a.limbs) : (∃ z, a = I z) ↔ ((lim (val a.limbs).toNat).length = a.limbs.length ∧ (a.neg = true → 0 < a.limbs.length)) := by
  constructor
  · rintro ⟨z, rfl⟩
    refine ⟨by rw [I_limbs, lim_val]; simp, fun hn => ?_⟩
    rw [I_limbs]; rw [I_neg] at hn; simp at hn
    exact nat_pos_iff.2 (by omega)
  · rintro ⟨h1, h2⟩
    have h3 := dig_norm h h1
    have h4 := val_nonneg h
    obtain ⟨neg, l⟩ := a
    dsimp only at *
    cases neg with
    | false =>
      refine ⟨val l, ?_⟩
      have := I_of false (val l).toNat
      simp only [Bool.false_and, Bool.false_eq_true, if_false] at this
      rw [← h3] at this
      rw [this]; congr 1; omega
    | true =>
      have h5 : 0 < (val l).toNat := by rw [← lim_length_pos, h1]; exact h2 rfl
      refine ⟨-(val l), ?_⟩
      have := I_of true (val l).toNat
      simp only [Bool.true_and, if_true, decide_eq_true h5] at this
      rw [← h3] at this
      rw [this]; congr 1; omega
theorem rvalid_loop {k : Nat} [F : Fuel k] {a : IntD} (hw : WfI a) (hl : a.limbs.length ≤ LM) :
    (Dig a.limbs ∧ iter (fun (x2 : (IntD × Int × Unit)) => swarfref01_Valid_L0 k x2.1 x2.2.1) k (a, 0, ()) = some (.inl (a, ()))) ∨
    (¬ Dig a.limbs ∧ iter (fun (x2 : (IntD × Int × Unit)) => swarfref01_Valid_L0 k x2.1 x2.2.1) k (a, 0, ()) = some (.inr (false, ()))) := by
  have hlm := LM_val
  refine Exists.elim (iter_ok (fun (x2 : (IntD × Int × Unit)) => swarfref01_Valid_L0 k x2.1 x2.2.1) (fun n s => ∃ i : Nat, n = a.limbs.length - i ∧ i ≤ a.limbs.length ∧ s = (a, (i : Int), ()) ∧ ∀ j, j < i → a.limbs.getD j 0 < 1000000000)
    (fun x => (Dig a.limbs ∧ x = .inl (a, ())) ∨ (¬ Dig a.limbs ∧ x = .inr (false, ()))) ?_ k a.limbs.length (a, 0, ()) (F.len hl) ⟨0, by omega, by omega, rfl, fun j h => by omega⟩) ?_
  rotate_left
  · rintro x ⟨hx, h⟩
    rcases h with ⟨h1, rfl⟩ | ⟨h1, rfl⟩
    · exact .inl ⟨h1, hx⟩
    · exact .inr ⟨h1, hx⟩
  · rintro n s ⟨i, rfl, hi, rfl, hs⟩
    dsimp only
    unfold swarfref01_Valid_L0
    by_cases h0 : i = a.limbs.length
    · right
      subst h0
      refine ⟨_, by rw [cdecF (by omega), cond_false], .inl ⟨?_, rfl⟩⟩
      intro x hx
      obtain ⟨j, hj, rfl⟩ := List.getElem_of_mem hx
      have := hs j hj
      rw [getD_in hj] at this
      exact ⟨(hw _ hx).1, this⟩
    · rw [cdec (by omega), cond_true, ixOk_of (by omega) (by omega), cond_true, Int.toNat_natCast]
      by_cases hge : a.limbs.getD i 0 ≥ 1000000000
      · right
        refine ⟨_, by rw [cdec hge, cond_true], .inr ⟨fun hd => ?_, rfl⟩⟩
        have := hd.getD i; omega
      · left
        refine ⟨_, a.limbs.length - (i + 1), by rw [cdecF hge, cond_false, wI64 (by omega) (by omega)]; rfl, by omega, i + 1, rfl, by omega, rfl, fun j hj => ?_⟩
        by_cases hj' : j = i
        · subst hj'; omega
        · exact hs j (by omega)
theorem rValid_iff {k : Nat} [F : Fuel k] {a : IntD} (hw : WfI a) (hl : a.limbs.length ≤ LM) : ∃ t, swarfref01_Valid k a = some t ∧ (t = true ↔ ∃ z, a = I z) := by
  have hlm := LM_val
  unfold swarfref01_Valid
  rcases rvalid_loop (k := k) hw hl with ⟨hd, hx⟩ | ⟨hd, hx⟩
  · rw [hx, Option.bind_some]
    dsimp only
    rw [rtrim_ok hd hl, Option.bind_some, I_exists_iff hd]
    by_cases h1 : (lim (val a.limbs).toNat).length = a.limbs.length
    · have e : (((lim (val a.limbs).toNat).length : Int) == (a.limbs.length : Int)) = true := by rw [h1]; simp
      rw [e, cond_true]
      cases hn : a.neg with
      | false => exact ⟨true, rfl, by simp [h1]⟩
      | true => exact ⟨_, rfl, by simp [h1]⟩
    · have e : (((lim (val a.limbs).toNat).length : Int) == (a.limbs.length : Int)) = false := beq_eq_false_iff_ne.2 (by omega)
      rw [e, cond_false]
      exact ⟨false, rfl, by simp [h1]⟩
  · rw [hx, Option.bind_some]
    refine ⟨false, rfl, ?_⟩
    constructor
    · intro h; cases h
    · rintro ⟨z, rfl⟩; exact absurd (I_dig z) hd
theorem ivalid_loop {k : Nat} [F : Fuel k] {a : IntD} (hw : WfI a) (hl : a.limbs.length ≤ LM) :
    (Dig a.limbs ∧ iter (fun (x2 : (IntD × List Int × Int × Int × Unit)) => integer_Valid_L0 k x2.1 x2.2.1 x2.2.2.1 x2.2.2.2.1) k (a, a.limbs, (a.limbs.length : Int), 0, ()) = some (.inl (a, ()))) ∨
    (¬ Dig a.limbs ∧ iter (fun (x2 : (IntD × List Int × Int × Int × Unit)) => integer_Valid_L0 k x2.1 x2.2.1 x2.2.2.1 x2.2.2.2.1) k (a, a.limbs, (a.limbs.length : Int), 0, ()) = some (.inr (false, ()))) := by
  have hlm := LM_val
  refine Exists.elim (iter_ok (fun (x2 : (IntD × List Int × Int × Int × Unit)) => integer_Valid_L0 k x2.1 x2.2.1 x2.2.2.1 x2.2.2.2.1) (fun n s => ∃ i : Nat, n = a.limbs.length - i ∧ i ≤ a.limbs.length ∧ s = (a, a.limbs, (a.limbs.length : Int), (i : Int), ()) ∧ ∀ j, j < i → a.limbs.getD j 0 < 1000000000)
    (fun x => (Dig a.limbs ∧ x = .inl (a, ())) ∨ (¬ Dig a.limbs ∧ x = .inr (false, ()))) ?_ k a.limbs.length (a, a.limbs, (a.limbs.length : Int), 0, ()) (F.len hl) ⟨0, by omega, by omega, rfl, fun j h => by omega⟩) ?_
  rotate_left
  · rintro x ⟨hx, h⟩
    rcases h with ⟨h1, rfl⟩ | ⟨h1, rfl⟩
    · exact .inl ⟨h1, hx⟩
    · exact .inr ⟨h1, hx⟩
  · rintro n s ⟨i, rfl, hi, rfl, hs⟩
    dsimp only
    unfold integer_Valid_L0
    by_cases h0 : i = a.limbs.length
    · right
      subst h0
      refine ⟨_, by rw [cdecF (by omega), cond_false], .inl ⟨?_, rfl⟩⟩
      intro x hx
      obtain ⟨j, hj, rfl⟩ := List.getElem_of_mem hx
      have := hs j hj
      rw [getD_in hj] at this
      exact ⟨(hw _ hx).1, this⟩
    · rw [cdec (by omega), cond_true, ixOk_of (by omega) (by omega), cond_true, Int.toNat_natCast]
      by_cases hge : a.limbs.getD i 0 ≥ 1000000000
      · right
        refine ⟨_, by rw [cdec hge, cond_true], .inr ⟨fun hd => ?_, rfl⟩⟩
        have := hd.getD i; omega
      · left
        refine ⟨_, a.limbs.length - (i + 1), by rw [cdecF hge, cond_false, wI64 (by omega) (by omega)]; rfl, by omega, i + 1, rfl, by omega, rfl, fun j hj => ?_⟩
        by_cases hj' : j = i
        · subst hj'; omega
        · exact hs j (by omega)
theorem last_norm {l : List Int} (h : Dig l) (hp : 0 < l.length) : (l.getD (l.length - 1) 0 ≠ 0) ↔ (lim (val l).toNat).length = l.length := by
  constructor
  · intro h1
    have : Norm (l.take l.length) := Norm.take h (Nat.le_refl _) (.inr h1)
    rw [List.take_length] at this
    rw [← this.eq_lim]
  · intro h1 h2
    have h3 := dig_norm h h1
    have h4 : 0 < (val l).toNat := by rw [← lim_length_pos, h1]; exact hp
    have h5 := lim_top h4
    rw [← h3] at h5
    exact h5 h2
theorem iValid_iff {k : Nat} [F : Fuel k] {a : IntD} (hw : WfI a) (hl : a.limbs.length ≤ LM) : ∃ t, integer_Valid k a = some t ∧ (t = true ↔ ∃ z, a = I z) := by
  have hlm := LM_val
  unfold integer_Valid
  rcases ivalid_loop (k := k) hw hl with ⟨hd, hx⟩ | ⟨hd, hx⟩
  · rw [hx, Option.bind_some]
    dsimp only
    rw [I_exists_iff hd]
    by_cases h0 : a.limbs.length = 0
    · have h1 : a.limbs = [] := List.length_eq_zero_iff.1 h0
      rw [cdecF (by omega), cond_false]
      refine ⟨_, rfl, ?_⟩
      rw [h1]; simp [val, lim_zero]
    · rw [cdec (by omega), cond_true, wI64 (by omega) (by omega), ixOk_of (by omega) (by omega), cond_true]
      have e : ((a.limbs.length : Int) - 1).toNat = a.limbs.length - 1 := by omega
      rw [e]
      refine ⟨_, rfl, ?_⟩
      have := last_norm hd (by omega)
      rw [← this]
      simp; omega
  · rw [hx, Option.bind_some]
    refine ⟨false, rfl, ?_⟩
    constructor
    · intro h; cases h
    · rintro ⟨z, rfl⟩; exact absurd (I_dig z) hd

/-! ### Normal form of fractions -/
theorem sgI_one {z : Int} : sgI z = 1 ↔ 0 < z := by unfold sgI; split <;> (try split) <;> omega
theorem sgI_le {z : Int} : sgI z ≤ 0 ↔ z ≤ 0 := by unfold sgI; split <;> (try split) <;> omega
theorem Q_exists {x y : Int} (hy : 0 < y) (h : Int.gcd x y = 1) : (⟨I x, I y⟩ : RatD) = Q (Rat.divInt x y) := by
  obtain ⟨h1, h2⟩ := gcd_one_self hy h
  unfold Q; rw [← h1, ← h2]
theorem Q_iff {x y : Int} : (∃ q, (⟨I x, I y⟩ : RatD) = Q q) ↔ (0 < y ∧ Int.gcd x y = 1) := by
  constructor
  · rintro ⟨q, h⟩
    have h1 : x = q.num := I_inj (congrArg RatD.num h)
    have h2 : y = q.den := I_inj (congrArg RatD.den h)
    rw [h1, h2]
    exact ⟨den_pos q, q.reduced⟩
  · rintro ⟨h1, h2⟩; exact ⟨_, Q_exists h1 h2⟩
theorem Q_parts {a : RatD} (h : ∃ q, a = Q q) : (∃ x, a.num = I x) ∧ (∃ y, a.den = I y) := by
  obtain ⟨q, rfl⟩ := h; exact ⟨⟨_, rfl⟩, ⟨_, rfl⟩⟩
theorem rQValid {k : Nat} [F : Fuel k] {a : RatD} (hw : WfQ a) (h1 : a.num.limbs.length ≤ 10000) (h2 : a.den.limbs.length ≤ 10000) : ∃ t, swarfref02_Valid k a = some t ∧ (t = true ↔ ∃ q, a = Q q) := by
  have hlm := LM_val
  unfold swarfref02_Valid
  obtain ⟨t1, e1, f1⟩ := rValid_iff (k := k) hw.1 (by omega)
  obtain ⟨t2, e2, f2⟩ := rValid_iff (k := k) hw.2 (by omega)
  rw [e1, Option.bind_some]
  cases t1 with
  | false => exact ⟨false, rfl, by simp; intro q h; have := (Q_parts ⟨q, h⟩).1; rw [← f1] at this; cases this⟩
  | true =>
    rw [Bool.not_true, cond_false, e2, Option.bind_some]
    cases t2 with
    | false => exact ⟨false, rfl, by simp; intro q h; have := (Q_parts ⟨q, h⟩).2; rw [← f2] at this; cases this⟩
    | true =>
      rw [Bool.not_true, cond_false]
      obtain ⟨x, hx⟩ := f1.1 rfl
      obtain ⟨y, hy⟩ := f2.1 rfl
      obtain ⟨n, d⟩ := a
      dsimp only at *
      subst hx hy
      have s1 : Sz 10000 x := ⟨h1⟩
      have s2 : Sz 10000 y := ⟨h2⟩
      rw [rSign_eq, Option.bind_some, Q_iff]
      by_cases hp : 0 < y
      · have e : (sgI y != 1) = false := by rw [sgI_one.2 hp]; rfl
        rw [e, cond_false, rGCD_eq (by decide), Option.bind_some, runit_ok, Option.bind_some]
        have s3 : Sz 10000 ((Int.gcd x y : Nat) : Int) := gcd_szl s2 (by omega)
        obtain ⟨t, ht, hi⟩ := rSame_iff (k := k) (I ((Int.gcd x y : Nat) : Int)) (I 1) (by have := s3.h; rw [I_limbs]; unfold len at this; omega)
        rw [ht]
        refine ⟨t, rfl, hi.trans ⟨fun h => ⟨hp, by have := I_inj h; omega⟩, fun h => by rw [h.2]; rfl⟩⟩
      · have e : (sgI y != 1) = true := by
          have : sgI y ≠ 1 := fun h => hp (sgI_one.1 h)
          simpa using this
        rw [e, cond_true]
        exact ⟨false, rfl, by simp [hp]⟩
theorem qValid {k : Nat} [F : Fuel k] {a : RatD} (hw : WfQ a) (h1 : a.num.limbs.length ≤ 10000) (h2 : a.den.limbs.length ≤ 10000) : ∃ t, rational_Valid k a = some t ∧ (t = true ↔ ∃ q, a = Q q) := by
  have hlm := LM_val
  unfold rational_Valid
  obtain ⟨t1, e1, f1⟩ := iValid_iff (k := k) hw.1 (by omega)
  obtain ⟨t2, e2, f2⟩ := iValid_iff (k := k) hw.2 (by omega)
  rw [e1, Option.bind_some]
  cases t1 with
  | false => exact ⟨false, rfl, by simp; intro q h; have := (Q_parts ⟨q, h⟩).1; rw [← f1] at this; cases this⟩
  | true =>
    rw [Bool.not_true, cond_false, e2, Option.bind_some]
    cases t2 with
    | false => exact ⟨false, rfl, by simp; intro q h; have := (Q_parts ⟨q, h⟩).2; rw [← f2] at this; cases this⟩
    | true =>
      rw [Bool.not_true, cond_false]
      obtain ⟨x, hx⟩ := f1.1 rfl
      obtain ⟨y, hy⟩ := f2.1 rfl
      obtain ⟨n, d⟩ := a
      dsimp only at *
      subst hx hy
      have s1 : Sz 10000 x := ⟨h1⟩
      have s2 : Sz 10000 y := ⟨h2⟩
      rw [integer_Sign_eq, Option.bind_some, Q_iff]
      by_cases hp : 0 < y
      · rw [cdecF (by rw [sgI_le]; omega), cond_false, integer_GCD_eq (by decide), Option.bind_some, unit_ok, Option.bind_some]
        have s3 : Sz 10000 ((Int.gcd x y : Nat) : Int) := gcd_szl s2 (by omega)
        have s4 : Sz 2 (1 : Int) := szSmall (by decide)
        rw [integer_Cmp_eq (by decide) (by decide), Option.bind_some]
        refine ⟨_, rfl, ?_⟩
        rw [beq_iff_eq, cmpI_eq_zero]
        omega
      · rw [cdec (by rw [sgI_le]; omega), cond_true]
        exact ⟨false, rfl, by simp [hp]⟩
theorem lens_of {n : Nat} {q : Rat} [x : Rz n q] : (Q q).num.limbs.length ≤ n ∧ (Q q).den.limbs.length ≤ n := ⟨by rw [Q_num, I_limbs]; exact x.num.lim, by rw [Q_den, I_limbs]; exact x.den.lim⟩
theorem rz_of {n : Nat} {q : Rat} (h1 : (Q q).num.limbs.length ≤ n) (h2 : (Q q).den.limbs.length ≤ n) : Rz n q := ⟨⟨h1⟩, ⟨h2⟩⟩
theorem rSmall {k : Nat} [F : Fuel k] {a : RatD} (n : Nat) (hn : n ≤ 100) (hw : WfQ a) : ∃ t, swarfref02_Small k a (n : Int) = some t ∧ (t = true ↔ ∃ q, a = Q q ∧ Rz n q) := by
  unfold swarfref02_Small
  by_cases h1 : (a.num.limbs.length : Int) ≤ n
  · by_cases h2 : (a.den.limbs.length : Int) ≤ n
    · rw [cdec h1, cond_true, cdec h2, cond_true]
      obtain ⟨t, ht, hi⟩ := rQValid (k := k) hw (by omega) (by omega)
      rw [ht]
      refine ⟨t, rfl, hi.trans ⟨?_, fun ⟨q, h, _⟩ => ⟨q, h⟩⟩⟩
      rintro ⟨q, rfl⟩
      exact ⟨q, rfl, rz_of (by omega) (by omega)⟩
    · rw [cdec h1, cond_true, cdecF h2, cond_false]
      refine ⟨false, rfl, by simp; rintro q rfl hz; have := (lens_of (q := q)).2; omega⟩
  · rw [cdecF h1, cond_false]
    refine ⟨false, rfl, by simp; rintro q rfl hz; have := (lens_of (q := q)).1; omega⟩

/-! ### Square roots -/
def IsSq (q : Rat) : Prop := ∃ s : Rat, 0 ≤ s ∧ s * s = q
open Classical in
noncomputable def rsq (q : Rat) : Rat := if h : IsSq q then h.choose else 0
theorem rsq_nonneg {q : Rat} (h : IsSq q) : 0 ≤ rsq q := by unfold rsq; rw [dif_pos h]; exact h.choose_spec.1
theorem rsq_sq {q : Rat} (h : IsSq q) : rsq q * rsq q = q := by unfold rsq; rw [dif_pos h]; exact h.choose_spec.2
theorem sq_unique {s t : Rat} (hs : 0 ≤ s) (ht : 0 ≤ t) (h : s * s = t * t) : s = t := by
  have h1 : (s - t) * (s + t) = 0 := by grind
  rcases Rat.mul_eq_zero.1 h1 with h2 | h2
  · grind
  · grind
theorem rsq_eq {q s : Rat} (hs : 0 ≤ s) (h : s * s = q) : IsSq q ∧ rsq q = s := by
  have h1 : IsSq q := ⟨s, hs, h⟩
  exact ⟨h1, sq_unique (rsq_nonneg h1) hs (by rw [rsq_sq h1, h])⟩
theorem sq_num (s : Rat) : (s * s).num = s.num * s.num ∧ (s * s).den = s.den * s.den := by
  have h : s * s = s ^ 2 := by rw [Rat.pow_succ, Rat.pow_one]
  rw [h, Rat.num_pow, Rat.den_pow]
  exact ⟨by rw [Int.pow_succ, Int.pow_succ, Int.pow_zero, Int.one_mul], by rw [Nat.pow_succ, Nat.pow_succ, Nat.pow_zero, Nat.one_mul]⟩
theorem nat_sqrt_sq (n : Nat) : Nat.sqrt (n * n) = n := by
  have h1 := Nat.sqrt_le (n * n)
  have h2 := Nat.lt_succ_sqrt (n * n)
  have h3 : Nat.sqrt (n * n) ≤ n := by
    rcases Nat.lt_or_ge n (Nat.sqrt (n * n)) with h | h
    · have := Nat.mul_lt_mul_of_lt_of_le h (Nat.le_of_lt h) (by omega); omega
    · exact h
  have h4 : n ≤ Nat.sqrt (n * n) := by
    rcases Nat.lt_or_ge (Nat.sqrt (n * n)) n with h | h
    · have := Nat.mul_le_mul (show (Nat.sqrt (n * n)).succ ≤ n by omega) (show (Nat.sqrt (n * n)).succ ≤ n by omega); omega
    · exact h
  omega
/-- The parts of a rational square. -/
theorem isSq_iff (q : Rat) : IsSq q ↔ (0 ≤ q.num ∧ Nat.sqrt q.num.toNat * Nat.sqrt q.num.toNat = q.num.toNat ∧ Nat.sqrt q.den * Nat.sqrt q.den = q.den) := by
  constructor
  · rintro ⟨s, hs, rfl⟩
    obtain ⟨h1, h2⟩ := sq_num s
    have h3 := Rat.num_nonneg.2 hs
    have e : (s.num * s.num).toNat = s.num.toNat * s.num.toNat := by
      obtain ⟨m, hm⟩ : ∃ m : Nat, s.num = m := ⟨s.num.toNat, by omega⟩
      rw [hm, ← Int.natCast_mul, Int.toNat_natCast, Int.toNat_natCast]
    rw [h1, h2, e, nat_sqrt_sq, nat_sqrt_sq]
    exact ⟨Int.mul_nonneg h3 h3, rfl, rfl⟩
  · rintro ⟨h0, h1, h2⟩
    refine ⟨Rat.divInt (Nat.sqrt q.num.toNat : Nat) (Nat.sqrt q.den : Nat), Rat.divInt_nonneg (by omega) (by omega), ?_⟩
    rw [Rat.divInt_mul_divInt, ← Int.natCast_mul, ← Int.natCast_mul, h1, h2, Int.toNat_of_nonneg h0, Rat.num_divInt_den]
theorem rsq_parts {q : Rat} (h : IsSq q) : (rsq q).num = (Nat.sqrt q.num.toNat : Nat) ∧ (rsq q).den = Nat.sqrt q.den := by
  have h1 := rsq_sq h
  obtain ⟨h2, h3⟩ := sq_num (rsq q)
  have h4 := Rat.num_nonneg.2 (rsq_nonneg h)
  rw [h1] at h2 h3
  obtain ⟨m, hm⟩ : ∃ m : Nat, (rsq q).num = m := ⟨(rsq q).num.toNat, by omega⟩
  rw [hm, ← Int.natCast_mul] at h2
  rw [h2, h3, Int.toNat_natCast, nat_sqrt_sq, nat_sqrt_sq, hm]
  exact ⟨rfl, rfl⟩
theorem Q_rsq {q : Rat} (h : IsSq q) : Q (rsq q) = ⟨I (Nat.sqrt q.num.toNat : Nat), I (Nat.sqrt q.den : Nat)⟩ := by
  obtain ⟨h1, h2⟩ := rsq_parts h
  unfold Q; rw [h1, h2]
theorem sqrt_le_self (n : Nat) : Nat.sqrt n ≤ n := by
  have := Nat.sqrt_le n
  rcases Nat.eq_zero_or_pos (Nat.sqrt n) with h | h
  · omega
  · have := Nat.le_mul_of_pos_left (Nat.sqrt n) h; omega
theorem rzSqrt {n : Nat} {q : Rat} (x : Rz n q) : Rz n (rsq q) := by
  by_cases h : IsSq q
  · obtain ⟨h1, h2⟩ := rsq_parts h
    exact ⟨x.num.abs (by rw [h1]; have := sqrt_le_self q.num.toNat; omega), x.den.abs (by rw [h2]; have := sqrt_le_self q.den; omega)⟩
  · have : rsq q = 0 := by unfold rsq; rw [dif_neg h]
    rw [this]
    exact ⟨x.num.abs (by simp), x.den.abs (by have := den_pos q; simp; omega)⟩
section
variable {k : Nat} [F : Fuel k] {q : Rat} {n : Nat}
theorem side_ok {a : Int} [s : Sz n a] (h : 4 * n + 40 ≤ LM) : rational_side k (I a) = some (if a < 0 then (I 0, false) else (I (Nat.sqrt a.toNat : Nat), decide (Nat.sqrt a.toNat * Nat.sqrt a.toNat = a.toNat))) := by
  unfold rational_side
  rw [integer_Sqrt_eq (by omega), Option.bind_some]
  by_cases h0 : a < 0
  · rw [if_pos h0, if_pos h0]; rfl
  · rw [if_neg h0, if_neg h0]
    have s1 : Sz n ((Nat.sqrt a.toNat : Nat) : Int) := s.abs (by have := sqrt_le_self a.toNat; omega)
    have s2 := szMul s1 s1
    show ((integer_Mul k _ _).bind _) = _
    rw [integer_Mul_eq (by omega), Option.bind_some, integer_Cmp_eq (by omega) (by omega), Option.bind_some]
    congr 2
    have e : ((cmpI (((Nat.sqrt a.toNat : Nat) : Int) * ((Nat.sqrt a.toNat : Nat) : Int)) a) == 0) = decide (cmpI (((Nat.sqrt a.toNat : Nat) : Int) * ((Nat.sqrt a.toNat : Nat) : Int)) a = 0) := rfl
    rw [e]
    apply dec_congr
    rw [cmpI_eq_zero, ← Int.natCast_mul]
    omega
theorem perfect_ok {a : Int} [s : Sz n a] (h : 4 * n + 40 ≤ LM) : swarfref02_perfect k (I a) = some (if a < 0 then (I 0, false) else (I (Nat.sqrt a.toNat : Nat), decide (Nat.sqrt a.toNat * Nat.sqrt a.toNat = a.toNat))) := by
  unfold swarfref02_perfect
  rw [rSqrt_eq (by omega), Option.bind_some]
  by_cases h0 : a < 0
  · rw [if_pos h0, if_pos h0]; rfl
  · rw [if_neg h0, if_neg h0]
    have s1 : Sz n ((Nat.sqrt a.toNat : Nat) : Int) := s.abs (by have := sqrt_le_self a.toNat; omega)
    have s2 := szMul s1 s1
    show ((swarfref01_Mul k _ _).bind _) = _
    rw [rMul_eq (by omega), Option.bind_some]
    obtain ⟨t, ht, hi⟩ := rSame_iff (k := k) (I (((Nat.sqrt a.toNat : Nat) : Int) * ((Nat.sqrt a.toNat : Nat) : Int))) (I a) (by rw [I_limbs]; have := s2.lim; omega)
    rw [ht, Option.bind_some]
    congr 2
    have : t = true ↔ Nat.sqrt a.toNat * Nat.sqrt a.toNat = a.toNat := hi.trans ⟨fun h => by have := I_inj h; rw [← Int.natCast_mul] at this; omega, fun h => by rw [← Int.natCast_mul, h, Int.toNat_of_nonneg (by omega)]⟩
    cases t <;> simp_all
theorem qSqrt_pos [x : Rz n q] (h : 4 * n + 40 ≤ LM) (hq : IsSq q) : rational_Sqrt k (Q q) = some (Q (rsq q), true) := by
  obtain ⟨h0, h1, h2⟩ := (isSq_iff q).1 hq
  have hd := den_pos q
  unfold rational_Sqrt
  rw [Q_num, Q_den, side_ok h, if_neg (by omega), Option.bind_some, cdec h1, cond_true, side_ok h, if_neg (by omega), Option.bind_some, Int.toNat_natCast, cdec h2, cond_true, Q_rsq hq]
theorem qSqrt_neg [x : Rz n q] (h : 4 * n + 40 ≤ LM) (hq : ¬ IsSq q) : rational_Sqrt k (Q q) = some (zR, false) := by
  have h0 := mt (isSq_iff q).2 hq
  have hd := den_pos q
  unfold rational_Sqrt
  rw [Q_num, Q_den, side_ok h]
  by_cases h1 : q.num < 0
  · rw [if_pos h1]; rfl
  · rw [if_neg h1, Option.bind_some]
    by_cases h2 : Nat.sqrt q.num.toNat * Nat.sqrt q.num.toNat = q.num.toNat
    · rw [cdec h2, cond_true, side_ok h, if_neg (by omega), Option.bind_some, Int.toNat_natCast, cdecF (fun h3 => h0 ⟨by omega, h2, h3⟩)]; rfl
    · rw [cdecF h2]; rfl
theorem rQSqrt_pos [x : Rz n q] (h : 4 * n + 40 ≤ LM) (hq : IsSq q) : swarfref02_Sqrt k (Q q) = some (Q (rsq q), true) := by
  obtain ⟨h0, h1, h2⟩ := (isSq_iff q).1 hq
  have hd := den_pos q
  unfold swarfref02_Sqrt
  rw [Q_num, Q_den, perfect_ok h, if_neg (by omega), Option.bind_some, perfect_ok h, if_neg (by omega), Option.bind_some, Int.toNat_natCast, cdec h1, cdec h2, Q_rsq hq]; rfl
theorem rQSqrt_neg [x : Rz n q] (h : 4 * n + 40 ≤ LM) (hq : ¬ IsSq q) : swarfref02_Sqrt k (Q q) = some (zR, false) := by
  have h0 := mt (isSq_iff q).2 hq
  have hd := den_pos q
  unfold swarfref02_Sqrt
  rw [Q_num, Q_den, perfect_ok h, perfect_ok h, Option.bind_some, if_neg (show ¬ ((q.den : Int) < 0) by omega), Option.bind_some, Int.toNat_natCast]
  by_cases h1 : q.num < 0
  · rw [if_pos h1]; rfl
  · rw [if_neg h1]
    by_cases h2 : Nat.sqrt q.num.toNat * Nat.sqrt q.num.toNat = q.num.toNat
    · rw [cdec h2, cdecF (fun h3 => h0 ⟨by omega, h2, h3⟩)]; rfl
    · rw [cdecF h2]; rfl
end
end Go.Proofs.YtbjkpogfgijmaaaGreat
