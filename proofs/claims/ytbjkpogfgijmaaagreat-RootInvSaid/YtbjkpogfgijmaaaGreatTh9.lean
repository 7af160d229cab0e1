/- Plain laws: the reference's limb arithmetic. -/
import Derived.Test.YtbjkpogfgijmaaaGreatTh8
namespace Go.Proofs.YtbjkpogfgijmaaaGreat
open Go
set_option linter.unusedVariables false
set_option linter.unusedSimpArgs false

theorem rtrim_ok {k : Nat} [F : Fuel k] {l : List Int} (h : Dig l) (hl : l.length ≤ LM) : swarfref01_trim k l = some (lim (val l).toNat) := trim_ok h hl
theorem rlimbs_ok {k : Nat} [F : Fuel k] {n : Nat} (h : (n : Int) < 18446744073709551616) : swarfref01_limbs k (n : Int) = some (lim n) := by
  have hlm := LM_val
  have h3 : (lim n).length ≤ 3 := lim_len_le (by simp [bp]; omega)
  unfold swarfref01_limbs
  refine Exists.elim (iter_ok (fun (x2 : (Int × List Int × Unit)) => swarfref01_limbs_L0 k x2.1 x2.2.1) (fun m s => ∃ o, s = ((m : Int), o, ()) ∧ o ++ lim m = lim n) (fun x => x = (lim n, ())) ?_ k n _ (F.lt (m := 3) (by simp [bp]; omega) (by omega)) ⟨[], rfl, rfl⟩) ?_
  rotate_left
  · rintro x ⟨hx, rfl⟩; rw [hx]; rfl
  · rintro m s ⟨o, rfl, ho⟩
    dsimp only
    unfold swarfref01_limbs_L0
    by_cases h0 : m = 0
    · right
      subst h0
      rw [lim_zero, List.append_nil] at ho
      exact ⟨_, by rw [cdecF (by omega), cond_false], by rw [ho]⟩
    · left
      have hol : o.length ≤ 3 := by rw [← ho, List.length_append] at h3; omega
      have hmn : m ≤ n := by
        have h1 := congrArg val ho
        rw [val_append, lim_val, lim_val] at h1
        have hd : Dig o := fun x hx => lim_dig n x (by rw [← ho]; simp [hx])
        have h2 := val_nonneg hd
        have h4 : 1 * (m : Int) ≤ bp o.length * m := Int.mul_le_mul_of_nonneg_right (by have := bp_pos o.length; omega) (by omega)
        omega
      refine ⟨_, m / 1000000000, ?_, by omega, o ++ [((m % 1000000000 : Nat) : Int)], rfl, ?_⟩
      · rw [cdec (by omega), cond_true, cdec (by simp; omega), cond_true, Int.tmod_eq_emod_of_nonneg (by omega), Int.tdiv_eq_ediv_of_nonneg (by omega), wU64 (by omega) (by omega), wU32 (by omega) (by omega)]
        simp
      · rw [← ho, lim_pos (n := m) (by omega)]; simp
theorem rsigned_ok {k : Nat} [F : Fuel k] (s : Bool) {l : List Int} (h : Dig l) (hl : l.length ≤ LM) : swarfref01_signed k s l = some (I (if s then -(val l) else val l)) := by
  unfold swarfref01_signed
  rw [rtrim_ok h hl, Option.bind_some]
  have e3 := I_of s (val l).toNat
  have e4 : ((val l).toNat : Int) = val l := by have := val_nonneg h; omega
  have e2 : decide (((lim (val l).toNat).length : Int) > 0) = decide (0 < (val l).toNat) := by
    have := @lim_length_pos (val l).toNat
    simp only [decide_eq_decide]; omega
  rw [e4] at e3
  rw [e2]
  cases s <;> simpa using e3
theorem rFromInt64_eq {k : Nat} [F : Fuel k] {z : Int} (h0 : -9223372036854775808 ≤ z) (h1 : z < 9223372036854775808) : swarfref01_FromInt64 k z = some (I z) := by
  have hlm := LM_val
  unfold swarfref01_FromInt64
  have h3 : (lim z.natAbs).length ≤ 3 := lim_len_le (by simp [bp]; omega)
  have e0 := rlimbs_ok (k := k) (n := z.natAbs) (by omega)
  by_cases hz : z < 0
  · have e1 : IntKind.u64.wrap (0 - IntKind.u64.wrap z) = (z.natAbs : Int) := by
      have : IntKind.u64.wrap z = z + 18446744073709551616 := by rw [wU64_eq]; omega
      rw [this, wU64_eq]; omega
    rw [cdec hz, cond_true, e1, e0, Option.bind_some, rsigned_ok _ (lim_dig _) (by omega), Option.bind_some, lim_val, if_pos rfl]
    congr 2; omega
  · have e1 : IntKind.u64.wrap z = (z.natAbs : Int) := by rw [wU64 (by omega) (by omega)]; omega
    rw [cdecF hz, cond_false, e1, e0, Option.bind_some, rsigned_ok _ (lim_dig _) (by omega), Option.bind_some, lim_val]
    simp only [Bool.false_eq_true, if_false]
    congr 2; omega
theorem rSign_eq {k : Nat} (z : Int) : swarfref01_Sign k (I z) = some (sgI z) := by
  unfold swarfref01_Sign sgI
  rw [I_neg, I_limbs]
  by_cases h0 : z = 0
  · subst h0; simp [lim_zero]
  · rw [beq_eq_false_iff_ne.2 (by have := nat_pos_iff.2 h0; omega), cond_false]
    by_cases h : z < 0
    · simp [h]
    · have : z > 0 := by omega
      simp [h, this]
theorem rNeg_eq {k : Nat} [F : Fuel k] {x : Int} {n : Nat} [a : Sz n x] (h : n ≤ LM := by decide) : swarfref01_Neg k (I x) = some (I (-x)) := by
  have ha := a.lim
  unfold swarfref01_Neg
  rw [I_neg, I_limbs, rsigned_ok _ (lim_dig _) (by omega), Option.bind_some, lim_val]
  congr 2
  by_cases hx : x < 0
  · simp [hx]; omega
  · simp [hx]; omega
theorem rshort_ok {k : Nat} [F : Fuel k] {l : List Int} (hd : Dig l) (hl : l.length ≤ 2) : swarfref01_short k l = some (val l) := by
  have hlm := LM_val
  unfold swarfref01_short
  have hv := val_lt hd
  refine Exists.elim (iter_ok (fun (x2 : (List Int × Int × Int × Unit)) => swarfref01_short_L0 k x2.1 x2.2.1 x2.2.2.1) (fun m s => m ≤ l.length ∧ s = (l, val (l.drop m), (m : Int) - 1, ())) (fun x => x = (val l, ())) ?_ k l.length (l, 0, IntKind.i64.wrap ((l.length : Int) - 1), ()) (F.len (by omega)) ⟨Nat.le_refl _, by rw [wI64 (by omega) (by omega), List.drop_length]; rfl⟩) ?_
  rotate_left
  · rintro x ⟨hx, rfl⟩; rw [hx]; rfl
  · rintro m s ⟨hm, rfl⟩
    dsimp only
    unfold swarfref01_short_L0
    by_cases h0 : m = 0
    · right
      subst h0
      exact ⟨_, by rw [cdecF (by omega), cond_false], by simp⟩
    · left
      obtain ⟨i, rfl⟩ : ∃ i, m = i + 1 := ⟨m - 1, by omega⟩
      have e1 : ((i + 1 : Nat) : Int) - 1 = i := by omega
      have hv2 := val_lt (hd.drop (i + 1))
      have hv3 := val_nonneg (hd.drop (i + 1))
      rw [List.length_drop] at hv2
      have hv4 : val (l.drop (i + 1)) < 1000000000 := by
        have : bp (l.length - (i + 1)) ≤ bp 1 := bp_mono (by omega)
        simp [bp] at this; omega
      have hx := hd.getD i
      refine ⟨_, i, ?_, by omega, by omega, rfl⟩
      rw [e1, cdec (by omega), cond_true, ixOk_of (by omega) (by omega), cond_true, Int.toNat_natCast, val_drop l i (by omega)]
      rw [wU64 (x := val (l.drop (i + 1)) * 1000000000) (by omega) (by omega), wU64 (x := l.getD i 0) (by omega) (by omega), wU64 (by omega) (by omega), wI64 (by omega) (by omega)]
      congr 4; omega
theorem rshort_lim {k : Nat} [F : Fuel k] {n : Nat} (hl : (lim n).length ≤ 2) : swarfref01_short k (lim n) = some (n : Int) := by
  rw [rshort_ok (lim_dig n) hl, lim_val]
theorem rcompare_ok {k : Nat} [F : Fuel k] {m n : Nat} (hm : (lim m).length ≤ LM) (hn : (lim n).length ≤ LM) : swarfref01_compare k (lim m) (lim n) = some (cmpI m n) := cmp_lims hm hn

/-! ### Sums -/
theorem rplus_loop {k : Nat} [F : Fuel k] {a b : List Int} (ha : Dig a) (hb : Dig b) (hl : b.length ≤ a.length) (hm : a.length + 1 ≤ LM) :
    ((iter (fun (x2 : (List Int × List Int × List Int × Int × Int × Unit)) => swarfref01_plus_L0 k x2.1 x2.2.1 x2.2.2.1 x2.2.2.2.1 x2.2.2.2.2.1) k (a, b, (List.replicate (IntKind.i64.wrap ((a.length : Int) + 1)).toNat (0 : Int)), 0, 0, ())).bind fun x1 =>
      bif ixOk (x1.1.length : Int) x1.2.1.length then
        (swarfref01_trim k (x1.2.1.set ((x1.1.length : Int).toNat) x1.2.2.1)).bind fun x3 =>
        some x3
      else
        none) = some (lim (val a + val b).toNat) := by
  have hlm := LM_val
  rw [wI64 (by omega) (by omega), show ((a.length : Int) + 1).toNat = a.length + 1 by omega]
  refine Exists.elim (iter_ok (fun (x2 : (List Int × List Int × List Int × Int × Int × Unit)) => swarfref01_plus_L0 k x2.1 x2.2.1 x2.2.2.1 x2.2.2.2.1 x2.2.2.2.2.1) (fun n s => ∃ (i : Nat) (o : List Int) (c : Int), n = a.length - i ∧ i ≤ a.length ∧ s = (a, b, o, c, (i : Int), ()) ∧ o.length = a.length + 1 ∧ Dig o ∧ 0 ≤ c ∧ c ≤ 1 ∧ (∀ j, i ≤ j → o.getD j 0 = 0) ∧ val o + bp i * c = val (a.take i) + val (b.take i))
    (fun x => ∃ o c, x = (a, o, c, ()) ∧ o.length = a.length + 1 ∧ Dig o ∧ 0 ≤ c ∧ c ≤ 1 ∧ o.getD a.length 0 = 0 ∧ val o + bp a.length * c = val a + val b) ?_ k a.length (a, b, List.replicate (a.length + 1) 0, 0, 0, ()) (F.len (by omega)) ⟨0, _, 0, by omega, by omega, rfl, by simp, Dig.replicate _, by simp, by simp, fun j _ => getD_replicate _ _, by simp [val, val_replicate]⟩) ?_
  rotate_left
  · rintro x ⟨hx, o, c, rfl, h1, h2, h3, h4, h5, h6⟩
    rw [hx]
    simp only [Option.bind_some, Int.toNat_natCast]
    rw [ixOk_of (by omega) (by omega), cond_true, rtrim_ok (h2.set _ h3 (by omega)) (by simp; omega), val_set _ _ _ (by omega), h5]
    simp only [Int.sub_zero, h6]; rfl
  · rintro n s ⟨i, o, c, rfl, hi, rfl, hol, hod, hc0, hc1, hz, hv⟩
    dsimp only
    unfold swarfref01_plus_L0
    by_cases h0 : i = a.length
    · right
      subst h0
      refine ⟨_, by rw [cdecF (by omega), cond_false], o, c, rfl, hol, hod, hc0, hc1, hz _ (Nat.le_refl _), ?_⟩
      rw [val_take_all a (Nat.le_refl _), val_take_all b hl] at hv; exact hv
    · left
      have hx := ha.getD i
      have hy := hb.getD i
      have ea := val_take_succ a i
      have eb := val_take_succ b i
      have e1 : ixOk (i : Int) a.length = true := ixOk_of (by omega) (by omega)
      have e2 : ixOk (i : Int) o.length = true := ixOk_of (by omega) (by omega)
      have w3 : IntKind.i64.wrap ((i : Int) + 1) = ((i + 1 : Nat) : Int) := by rw [wI64 (by omega) (by omega)]; omega
      have w1 : IntKind.u32.wrap (c + a.getD i 0) = c + a.getD i 0 := wU32 (by omega) (by omega)
      have w2 : IntKind.u32.wrap (c + a.getD i 0 + b.getD i 0) = c + a.getD i 0 + b.getD i 0 := wU32 (by omega) (by omega)
      have key : ∀ t : Int, t = c + a.getD i 0 + b.getD i 0 → ∃ s' m, some (Sum.inl (a, b, o.set i (t.tmod 1000000000), IntKind.u32.wrap (t.tdiv 1000000000), ((i + 1 : Nat) : Int), ())) = some (Sum.inl s' : (List Int × List Int × List Int × Int × Int × Unit) ⊕ (List Int × List Int × Int × Unit)) ∧ m < a.length - i ∧
          ∃ (i_1 : Nat) (o : List Int) (c : Int), m = a.length - i_1 ∧ i_1 ≤ a.length ∧ s' = (a, b, o, c, (i_1 : Int), ()) ∧ o.length = a.length + 1 ∧ Dig o ∧ 0 ≤ c ∧ c ≤ 1 ∧ (∀ j, i_1 ≤ j → o.getD j 0 = 0) ∧ val o + bp i_1 * c = val (a.take i_1) + val (b.take i_1) := by
        intro t ht
        have t0 : 0 ≤ t := by omega
        rw [Int.tmod_eq_emod_of_nonneg t0, Int.tdiv_eq_ediv_of_nonneg t0, wU32 (by omega) (by omega)]
        refine ⟨_, a.length - (i + 1), rfl, by omega, i + 1, _, _, rfl, by omega, rfl, by simp [hol], hod.set _ (by omega) (by omega), by omega, by omega, fun j hj => ?_, ?_⟩
        · rw [getD_set _ _ _ _ (by omega), if_neg (by omega)]; exact hz j (by omega)
        · rw [val_set _ _ _ (by omega), hz i (Nat.le_refl _), ea, eb]; simp only [bp]
          have hdm : t = 1000000000 * (t / 1000000000) + t % 1000000000 := by omega
          generalize t / 1000000000 = q at *
          generalize t % 1000000000 = e at *
          grind
      rw [cdec (by omega), cond_true]
      simp only [e1, cond_true, Int.toNat_natCast, e2, w3, w1]
      by_cases hib : (i : Int) < (b.length : Int)
      · have e4 : ixOk (i : Int) b.length = true := ixOk_of (by omega) (by omega)
        simp only [cdec hib, cond_true, e4, w2]
        exact key _ rfl
      · simp only [cdecF hib, cond_false]
        have h0 : b.getD i 0 = 0 := getD_out (by omega)
        exact key _ (by rw [h0]; omega)
theorem rplus_ok {k : Nat} [F : Fuel k] {a b : List Int} (ha : Dig a) (hb : Dig b) (hla : a.length + 1 ≤ LM) (hlb : b.length + 1 ≤ LM) : swarfref01_plus k a b = some (lim (val a + val b).toNat) := by
  have hlm := LM_val
  unfold swarfref01_plus
  by_cases h : (a.length : Int) < (b.length : Int)
  · rw [cdec h, cond_true]
    have w1 : IntKind.i64.wrap ((b.length : Int) + 1) = ((b.length + 1 : Nat) : Int) := by rw [wI64 (by omega) (by omega)]; omega
    have e2 := make_ok hlb
    rw [← w1] at e2
    rw [e2, cond_true, Int.add_comm (val a)]
    exact rplus_loop (k := k) hb ha (by omega) hlb
  · rw [cdecF h, cond_false]
    have w1 : IntKind.i64.wrap ((a.length : Int) + 1) = ((a.length + 1 : Nat) : Int) := by rw [wI64 (by omega) (by omega)]; omega
    have e2 := make_ok hla
    rw [← w1] at e2
    rw [e2, cond_true]
    exact rplus_loop (k := k) ha hb (by omega) hla

/-! ### Differences -/
theorem rminus_ok {k : Nat} [F : Fuel k] {a b : List Int} (ha : Dig a) (hb : Dig b) (hl : b.length ≤ a.length) (hm : a.length ≤ LM) (hle : val b ≤ val a) : swarfref01_minus k a b = some (lim (val a - val b).toNat) := by
  have hlm := LM_val
  unfold swarfref01_minus
  rw [make_ok hm, cond_true]
  refine Exists.elim (iter_ok (fun (x2 : (List Int × List Int × List Int × Int × Int × Unit)) => swarfref01_minus_L0 k x2.1 x2.2.1 x2.2.2.1 x2.2.2.2.1 x2.2.2.2.2.1) (fun n s => ∃ (i : Nat) (o : List Int) (c : Int), n = a.length - i ∧ i ≤ a.length ∧ s = (a, b, o, c, (i : Int), ()) ∧ o.length = a.length ∧ Dig o ∧ 0 ≤ c ∧ c ≤ 1 ∧ (∀ j, i ≤ j → o.getD j 0 = 0) ∧ val o - bp i * c = val (a.take i) - val (b.take i))
    (fun x => ∃ o c, x = (o, ()) ∧ o.length = a.length ∧ Dig o ∧ 0 ≤ c ∧ c ≤ 1 ∧ val o - bp a.length * c = val a - val b) ?_ k a.length (a, b, List.replicate (a.length : Int).toNat 0, 0, 0, ()) (F.len (by omega)) ⟨0, _, 0, by omega, by omega, rfl, by simp, Dig.replicate _, by simp, by simp, fun j _ => getD_replicate _ _, by simp [val, val_replicate]⟩) ?_
  rotate_left
  · rintro x ⟨hx, o, c, rfl, h1, h2, h3, h4, h5⟩
    have hc : c = 0 := by
      have := bp_pos a.length; have := val_lt h2
      rw [h1] at this
      by_cases hc : c = 0
      · exact hc
      · have : c = 1 := by omega
        subst this; omega
    subst hc
    rw [hx]
    simp only [Option.bind_some]
    rw [rtrim_ok h2 (by omega), Option.bind_some]
    congr 3; omega
  · rintro n s ⟨i, o, c, rfl, hi, rfl, hol, hod, hc0, hc1, hz, hv⟩
    dsimp only
    unfold swarfref01_minus_L0
    by_cases h0 : i = a.length
    · right
      subst h0
      refine ⟨_, by rw [cdecF (by omega), cond_false], o, c, rfl, hol, hod, hc0, hc1, ?_⟩
      rw [val_take_all a (Nat.le_refl _), val_take_all b hl] at hv; exact hv
    · left
      have hx := ha.getD i
      have hy := hb.getD i
      have ea := val_take_succ a i
      have eb := val_take_succ b i
      have e1 : ixOk (i : Int) a.length = true := ixOk_of (by omega) (by omega)
      have e2 : ixOk (i : Int) o.length = true := ixOk_of (by omega) (by omega)
      have w3 : IntKind.i64.wrap ((i : Int) + 1) = ((i + 1 : Nat) : Int) := by rw [wI64 (by omega) (by omega)]; omega
      have w1 : IntKind.u32.wrap (a.getD i 0 + 1000000000) = a.getD i 0 + 1000000000 := wU32 (by omega) (by omega)
      have w2 : IntKind.u32.wrap (a.getD i 0 + 1000000000 - c) = a.getD i 0 + 1000000000 - c := wU32 (by omega) (by omega)
      have w4 : IntKind.u32.wrap (a.getD i 0 + 1000000000 - c - b.getD i 0) = a.getD i 0 + 1000000000 - c - b.getD i 0 := wU32 (by omega) (by omega)
      have key : ∀ t : Int, t = a.getD i 0 + 1000000000 - c - b.getD i 0 → ∃ s' m, (bif decide (t ≥ 1000000000) then some (Sum.inl (a, b, o.set i (IntKind.u32.wrap (t - 1000000000)), 0, ((i + 1 : Nat) : Int), ())) else some (Sum.inl (a, b, o.set i t, 1, ((i + 1 : Nat) : Int), ()))) = some (Sum.inl s' : (List Int × List Int × List Int × Int × Int × Unit) ⊕ (List Int × Unit)) ∧ m < a.length - i ∧
          ∃ (i_1 : Nat) (o : List Int) (c : Int), m = a.length - i_1 ∧ i_1 ≤ a.length ∧ s' = (a, b, o, c, (i_1 : Int), ()) ∧ o.length = a.length ∧ Dig o ∧ 0 ≤ c ∧ c ≤ 1 ∧ (∀ j, i_1 ≤ j → o.getD j 0 = 0) ∧ val o - bp i_1 * c = val (a.take i_1) - val (b.take i_1) := by
        intro t ht
        have hz' : ∀ x : Int, ∀ j, i + 1 ≤ j → (o.set i x).getD j 0 = 0 := fun x j hj => by
          rw [getD_set _ _ _ _ (by omega), if_neg (by omega)]; exact hz j (by omega)
        by_cases hs : t ≥ 1000000000
        · rw [cdec hs, cond_true, wU32 (by omega) (by omega)]
          refine ⟨_, a.length - (i + 1), rfl, by omega, i + 1, _, _, rfl, by omega, rfl, by simp [hol], hod.set _ (by omega) (by omega), by simp, by simp, hz' _, ?_⟩
          rw [val_set _ _ _ (by omega), hz i (Nat.le_refl _), ea, eb]; simp only [bp]; grind
        · rw [cdecF hs, cond_false]
          refine ⟨_, a.length - (i + 1), rfl, by omega, i + 1, _, _, rfl, by omega, rfl, by simp [hol], hod.set _ (by omega) (by omega), by simp, by simp, hz' _, ?_⟩
          rw [val_set _ _ _ (by omega), hz i (Nat.le_refl _), ea, eb]; simp only [bp]; grind
      rw [cdec (by omega), cond_true]
      simp only [e1, cond_true, Int.toNat_natCast, e2, w3, w1, w2]
      by_cases hib : (i : Int) < (b.length : Int)
      · have e4 : ixOk (i : Int) b.length = true := ixOk_of (by omega) (by omega)
        simp only [cdec hib, cond_true, e4, w4]
        exact key _ rfl
      · simp only [cdecF hib, cond_false]
        have h0 : b.getD i 0 = 0 := getD_out (by omega)
        exact key _ (by rw [h0]; omega)

/-! ### Products -/
theorem rtimes_inner {k : Nat} [F : Fuel k] {a b o : List Int} {i : Nat} (ha : Dig a) (hb : Dig b) (ho : Dig o) (hi : i < a.length) (hol : o.length = a.length + b.length) (hm : a.length + b.length ≤ LM) :
    ∃ x, iter (fun (x2 : (List Int × List Int × List Int × Int × Int × Int × Unit)) => swarfref01_times_L2 k x2.1 x2.2.1 x2.2.2.1 x2.2.2.2.1 x2.2.2.2.2.1 x2.2.2.2.2.2.1) k (a, b, o, (i : Int), 0, 0, ()) = some x ∧
      ∃ o' c, x = (a, b, o', (i : Int), c, ()) ∧ Dig o' ∧ o'.length = o.length ∧ 0 ≤ c ∧ c < 1000000000 ∧ (∀ j, i + b.length ≤ j → o'.getD j 0 = o.getD j 0) ∧ val o' + bp (i + b.length) * c = val o + bp i * (a.getD i 0 * val b) := by
  have hlm := LM_val
  refine iter_ok _ (fun n s => ∃ (j : Nat) (o' : List Int) (c : Int), n = b.length - j ∧ j ≤ b.length ∧ s = (a, b, o', (i : Int), c, (j : Int), ()) ∧ Dig o' ∧ o'.length = o.length ∧ 0 ≤ c ∧ c < 1000000000 ∧ (∀ l, i + j ≤ l → o'.getD l 0 = o.getD l 0) ∧ val o' + bp (i + j) * c = val o + bp i * (a.getD i 0 * val (b.take j))) _ ?_ k b.length _ (F.len (by omega)) ⟨0, o, 0, by omega, by omega, rfl, ho, rfl, by simp, by simp, fun _ _ => rfl, by simp [val]⟩
  rintro n s ⟨j, o', c, rfl, hj, rfl, hod, hol', hc0, hc1, hsame, hv⟩
  dsimp only
  unfold swarfref01_times_L2
  by_cases h0 : j = b.length
  · right
    subst h0
    refine ⟨_, by rw [cdecF (by omega), cond_false], o', c, rfl, hod, hol', hc0, hc1, hsame, ?_⟩
    rw [val_take_all b (Nat.le_refl _)] at hv; exact hv
  · left
    have hlt : j < b.length := by omega
    have hx := ha.getD i
    have hy := hb.getD j
    have hz := hod.getD (i + j)
    have hxy := Dig.prod hx hy
    have eb := val_take_succ b j
    have e0 : ixOk (i : Int) a.length = true := ixOk_of (by omega) (by omega)
    have e1 : ixOk (j : Int) b.length = true := ixOk_of (by omega) (by omega)
    have w1 : IntKind.i64.wrap ((i : Int) + (j : Int)) = ((i + j : Nat) : Int) := by rw [wI64 (by omega) (by omega)]; omega
    have e2 : ixOk ((i + j : Nat) : Int) o'.length = true := ixOk_of (by omega) (by omega)
    have w3 : IntKind.i64.wrap ((j : Int) + 1) = ((j + 1 : Nat) : Int) := by rw [wI64 (by omega) (by omega)]; omega
    have w4 : IntKind.u64.wrap (o'.getD (i + j) 0) = o'.getD (i + j) 0 := wU64 (by omega) (by omega)
    have w5 : IntKind.u64.wrap (a.getD i 0) = a.getD i 0 := wU64 (by omega) (by omega)
    have w6 : IntKind.u64.wrap (b.getD j 0) = b.getD j 0 := wU64 (by omega) (by omega)
    have w7 : IntKind.u64.wrap (a.getD i 0 * b.getD j 0) = a.getD i 0 * b.getD j 0 := wU64 (by omega) (by omega)
    have w8 : IntKind.u64.wrap (c + o'.getD (i + j) 0) = c + o'.getD (i + j) 0 := wU64 (by omega) (by omega)
    have w9 : IntKind.u64.wrap (c + o'.getD (i + j) 0 + a.getD i 0 * b.getD j 0) = c + o'.getD (i + j) 0 + a.getD i 0 * b.getD j 0 := wU64 (by omega) (by omega)
    rw [cdec (by omega), cond_true]
    simp only [e0, e1, e2, cond_true, Int.toNat_natCast, w1, w3, w4, w5, w6, w7, w8, w9]
    generalize ht : c + o'.getD (i + j) 0 + a.getD i 0 * b.getD j 0 = t
    have t0 : 0 ≤ t := by omega
    have t1 : t < 1000000000 * 1000000000 := by omega
    rw [Int.tmod_eq_emod_of_nonneg t0, Int.tdiv_eq_ediv_of_nonneg t0, wU32 (by omega) (by omega), wU64 (by omega) (by omega)]
    refine ⟨_, b.length - (j + 1), rfl, by omega, j + 1, _, _, rfl, by omega, rfl, hod.set _ (by omega) (by omega), by simp [hol'], by omega, by omega, fun l hl => ?_, ?_⟩
    · rw [getD_set _ _ _ _ (by omega), if_neg (by omega)]; exact hsame l (by omega)
    · rw [val_set _ _ _ (by omega), eb, ← Nat.add_assoc]
      simp only [bp]
      have hb' := bp_add i j
      have hdm : t = 1000000000 * (t / 1000000000) + t % 1000000000 := by omega
      generalize t / 1000000000 = q at *
      generalize t % 1000000000 = r at *
      grind
theorem rtimes_ok {k : Nat} [F : Fuel k] {a b : List Int} (ha : Dig a) (hb : Dig b) (hm : a.length + b.length ≤ LM) : swarfref01_times k a b = some (lim (val a * val b).toNat) := by
  have hlm := LM_val
  unfold swarfref01_times
  have w0 : IntKind.i64.wrap ((a.length : Int) + (b.length : Int)) = ((a.length + b.length : Nat) : Int) := by rw [wI64 (by omega) (by omega)]; omega
  simp only [w0, make_ok hm, cond_true]
  rw [Int.toNat_natCast]
  refine Exists.elim (iter_ok (fun (x4 : (List Int × List Int × List Int × Int × Unit)) => swarfref01_times_L0 k x4.1 x4.2.1 x4.2.2.1 x4.2.2.2.1) (fun n s => ∃ (i : Nat) (o : List Int), n = a.length - i ∧ i ≤ a.length ∧ s = (a, b, o, (i : Int), ()) ∧ Dig o ∧ o.length = a.length + b.length ∧ (∀ j, i + b.length ≤ j → o.getD j 0 = 0) ∧ val o = val (a.take i) * val b)
    (fun x => ∃ o, x = (o, ()) ∧ Dig o ∧ o.length = a.length + b.length ∧ val o = val a * val b) ?_ k a.length (a, b, List.replicate (a.length + b.length) 0, 0, ()) (F.len (by omega)) ⟨0, _, by omega, by omega, rfl, Dig.replicate _, by rw [List.length_replicate], fun j _ => getD_replicate _ _, by simp [val, val_replicate]⟩) ?_
  rotate_left
  · rintro x ⟨hx, o, rfl, h1, h2, h3⟩
    rw [hx]
    simp only [Option.bind_some]
    rw [rtrim_ok h1 (by omega), h3]; rfl
  · rintro n s ⟨i, o, rfl, hi, rfl, hod, hol, hz, hv⟩
    dsimp only
    unfold swarfref01_times_L0
    by_cases h0 : i = a.length
    · right
      subst h0
      refine ⟨_, by rw [cdecF (by omega), cond_false], o, rfl, hod, hol, ?_⟩
      rw [val_take_all a (Nat.le_refl _)] at hv; exact hv
    · left
      have w1 : IntKind.i64.wrap ((i : Int) + (b.length : Int)) = ((i + b.length : Nat) : Int) := by rw [wI64 (by omega) (by omega)]; omega
      have w3 : IntKind.i64.wrap ((i : Int) + 1) = ((i + 1 : Nat) : Int) := by rw [wI64 (by omega) (by omega)]; omega
      obtain ⟨x, hx, o', c, rfl, ho', hol', hc0, hc1, hs, hv'⟩ := rtimes_inner (k := k) ha hb hod (i := i) (by omega) hol hm
      have e2 : ixOk ((i + b.length : Nat) : Int) o'.length = true := ixOk_of (by omega) (by omega)
      rw [cdec (by omega), cond_true]
      simp only [hx, Option.bind_some, w1, w3, e2, cond_true, Int.toNat_natCast]
      rw [wU32 (by omega) (by omega)]
      refine ⟨_, a.length - (i + 1), rfl, by omega, i + 1, _, rfl, by omega, rfl, ho'.set _ hc0 hc1, by simp; omega, fun j hj => ?_, ?_⟩
      · rw [getD_set _ _ _ _ (by omega), if_neg (by omega), hs j (by omega)]; exact hz j (by omega)
      · rw [val_set _ _ _ (by omega), hs _ (by omega), hz _ (by omega), val_take_succ]
        grind
theorem rby_ok {k : Nat} [F : Fuel k] {a : List Int} {n : Nat} (ha : Dig a) (hn : n < 1000000000) (hm : a.length + 1 ≤ LM) : swarfref01_by k a (n : Int) = some (lim (val a * n).toNat) := by
  have hlm := LM_val
  unfold swarfref01_by
  have hd : Dig [(n : Int)] := Dig.cons (by omega) (by omega) Dig.nil
  have hl : (lim n).length ≤ 1 := lim_len_le (by simp [bp]; omega)
  have hv : (val [(n : Int)]).toNat = n := by simp [val]
  rw [rtrim_ok hd (by simp; omega), hv, Option.bind_some, rtimes_ok ha (lim_dig n) (by omega), lim_val]; rfl
end Go.Proofs.YtbjkpogfgijmaaaGreat
