/- Plain laws: the program's sums, differences, products and quotients of limbs. -/
import Derived.Test.YtbjkpogfgijmaaaGreatTh1
namespace Go.Proofs.YtbjkpogfgijmaaaGreat
open Go
set_option linter.unusedVariables false
set_option linter.unusedSimpArgs false

theorem cdec {p : Prop} [Decidable p] (h : p) : decide p = true := by simp [h]
theorem cdecF {p : Prop} [Decidable p] (h : ¬ p) : decide p = false := by simp [h]
theorem carry_zero {v c P : Int} (hv : v < P) (h0 : 0 ≤ v) (hc : 0 ≤ c) (h : v + c * P < P) : c = 0 := by
  rcases ilt_or_ge 0 c with h1 | h1
  · have : P ≤ c * P := by have := Int.mul_le_mul_of_nonneg_right (show (1 : Int) ≤ c by omega) (show (0 : Int) ≤ P by omega); omega
    omega
  · omega

/-! ### Sums -/
theorem plus_loop {k : Nat} [F : Fuel k] {a b : List Int} (ha : Dig a) (hb : Dig b) (hl : b.length ≤ a.length) (hm : a.length + 1 ≤ LM) :
    ∃ x, iter (fun (x2 : (List Int × List Int × Int × List Int × Int × Int × Unit)) => integer_plus_L0 k x2.1 x2.2.1 x2.2.2.1 x2.2.2.2.1 x2.2.2.2.2.1 x2.2.2.2.2.2.1) k (b, [], 0, a, (a.length : Int), 0, ()) = some x ∧
      Dig x.1 ∧ 0 ≤ x.2.1 ∧ x.2.1 ≤ 1 ∧ x.1.length = a.length ∧ val x.1 + bp a.length * x.2.1 = val a + val b := by
  have hlm := LM_val
  refine iter_ok _ (fun n s => ∃ (i : Nat) (o : List Int) (c : Int), n = a.length - i ∧ i ≤ a.length ∧ s = (b, o, c, a, (a.length : Int), (i : Int), ()) ∧ o.length = i ∧ Dig o ∧ 0 ≤ c ∧ c ≤ 1 ∧ val o + bp i * c = val (a.take i) + val (b.take i)) _ ?_ k a.length _ (F.len (by omega)) ⟨0, [], 0, by omega, by omega, rfl, rfl, Dig.nil, by simp, by simp, by simp [val]⟩
  rintro n s ⟨i, o, c, rfl, hi, rfl, hol, hod, hc0, hc1, hv⟩
  dsimp only
  unfold integer_plus_L0
  by_cases h0 : i = a.length
  · right
    subst h0
    refine ⟨(o, c, ()), by simp, hod, hc0, hc1, hol, ?_⟩
    rw [val_take_all a (Nat.le_refl _), val_take_all b hl] at hv; exact hv
  · left
    have hlt : i < a.length := by omega
    have hx := ha.getD i
    have hy := hb.getD i
    have ea := val_take_succ a i
    have eb := val_take_succ b i
    have e1 : ixOk (i : Int) a.length = true := ixOk_of (by omega) (by omega)
    have w1 : IntKind.u32.wrap (a.getD i 0 + c) = a.getD i 0 + c := wU32 (by omega) (by omega)
    have w2 : IntKind.u32.wrap (a.getD i 0 + c + b.getD i 0) = a.getD i 0 + c + b.getD i 0 := wU32 (by omega) (by omega)
    have w3 : IntKind.i64.wrap ((i : Int) + 1) = ((i + 1 : Nat) : Int) := by rw [wI64 (by omega) (by omega)]; omega
    have e2 : ∀ z : Int, decide ((o.length + ([z] : List Int).length) * 4 ≤ 140737488355328) = true := fun z => by simp; omega
    have key : ∀ y : Int, y = b.getD i 0 → ∃ s' m, (bif decide (a.getD i 0 + c + y ≥ 1000000000) then some (Sum.inl (b, o ++ [IntKind.u32.wrap (a.getD i 0 + c + y - 1000000000)], 1, a, (a.length : Int), ((i + 1 : Nat) : Int), ()))
        else some (Sum.inl (b, o ++ [a.getD i 0 + c + y], 0, a, (a.length : Int), ((i + 1 : Nat) : Int), ()))) = some (Sum.inl s' : (List Int × List Int × Int × List Int × Int × Int × Unit) ⊕ (List Int × Int × Unit)) ∧ m < a.length - i ∧
        ∃ (i_1 : Nat) (o : List Int) (c : Int), m = a.length - i_1 ∧ i_1 ≤ a.length ∧ s' = (b, o, c, a, (a.length : Int), (i_1 : Int), ()) ∧ o.length = i_1 ∧ Dig o ∧ 0 ≤ c ∧ c ≤ 1 ∧ val o + bp i_1 * c = val (a.take i_1) + val (b.take i_1) := by
      rintro y rfl
      by_cases hs : a.getD i 0 + c + b.getD i 0 ≥ 1000000000
      · rw [cdec hs, cond_true, wU32 (by omega) (by omega)]
        refine ⟨_, a.length - (i + 1), rfl, by omega, i + 1, _, _, rfl, by omega, rfl, by simp [hol], hod.append (Dig.cons (by omega) (by omega) Dig.nil), by simp, by simp, ?_⟩
        simp only [val_append, hol, val, bp]; rw [ea, eb]; grind
      · rw [cdecF hs, cond_false]
        refine ⟨_, a.length - (i + 1), rfl, by omega, i + 1, _, _, rfl, by omega, rfl, by simp [hol], hod.append (Dig.cons (by omega) (by omega) Dig.nil), by simp, by simp, ?_⟩
        simp only [val_append, hol, val, bp]; rw [ea, eb]; grind
    have e3 : decide ((i : Int) < (a.length : Int)) = true := by simp; omega
    simp only [e1, e3, cond_true, Int.toNat_natCast, w1]
    by_cases hib : (i : Int) < (b.length : Int)
    · have e4 : ixOk (i : Int) b.length = true := ixOk_of (by omega) (by omega)
      simp only [cdec hib, cond_true, e4, w2, w3, e2]
      exact key _ rfl
    · simp only [cdecF hib, cond_false, w3, e2, cond_true]
      have h0 : b.getD i 0 = 0 := getD_out (by omega)
      have := key 0 h0.symm
      simpa only [Int.add_zero] using this
theorem plus_ok {k : Nat} [F : Fuel k] {a b : List Int} (ha : Dig a) (hb : Dig b) (hla : a.length + 1 ≤ LM) (hlb : b.length + 1 ≤ LM) :
    ∃ r, integer_plus k a b = some r ∧ Dig r ∧ val r = val a + val b ∧ r.length = max a.length b.length + 1 := by
  have hlm := LM_val
  unfold integer_plus
  have fin : ∀ {a b : List Int}, Dig a → Dig b → b.length ≤ a.length → a.length + 1 ≤ LM → ∃ r, ((iter (fun (x2 : (List Int × List Int × Int × List Int × Int × Int × Unit)) => integer_plus_L0 k x2.1 x2.2.1 x2.2.2.1 x2.2.2.2.1 x2.2.2.2.2.1 x2.2.2.2.2.2.1) k (b, (List.replicate 0 (0 : Int)), 0, a, (a.length : Int), 0, ())).bind fun x1 =>
      bif decide ((x1.1.length + ([x1.2.1] : List Int).length) * 4 ≤ 140737488355328) then some (x1.1 ++ ([x1.2.1] : List Int)) else none) = some r ∧ Dig r ∧ val r = val a + val b ∧ r.length = a.length + 1 := by
    intro a b ha hb hl hm
    obtain ⟨x, hx, h1, h2, h3, h4, h5⟩ := plus_loop (k := k) ha hb hl hm
    refine ⟨x.1 ++ [x.2.1], ?_, h1.append (Dig.cons h2 (by omega) Dig.nil), ?_, by simp [h4]⟩
    · rw [List.replicate_zero, hx]
      clear hx
      have : decide ((x.1.length + ([x.2.1] : List Int).length) * 4 ≤ 140737488355328) = true := by rw [h4]; simp; omega
      simp only [Option.bind_some, this, cond_true]
    · rw [val_append]; simp only [val, Int.mul_zero, Int.add_zero]; rw [h4]; omega
  by_cases h : (a.length : Int) < (b.length : Int)
  · have e1 : IntKind.i64.wrap ((b.length : Int) + 1) = (b.length : Int) + 1 := wI64 (by omega) (by omega)
    have e2 : ((decide (0 ≤ 0)) && (decide (0 ≤ IntKind.i64.wrap ((b.length : Int) + 1)) && decide ((IntKind.i64.wrap ((b.length : Int) + 1)) * ((4 : Nat) : Int) ≤ 281474976710656))) = true := by
      rw [e1]; simp; omega
    rw [cdec h, cond_true, e2, cond_true]
    obtain ⟨r, h1, h2, h3, h4⟩ := fin hb ha (by omega) hlb
    exact ⟨r, h1, h2, by omega, by omega⟩
  · have e1 : IntKind.i64.wrap ((a.length : Int) + 1) = (a.length : Int) + 1 := wI64 (by omega) (by omega)
    have e2 : ((decide (0 ≤ 0)) && (decide (0 ≤ IntKind.i64.wrap ((a.length : Int) + 1)) && decide ((IntKind.i64.wrap ((a.length : Int) + 1)) * ((4 : Nat) : Int) ≤ 281474976710656))) = true := by
      rw [e1]; simp; omega
    rw [cdecF h, cond_false, e2, cond_true]
    obtain ⟨r, h1, h2, h3, h4⟩ := fin ha hb (by omega) hla
    exact ⟨r, h1, h2, h3, by omega⟩

/-! ### Differences -/
theorem make_ok {n : Nat} (h : n ≤ LM) : ((decide (0 ≤ (n : Int))) && (decide ((n : Int) ≤ (n : Int)) && decide ((n : Int) * ((4 : Nat) : Int) ≤ 281474976710656))) = true := by
  have := LM_val; simp; omega
theorem minus_ok {k : Nat} [F : Fuel k] {a b : List Int} (ha : Dig a) (hb : Dig b) (hl : b.length ≤ a.length) (hm : a.length ≤ LM) (hle : val b ≤ val a) :
    ∃ r, integer_minus k a b = some r ∧ Dig r ∧ val r = val a - val b ∧ r.length = a.length := by
  have hlm := LM_val
  unfold integer_minus
  rw [make_ok hm, cond_true]
  obtain ⟨x, hx, h1, h2, c, h3, h4, h5⟩ : ∃ x, iter (fun (x2 : (List Int × List Int × Int × List Int × Int × Int × Unit)) => integer_minus_L0 k x2.1 x2.2.1 x2.2.2.1 x2.2.2.2.1 x2.2.2.2.2.1 x2.2.2.2.2.2.1) k (b, (List.replicate (a.length : Int).toNat (0 : Int)), 0, a, (a.length : Int), 0, ()) = some x ∧
      Dig x.1 ∧ x.1.length = a.length ∧ ∃ c : Int, 0 ≤ c ∧ c ≤ 1 ∧ val x.1 - bp a.length * c = val a - val b := by
    refine iter_ok _ (fun n s => ∃ (i : Nat) (o : List Int) (c : Int), n = a.length - i ∧ i ≤ a.length ∧ s = (b, o, c, a, (a.length : Int), (i : Int), ()) ∧ o.length = a.length ∧ Dig o ∧ 0 ≤ c ∧ c ≤ 1 ∧ (∀ j, i ≤ j → o.getD j 0 = 0) ∧ val o - bp i * c = val (a.take i) - val (b.take i)) _ ?_ k a.length _ (F.len (by omega)) ⟨0, _, _, by omega, by omega, rfl, by simp, Dig.replicate _, by simp, by simp, fun j _ => getD_replicate _ _, by simp [val, val_replicate]⟩
    rintro n s ⟨i, o, c, rfl, hi, rfl, hol, hod, hc0, hc1, hz, hv⟩
    dsimp only
    unfold integer_minus_L0
    by_cases h0 : i = a.length
    · right
      subst h0
      refine ⟨(o, ()), by simp, hod, hol, c, hc0, hc1, ?_⟩
      rw [val_take_all a (Nat.le_refl _), val_take_all b hl] at hv; exact hv
    · left
      have hlt : i < a.length := by omega
      have hx := ha.getD i
      have hy := hb.getD i
      have ea := val_take_succ a i
      have eb := val_take_succ b i
      have e1 : ixOk (i : Int) a.length = true := ixOk_of (by omega) (by omega)
      have e2 : ixOk (i : Int) o.length = true := ixOk_of (by omega) (by omega)
      have w2 : IntKind.u32.wrap (c + b.getD i 0) = c + b.getD i 0 := wU32 (by omega) (by omega)
      have w3 : IntKind.i64.wrap ((i : Int) + 1) = ((i + 1 : Nat) : Int) := by rw [wI64 (by omega) (by omega)]; omega
      have w4 : IntKind.u32.wrap (a.getD i 0 + 1000000000) = a.getD i 0 + 1000000000 := wU32 (by omega) (by omega)
      have e3 : decide ((i : Int) < (a.length : Int)) = true := by simp; omega
      have key : ∀ y : Int, y = c + b.getD i 0 → ∃ s' m, (bif decide (a.getD i 0 < y) then some (Sum.inl (b, o.set i (IntKind.u32.wrap (a.getD i 0 + 1000000000 - y)), 1, a, (a.length : Int), ((i + 1 : Nat) : Int), ()))
          else some (Sum.inl (b, o.set i (IntKind.u32.wrap (a.getD i 0 - y)), 0, a, (a.length : Int), ((i + 1 : Nat) : Int), ()))) = some (Sum.inl s' : (List Int × List Int × Int × List Int × Int × Int × Unit) ⊕ (List Int × Unit)) ∧ m < a.length - i ∧
          ∃ (i_1 : Nat) (o : List Int) (c : Int), m = a.length - i_1 ∧ i_1 ≤ a.length ∧ s' = (b, o, c, a, (a.length : Int), (i_1 : Int), ()) ∧ o.length = a.length ∧ Dig o ∧ 0 ≤ c ∧ c ≤ 1 ∧ (∀ j, i_1 ≤ j → o.getD j 0 = 0) ∧ val o - bp i_1 * c = val (a.take i_1) - val (b.take i_1) := by
        rintro y rfl
        have hz' : ∀ x : Int, ∀ j, i + 1 ≤ j → (o.set i x).getD j 0 = 0 := fun x j hj => by
          rw [getD_set _ _ _ _ (by omega), if_neg (by omega)]; exact hz j (by omega)
        by_cases hs : a.getD i 0 < c + b.getD i 0
        · rw [cdec hs, cond_true, wU32 (by omega) (by omega)]
          refine ⟨_, a.length - (i + 1), rfl, by omega, i + 1, _, _, rfl, by omega, rfl, by simp [hol], hod.set _ (by omega) (by omega), by simp, by simp, hz' _, ?_⟩
          simp only [val_set _ _ _ (show i < o.length by omega), hz i (by omega), bp]; rw [ea, eb]; grind
        · rw [cdecF hs, cond_false, wU32 (by omega) (by omega)]
          refine ⟨_, a.length - (i + 1), rfl, by omega, i + 1, _, _, rfl, by omega, rfl, by simp [hol], hod.set _ (by omega) (by omega), by simp, by simp, hz' _, ?_⟩
          simp only [val_set _ _ _ (show i < o.length by omega), hz i (by omega), bp]; rw [ea, eb]; grind
      simp only [e1, e2, e3, cond_true, Int.toNat_natCast, w3, w4]
      by_cases hib : (i : Int) < (b.length : Int)
      · have e4 : ixOk (i : Int) b.length = true := ixOk_of (by omega) (by omega)
        simp only [cdec hib, cond_true, e4, w2]
        exact key _ rfl
      · simp only [cdecF hib, cond_false]
        have h0 : b.getD i 0 = 0 := getD_out (by omega)
        exact key c (by omega)
  have hc : c = 0 := by
    have := bp_pos a.length; have := val_lt h1
    rw [h2] at this
    by_cases hc : c = 0
    · exact hc
    · have : c = 1 := by omega
      subst this; omega
  subst hc
  exact ⟨x.1, by rw [hx]; rfl, h1, by omega, h2⟩

/-! ### Products -/
theorem Dig.prod {x y : Int} (hx : 0 ≤ x ∧ x < 1000000000) (hy : 0 ≤ y ∧ y < 1000000000) : 0 ≤ x * y ∧ x * y ≤ 999999998000000001 := by
  refine ⟨Int.mul_nonneg hx.1 hy.1, ?_⟩
  have h1 := Int.mul_le_mul_of_nonneg_right (show x ≤ 999999999 by omega) hy.1
  omega
theorem times_inner {k : Nat} [F : Fuel k] {a b o : List Int} {i : Nat} (ha : Dig a) (hb : Dig b) (ho : Dig o) (hi : i < a.length) (hol : o.length = a.length + b.length) (hm : a.length + b.length ≤ LM) :
    ∃ x, iter (fun (x2 : (List Int × List Int × Int × Int × Int × List Int × Int × Int × List Int × Int × Int × Unit)) => integer_times_L2 k x2.1 x2.2.1 x2.2.2.1 x2.2.2.2.1 x2.2.2.2.2.1 x2.2.2.2.2.2.1 x2.2.2.2.2.2.2.1 x2.2.2.2.2.2.2.2.1 x2.2.2.2.2.2.2.2.2.1 x2.2.2.2.2.2.2.2.2.2.1 x2.2.2.2.2.2.2.2.2.2.2.1) k (b, o, (i : Int), a.getD i 0, 0, a, (a.length : Int), (i : Int), b, (b.length : Int), 0, ()) = some x ∧
      ∃ o' c, x = (b, o', (i : Int), c, a, (a.length : Int), (i : Int), ()) ∧ Dig o' ∧ o'.length = o.length ∧ 0 ≤ c ∧ c < 1000000000 ∧ (∀ j, i + b.length ≤ j → o'.getD j 0 = o.getD j 0) ∧ val o' + bp (i + b.length) * c = val o + bp i * (a.getD i 0 * val b) := by
  have hlm := LM_val
  refine iter_ok _ (fun n s => ∃ (j : Nat) (o' : List Int) (c : Int), n = b.length - j ∧ j ≤ b.length ∧ s = (b, o', (i : Int), a.getD i 0, c, a, (a.length : Int), (i : Int), b, (b.length : Int), (j : Int), ()) ∧ Dig o' ∧ o'.length = o.length ∧ 0 ≤ c ∧ c < 1000000000 ∧ (∀ l, i + j ≤ l → o'.getD l 0 = o.getD l 0) ∧ val o' + bp (i + j) * c = val o + bp i * (a.getD i 0 * val (b.take j))) _ ?_ k b.length _ (F.len (by omega)) ⟨0, o, 0, by omega, by omega, rfl, ho, rfl, by simp, by simp, fun _ _ => rfl, by simp [val]⟩
  rintro n s ⟨j, o', c, rfl, hj, rfl, hod, hol', hc0, hc1, hsame, hv⟩
  dsimp only
  unfold integer_times_L2
  by_cases h0 : j = b.length
  · right
    subst h0
    refine ⟨_, by rw [cdecF (by omega), cond_false], o', c, rfl, hod, hol', hc0, hc1, hsame, ?_⟩
    rw [val_take_all b (Nat.le_refl _)] at hv; exact hv
  · left
    have hlt : j < b.length := by omega
    have hx := ha.getD i
    have hy := hb.getD j
    have hz := hod.getD (i + j)
    have hxy := Dig.prod hx hy
    have eb := val_take_succ b j
    have e1 : ixOk (j : Int) b.length = true := ixOk_of (by omega) (by omega)
    have w1 : IntKind.i64.wrap ((i : Int) + (j : Int)) = ((i + j : Nat) : Int) := by rw [wI64 (by omega) (by omega)]; omega
    have e2 : ixOk ((i + j : Nat) : Int) o'.length = true := ixOk_of (by omega) (by omega)
    have w3 : IntKind.i64.wrap ((j : Int) + 1) = ((j + 1 : Nat) : Int) := by rw [wI64 (by omega) (by omega)]; omega
    have e3 : decide ((j : Int) < (b.length : Int)) = true := by simp; omega
    have w4 : IntKind.u64.wrap (o'.getD (i + j) 0) = o'.getD (i + j) 0 := wU64 (by omega) (by omega)
    have w5 : IntKind.u64.wrap (a.getD i 0) = a.getD i 0 := wU64 (by omega) (by omega)
    have w6 : IntKind.u64.wrap (b.getD j 0) = b.getD j 0 := wU64 (by omega) (by omega)
    have w7 : IntKind.u64.wrap (a.getD i 0 * b.getD j 0) = a.getD i 0 * b.getD j 0 := wU64 (by omega) (by omega)
    have w8 : IntKind.u64.wrap (o'.getD (i + j) 0 + a.getD i 0 * b.getD j 0) = o'.getD (i + j) 0 + a.getD i 0 * b.getD j 0 := wU64 (by omega) (by omega)
    have w9 : IntKind.u64.wrap (o'.getD (i + j) 0 + a.getD i 0 * b.getD j 0 + c) = o'.getD (i + j) 0 + a.getD i 0 * b.getD j 0 + c := wU64 (by omega) (by omega)
    simp only [e1, e2, e3, cond_true, Int.toNat_natCast, w1, w3, w4, w5, w6, w7, w8, w9]
    generalize ht : o'.getD (i + j) 0 + a.getD i 0 * b.getD j 0 + c = t
    have t0 : 0 ≤ t := by omega
    have t1 : t < 1000000000 * 1000000000 := by omega
    rw [Int.tmod_eq_emod_of_nonneg t0, Int.tdiv_eq_ediv_of_nonneg t0, wU32 (by omega) (by omega), wU64 (by omega) (by omega)]
    refine ⟨_, b.length - (j + 1), rfl, by omega, j + 1, _, _, rfl, by omega, rfl, hod.set _ (by omega) (by omega), by simp [hol'], by omega, by omega, fun l hl => ?_, ?_⟩
    · rw [getD_set _ _ _ _ (by omega), if_neg (by omega)]; exact hsame l (by omega)
    · rw [val_set _ _ _ (by omega), eb, ← Nat.add_assoc]
      simp only [bp]
      have hb' := bp_add i j
      have hdm : t = 1000000000 * (t / 1000000000) + t % 1000000000 := by omega
      generalize t / 1000000000 = q at *
      generalize t % 1000000000 = r at *
      grind
theorem times_ok {k : Nat} [F : Fuel k] {a b : List Int} (ha : Dig a) (hb : Dig b) (hm : a.length + b.length ≤ LM) :
    ∃ r, integer_times k a b = some r ∧ Dig r ∧ val r = val a * val b ∧ r.length = a.length + b.length := by
  have hlm := LM_val
  unfold integer_times
  have w0 : IntKind.i64.wrap ((a.length : Int) + (b.length : Int)) = ((a.length + b.length : Nat) : Int) := by rw [wI64 (by omega) (by omega)]; omega
  simp only [w0, make_ok hm, cond_true]
  obtain ⟨x, hx, h1, h2, h3⟩ : ∃ x, iter (fun (x4 : (List Int × List Int × List Int × Int × Int × Unit)) => integer_times_L0 k x4.1 x4.2.1 x4.2.2.1 x4.2.2.2.1 x4.2.2.2.2.1) k (b, (List.replicate ((a.length + b.length : Nat) : Int).toNat (0 : Int)), a, (a.length : Int), 0, ()) = some x ∧
      Dig x.1 ∧ x.1.length = a.length + b.length ∧ val x.1 = val a * val b := by
    refine iter_ok _ (fun n s => ∃ (i : Nat) (o : List Int), n = a.length - i ∧ i ≤ a.length ∧ s = (b, o, a, (a.length : Int), (i : Int), ()) ∧ Dig o ∧ o.length = a.length + b.length ∧ (∀ j, i + b.length ≤ j → o.getD j 0 = 0) ∧ val o = val (a.take i) * val b) _ ?_ k a.length _ (F.len (by omega)) ⟨0, _, by omega, by omega, rfl, Dig.replicate _, by rw [List.length_replicate]; omega, fun j _ => getD_replicate _ _, by simp [val, val_replicate]⟩
    rintro n s ⟨i, o, rfl, hi, rfl, hod, hol, hz, hv⟩
    dsimp only
    unfold integer_times_L0
    by_cases h0 : i = a.length
    · right
      subst h0
      refine ⟨_, by rw [cdecF (by omega), cond_false], hod, hol, ?_⟩
      rw [val_take_all a (Nat.le_refl _)] at hv; exact hv
    · left
      have hlt : i < a.length := by omega
      have e1 : ixOk (i : Int) a.length = true := ixOk_of (by omega) (by omega)
      have e3 : decide ((i : Int) < (a.length : Int)) = true := by simp; omega
      have w1 : IntKind.i64.wrap ((i : Int) + (b.length : Int)) = ((i + b.length : Nat) : Int) := by rw [wI64 (by omega) (by omega)]; omega
      have w3 : IntKind.i64.wrap ((i : Int) + 1) = ((i + 1 : Nat) : Int) := by rw [wI64 (by omega) (by omega)]; omega
      obtain ⟨x, hx, o', c, rfl, ho', hol', hc0, hc1, hs, hv'⟩ := times_inner (k := k) ha hb hod hlt hol hm
      have e2 : ixOk ((i + b.length : Nat) : Int) o'.length = true := ixOk_of (by omega) (by omega)
      simp only [e1, e3, cond_true, Int.toNat_natCast, hx, Option.bind_some, w1, w3, e2]
      rw [wU32 (by omega) (by omega)]
      refine ⟨_, a.length - (i + 1), rfl, by omega, i + 1, _, rfl, by omega, rfl, ho'.set _ hc0 hc1, by simp; omega, fun j hj => ?_, ?_⟩
      · rw [getD_set _ _ _ _ (by omega), if_neg (by omega), hs j (by omega)]; exact hz j (by omega)
      · rw [val_set _ _ _ (by omega), hs _ (by omega), hz _ (by omega), val_take_succ]
        grind
  exact ⟨x.1, by rw [hx]; rfl, h1, h3, h2⟩

/-! ### Division by one limb -/
theorem byWord_ok {k : Nat} [F : Fuel k] {a : List Int} {w : Int} (ha : Dig a) (hw : 0 < w) (hw' : w < 1000000000) (hm : a.length ≤ LM) :
    ∃ q r, integer_byWord k a w = some (q, [r]) ∧ Dig q ∧ q.length = a.length ∧ 0 ≤ r ∧ r < w ∧ val a = w * val q + r := by
  have hlm := LM_val
  unfold integer_byWord
  simp only [make_ok hm, cond_true]
  obtain ⟨x, hx, q, r, rfl, h1, h2, h3, h4, h5⟩ : ∃ x, iter (fun (x2 : (List Int × Int × List Int × Int × Int × Unit)) => integer_byWord_L0 k x2.1 x2.2.1 x2.2.2.1 x2.2.2.2.1 x2.2.2.2.2.1) k (a, w, (List.replicate (a.length : Int).toNat (0 : Int)), 0, IntKind.i64.wrap ((a.length : Int) - 1), ()) = some x ∧
      ∃ q r, x = (q, r, ()) ∧ Dig q ∧ q.length = a.length ∧ 0 ≤ r ∧ r < w ∧ val a = w * val q + r := by
    refine iter_ok _ (fun n s => ∃ (q : List Int) (r : Int), n ≤ a.length ∧ s = (a, w, q, r, (n : Int) - 1, ()) ∧ Dig q ∧ q.length = a.length ∧ 0 ≤ r ∧ r < w ∧ val (a.drop n) = w * val (q.drop n) + r) _ ?_ k a.length _ (F.len (by omega)) ⟨_, 0, Nat.le_refl _, by rw [wI64 (by omega) (by omega)], Dig.replicate _, by simp, by simp, hw, by simp [val]⟩
    rintro n s ⟨q, r, hn, rfl, hq, hql, hr0, hr1, hv⟩
    dsimp only
    unfold integer_byWord_L0
    by_cases h0 : n = 0
    · right
      subst h0
      exact ⟨_, by rw [cdecF (by omega), cond_false], q, r, rfl, hq, hql, hr0, hr1, by simpa using hv⟩
    · left
      obtain ⟨m, rfl⟩ : ∃ m, n = m + 1 := ⟨n - 1, by omega⟩
      have e0 : ((m + 1 : Nat) : Int) - 1 = m := by omega
      have hx := ha.getD m
      have e1 : ixOk (m : Int) a.length = true := ixOk_of (by omega) (by omega)
      have e2 : ixOk (m : Int) q.length = true := ixOk_of (by omega) (by omega)
      have e3 : decide ((m : Int) ≥ 0) = true := by simp
      have w1 : IntKind.u64.wrap w = w := wU64 (by omega) (by omega)
      have w2 : (w == 0) = false := by simp; omega
      have w3 : IntKind.u64.wrap (r * 1000000000) = r * 1000000000 := wU64 (by omega) (by omega)
      have w4 : IntKind.u64.wrap (a.getD m 0) = a.getD m 0 := wU64 (by omega) (by omega)
      have w5 : IntKind.u64.wrap (r * 1000000000 + a.getD m 0) = r * 1000000000 + a.getD m 0 := wU64 (by omega) (by omega)
      have w6 : IntKind.i64.wrap ((m : Int) - 1) = (m : Int) - 1 := wI64 (by omega) (by omega)
      simp only [e0, e1, e2, e3, w1, w2, w3, w4, w5, w6, cond_true, cond_false, Int.toNat_natCast]
      generalize ht : r * 1000000000 + a.getD m 0 = t
      have t0 : 0 ≤ t := by omega
      have d1 := Int.mul_ediv_add_emod t w
      have d2 := Int.emod_nonneg t (show w ≠ 0 by omega)
      have d3 := Int.emod_lt_of_pos t hw
      have d4 : 0 ≤ t / w := Int.ediv_nonneg t0 (by omega)
      have d5 : t / w < 1000000000 := by
        apply Int.ediv_lt_of_lt_mul hw
        have : (r + 1) * 1000000000 ≤ w * 1000000000 := by omega
        rw [Int.mul_comm]; omega
      rw [Int.tmod_eq_emod_of_nonneg t0, Int.tdiv_eq_ediv_of_nonneg t0, wU64 d4 (by omega), wU32 d4 (by omega)]
      refine ⟨_, m, rfl, by omega, _, _, by omega, rfl, hq.set _ d4 d5, by simp [hql], d2, d3, ?_⟩
      rw [val_drop a m (by omega), hv, val_drop _ m (by simp; omega), getD_set _ _ _ _ (by omega), if_pos rfl]
      have : (q.set m (t / w)).drop (m + 1) = q.drop (m + 1) := by rw [List.drop_set]; simp
      rw [this]
      generalize t / w = d at *
      generalize t % w = e at *
      grind
  rw [hx]
  refine ⟨q, r, ?_, h1, h2, h3, h4, h5⟩
  simp only [Option.bind_some]
  rw [wU32 h3 (by omega)]
end Go.Proofs.YtbjkpogfgijmaaaGreat
