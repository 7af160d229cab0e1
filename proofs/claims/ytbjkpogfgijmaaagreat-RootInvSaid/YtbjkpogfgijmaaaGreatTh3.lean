/- Plain laws: the program's long division of limbs. -/
import Derived.Test.YtbjkpogfgijmaaaGreatTh2
namespace Go.Proofs.YtbjkpogfgijmaaaGreat
open Go
set_option linter.unusedVariables false
set_option linter.unusedSimpArgs false

/-! ### Subtracting a multiple, adding back -/
theorem subtract_ok {k : Nat} [F : Fuel k] {u v : List Int} {g : Int} (hu : Dig u) (hv : Dig v) (hg0 : 0 ≤ g) (hg1 : g < 1000000000) (hl : u.length = v.length + 1) (hm : u.length ≤ LM) :
    ∃ f r, integer_subtract k u v g = some (f, r) ∧ Dig r ∧ r.length = u.length ∧ ∃ c : Int, 0 ≤ c ∧ (f = true ↔ 0 < c) ∧ val r = val u - g * val v + c * bp u.length := by
  have hlm := LM_val
  unfold integer_subtract
  obtain ⟨x, hx, r, c, b, rfl, h1, h2, h3, h4, h5⟩ : ∃ x, iter (fun (x2 : (List Int × List Int × Int × Int × Int × Int × Int × Unit)) => integer_subtract_L0 k x2.1 x2.2.1 x2.2.2.1 x2.2.2.2.1 x2.2.2.2.2.1 x2.2.2.2.2.2.1 x2.2.2.2.2.2.2.1) k (u, v, g, 0, 0, (u.length : Int), 0, ()) = some x ∧
      ∃ r c b, x = (r, c, b, ()) ∧ Dig r ∧ r.length = u.length ∧ 0 ≤ c ∧ 0 ≤ b ∧ val r = val u - g * val v + (c + b) * bp u.length := by
    refine iter_ok _ (fun n s => ∃ (i : Nat) (r : List Int) (c b : Int), n = u.length - i ∧ i ≤ u.length ∧ s = (r, v, g, c, b, (u.length : Int), (i : Int), ()) ∧ Dig r ∧ r.length = u.length ∧ 0 ≤ c ∧ c < 1000000000 ∧ 0 ≤ b ∧ b ≤ 1 ∧ (∀ j, i ≤ j → r.getD j 0 = u.getD j 0) ∧ val r = val u - g * val (v.take i) + (c + b) * bp i) _ ?_ k u.length _ (F.len (by omega)) ⟨0, u, 0, 0, by omega, by omega, rfl, hu, rfl, by simp, by simp, by simp, by simp, fun _ _ => rfl, by simp [val]⟩
    rintro n s ⟨i, r, c, b, rfl, hi, rfl, hr, hrl, hc0, hc1, hb0, hb1, hs, hval⟩
    dsimp only
    unfold integer_subtract_L0
    by_cases h0 : i = u.length
    · right
      subst h0
      refine ⟨_, by rw [cdecF (by omega), cond_false], r, c, b, rfl, hr, hrl, hc0, hb0, ?_⟩
      rw [val_take_all v (by omega)] at hval; exact hval
    · left
      have hlt : i < u.length := by omega
      have hx := hr.getD i
      have hy := hv.getD i
      have hxy := Dig.prod hy ⟨hg0, hg1⟩
      have ev := val_take_succ v i
      have e1 : ixOk (i : Int) r.length = true := ixOk_of (by omega) (by omega)
      have e3 : decide ((i : Int) < (u.length : Int)) = true := by simp; omega
      have w3 : IntKind.i64.wrap ((i : Int) + 1) = ((i + 1 : Nat) : Int) := by rw [wI64 (by omega) (by omega)]; omega
      have w4 : IntKind.u64.wrap (v.getD i 0) = v.getD i 0 := wU64 (by omega) (by omega)
      have w5 : IntKind.u64.wrap (r.getD i 0) = r.getD i 0 := wU64 (by omega) (by omega)
      have w6 : IntKind.u64.wrap (v.getD i 0 * g) = v.getD i 0 * g := wU64 (by omega) (by omega)
      have w7 : IntKind.u64.wrap (c + v.getD i 0 * g) = c + v.getD i 0 * g := wU64 (by omega) (by omega)
      have w8 : IntKind.u64.wrap (r.getD i 0 + 1000000000) = r.getD i 0 + 1000000000 := wU64 (by omega) (by omega)
      have key : ∀ t : Int, t = c + v.getD i 0 * g → ∃ s' m, (bif decide (r.getD i 0 < IntKind.u64.wrap (t.tmod 1000000000 + b)) then some (Sum.inl (r.set i (IntKind.u32.wrap (IntKind.u64.wrap (r.getD i 0 + 1000000000 - IntKind.u64.wrap (t.tmod 1000000000 + b)))), v, g, IntKind.u64.wrap (t.tdiv 1000000000), 1, (u.length : Int), ((i + 1 : Nat) : Int), ()))
          else some (Sum.inl (r.set i (IntKind.u32.wrap (IntKind.u64.wrap (r.getD i 0 - IntKind.u64.wrap (t.tmod 1000000000 + b)))), v, g, IntKind.u64.wrap (t.tdiv 1000000000), 0, (u.length : Int), ((i + 1 : Nat) : Int), ()))) = some (Sum.inl s' : (List Int × List Int × Int × Int × Int × Int × Int × Unit) ⊕ (List Int × Int × Int × Unit)) ∧ m < u.length - i ∧
          ∃ (i_1 : Nat) (r : List Int) (c b : Int), m = u.length - i_1 ∧ i_1 ≤ u.length ∧ s' = (r, v, g, c, b, (u.length : Int), (i_1 : Int), ()) ∧ Dig r ∧ r.length = u.length ∧ 0 ≤ c ∧ c < 1000000000 ∧ 0 ≤ b ∧ b ≤ 1 ∧ (∀ j, i_1 ≤ j → r.getD j 0 = u.getD j 0) ∧ val r = val u - g * val (v.take i_1) + (c + b) * bp i_1 := by
        intro t ht
        have t0 : 0 ≤ t := by omega
        have hz' : ∀ x : Int, ∀ j, i + 1 ≤ j → (r.set i x).getD j 0 = u.getD j 0 := fun x j hj => by
          rw [getD_set _ _ _ _ (by omega), if_neg (by omega)]; exact hs j (by omega)
        have hdm : t = 1000000000 * (t / 1000000000) + t % 1000000000 := by omega
        rw [Int.tmod_eq_emod_of_nonneg t0, Int.tdiv_eq_ediv_of_nonneg t0, wU64 (x := t % 1000000000 + b) (by omega) (by omega), wU64 (x := t / 1000000000) (by omega) (by omega)]
        by_cases hlt' : r.getD i 0 < t % 1000000000 + b
        · rw [cdec hlt', cond_true, wU64 (by omega) (by omega), wU32 (by omega) (by omega)]
          refine ⟨_, u.length - (i + 1), rfl, by omega, i + 1, _, _, _, rfl, by omega, rfl, hr.set _ (by omega) (by omega), by simp [hrl], by omega, by omega, by simp, by simp, hz' _, ?_⟩
          rw [val_set _ _ _ (by omega), hval, ev]; simp only [bp]
          generalize t / 1000000000 = q at *
          generalize t % 1000000000 = e at *
          grind
        · rw [cdecF hlt', cond_false, wU64 (by omega) (by omega), wU32 (by omega) (by omega)]
          refine ⟨_, u.length - (i + 1), rfl, by omega, i + 1, _, _, _, rfl, by omega, rfl, hr.set _ (by omega) (by omega), by simp [hrl], by omega, by omega, by simp, by simp, hz' _, ?_⟩
          rw [val_set _ _ _ (by omega), hval, ev]; simp only [bp]
          generalize t / 1000000000 = q at *
          generalize t % 1000000000 = e at *
          grind
      simp only [e1, e3, cond_true, Int.toNat_natCast, w3, w4, w5, w6, w7, w8]
      by_cases hib : (i : Int) < (v.length : Int)
      · have e4 : ixOk (i : Int) v.length = true := ixOk_of (by omega) (by omega)
        simp only [cdec hib, cond_true, e4]
        exact key _ rfl
      · simp only [cdecF hib, cond_false]
        have h0 : v.getD i 0 = 0 := getD_out (by omega)
        exact key c (by rw [h0]; omega)
  rw [hx]
  have hbeq : Nat.beq r.length u.length = true := by rw [h2]; exact Nat.beq_refl _
  simp only [Option.bind_some, hbeq, cond_true]
  by_cases hb : b > 0
  · exact ⟨true, r, by simp only [cdec hb, cond_true], h1, h2, c + b, by omega, by simp; omega, h5⟩
  · refine ⟨decide (c > 0), r, by simp only [cdecF hb, cond_false], h1, h2, c + b, by omega, by simp; omega, h5⟩
theorem restore_ok {k : Nat} [F : Fuel k] {u v : List Int} (hu : Dig u) (hv : Dig v) (hl : v.length ≤ u.length) (hm : u.length ≤ LM) :
    ∃ r, integer_restore k u v = some ((), r) ∧ Dig r ∧ r.length = u.length ∧ ∃ c : Int, 0 ≤ c ∧ c ≤ 1 ∧ val r = val u + val v - c * bp u.length := by
  have hlm := LM_val
  unfold integer_restore
  obtain ⟨x, hx, r, rfl, h1, h2, c, h3, h4, h5⟩ : ∃ x, iter (fun (x2 : (List Int × List Int × Int × Int × Int × Unit)) => integer_restore_L0 k x2.1 x2.2.1 x2.2.2.1 x2.2.2.2.1 x2.2.2.2.2.1) k (u, v, 0, (u.length : Int), 0, ()) = some x ∧
      ∃ r, x = (r, ()) ∧ Dig r ∧ r.length = u.length ∧ ∃ c : Int, 0 ≤ c ∧ c ≤ 1 ∧ val r = val u + val v - c * bp u.length := by
    refine iter_ok _ (fun n s => ∃ (i : Nat) (r : List Int) (c : Int), n = u.length - i ∧ i ≤ u.length ∧ s = (r, v, c, (u.length : Int), (i : Int), ()) ∧ Dig r ∧ r.length = u.length ∧ 0 ≤ c ∧ c ≤ 1 ∧ val r = val u + val (v.take i) - c * bp i) _ ?_ k u.length _ (F.len (by omega)) ⟨0, u, 0, by omega, by omega, rfl, hu, rfl, by simp, by simp, by simp [val]⟩
    rintro n s ⟨i, r, c, rfl, hi, rfl, hr, hrl, hc0, hc1, hval⟩
    dsimp only
    unfold integer_restore_L0
    by_cases h0 : i = u.length
    · right
      subst h0
      refine ⟨_, by rw [cdecF (by omega), cond_false], r, rfl, hr, hrl, c, hc0, hc1, ?_⟩
      rw [val_take_all v (by omega)] at hval; exact hval
    · left
      have hlt : i < u.length := by omega
      have hx := hr.getD i
      have hy := hv.getD i
      have ev := val_take_succ v i
      have e1 : ixOk (i : Int) r.length = true := ixOk_of (by omega) (by omega)
      have e3 : decide ((i : Int) < (u.length : Int)) = true := by simp; omega
      have w3 : IntKind.i64.wrap ((i : Int) + 1) = ((i + 1 : Nat) : Int) := by rw [wI64 (by omega) (by omega)]; omega
      have w4 : IntKind.u32.wrap (r.getD i 0 + c) = r.getD i 0 + c := wU32 (by omega) (by omega)
      have w5 : IntKind.u32.wrap (r.getD i 0 + c + v.getD i 0) = r.getD i 0 + c + v.getD i 0 := wU32 (by omega) (by omega)
      have key : ∀ t : Int, t = r.getD i 0 + c + v.getD i 0 → ∃ s' m, (bif decide (t ≥ 1000000000) then some (Sum.inl (r.set i (IntKind.u32.wrap (t - 1000000000)), v, 1, (u.length : Int), ((i + 1 : Nat) : Int), ()))
          else some (Sum.inl (r.set i t, v, 0, (u.length : Int), ((i + 1 : Nat) : Int), ()))) = some (Sum.inl s' : (List Int × List Int × Int × Int × Int × Unit) ⊕ (List Int × Unit)) ∧ m < u.length - i ∧
          ∃ (i_1 : Nat) (r : List Int) (c : Int), m = u.length - i_1 ∧ i_1 ≤ u.length ∧ s' = (r, v, c, (u.length : Int), (i_1 : Int), ()) ∧ Dig r ∧ r.length = u.length ∧ 0 ≤ c ∧ c ≤ 1 ∧ val r = val u + val (v.take i_1) - c * bp i_1 := by
        intro t ht
        by_cases hlt' : t ≥ 1000000000
        · rw [cdec hlt', cond_true, wU32 (by omega) (by omega)]
          refine ⟨_, u.length - (i + 1), rfl, by omega, i + 1, _, _, rfl, by omega, rfl, hr.set _ (by omega) (by omega), by simp [hrl], by simp, by simp, ?_⟩
          rw [val_set _ _ _ (by omega), hval, ev]; simp only [bp]
          grind
        · rw [cdecF hlt', cond_false]
          refine ⟨_, u.length - (i + 1), rfl, by omega, i + 1, _, _, rfl, by omega, rfl, hr.set _ (by omega) (by omega), by simp [hrl], by simp, by simp, ?_⟩
          rw [val_set _ _ _ (by omega), hval, ev]; simp only [bp]
          grind
      simp only [e1, e3, cond_true, Int.toNat_natCast, w3, w4]
      by_cases hib : (i : Int) < (v.length : Int)
      · have e4 : ixOk (i : Int) v.length = true := ixOk_of (by omega) (by omega)
        simp only [cdec hib, cond_true, e4, w5]
        exact key _ rfl
      · simp only [cdecF hib, cond_false]
        have h0 : v.getD i 0 = 0 := getD_out (by omega)
        exact key _ (by rw [h0]; omega)
  rw [hx]
  have hbeq : Nat.beq r.length u.length = true := by rw [h2]; exact Nat.beq_refl _
  simp only [Option.bind_some, hbeq, cond_true]
  exact ⟨r, rfl, h1, h2, c, h3, h4, h5⟩

/-! ### The digit's estimate -/
theorem guess_step {g v1 v2 U2 rest u3 P v u q : Int} (hP : 0 < P) (hq : q * v ≤ u) (hv : v1 * 1000000000 * P + v2 * P ≤ v) (hu : u < (U2 * 1000000000 + u3 + 1) * P) (hg : g * v1 + rest = U2) (hq0 : 0 ≤ q) (hg0 : 0 ≤ g) (h4 : 0 ≤ v)
    (hc : g * v2 > rest * 1000000000 + u3) : q < g := by
  rcases ilt_or_ge q g with h | h
  · exact h
  · exfalso
    -- g V2 ≥ U3 + 1
    have h1 : U2 * 1000000000 + u3 + 1 ≤ g * (v1 * 1000000000 + v2) := by grind
    have h2 : (U2 * 1000000000 + u3 + 1) * P ≤ g * (v1 * 1000000000 + v2) * P := Int.mul_le_mul_of_nonneg_right h1 (by omega)
    have h3 : g * ((v1 * 1000000000 + v2) * P) ≤ g * v := Int.mul_le_mul_of_nonneg_left (by grind) hg0
    have h5 : g * v ≤ q * v := Int.mul_le_mul_of_nonneg_right h h4
    grind
theorem guess_start {v1 U2 PB v u q : Int} (hP : 0 < PB) (hv1 : 0 < v1) (hq : q * v ≤ u) (hv : v1 * PB ≤ v) (hu : u < (U2 + 1) * PB) (hq0 : 0 ≤ q) : q ≤ U2 / v1 := by
  apply Int.le_ediv_of_mul_le hv1
  have h1 : q * (v1 * PB) ≤ q * v := Int.mul_le_mul_of_nonneg_left hv hq0
  have h2 : (q * v1) * PB < (U2 + 1) * PB := by grind
  have := Int.lt_of_mul_lt_mul_right h2 (by omega)
  omega
theorem guess_end {g v1 v2 U2 u3 P v u q : Int} (hP : 0 < P) (hq : u < (q + 1) * v) (hv : v < (v1 * 1000000000 + v2 + 1) * P) (hvb : 1000000000 * P ≤ v) (hu : (U2 * 1000000000 + u3) * P ≤ u) (hg0 : 0 ≤ g) (hg1 : g < 1000000000)
    (hc : g * (v1 * 1000000000 + v2) ≤ U2 * 1000000000 + u3) : g ≤ q + 1 := by
  rcases ilt_or_ge (q + 1) g with h | h
  · exfalso
    have h1 : g * v ≤ g * ((v1 * 1000000000 + v2 + 1) * P) := Int.mul_le_mul_of_nonneg_left (by omega) hg0
    have h2 : g * (v1 * 1000000000 + v2) * P ≤ (U2 * 1000000000 + u3) * P := Int.mul_le_mul_of_nonneg_right hc (by omega)
    have h3 : g * P ≤ 999999999 * P := Int.mul_le_mul_of_nonneg_right (by omega) (by omega)
    have h4 : (q + 2) * v ≤ g * v := Int.mul_le_mul_of_nonneg_right (by omega) (by omega)
    grind
  · exact h
end Go.Proofs.YtbjkpogfgijmaaaGreat
