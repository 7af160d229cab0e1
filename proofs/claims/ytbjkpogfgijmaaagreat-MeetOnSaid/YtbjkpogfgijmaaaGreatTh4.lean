/- Plain laws: the program's long division of limbs, joined. Plain laws: the program's long division, whole. Plain laws: the program's division of limbs; sums, products and quotients of whole numbers. Plain laws: the program's whole numbers. -/
import Derived.Test.YtbjkpogfgijmaaaGreatTh0
namespace Go.Proofs.YtbjkpogfgijmaaaGreat
/-! ## Plain laws: the program's long division of limbs, joined. -/
section
open Go
set_option linter.unusedVariables false
set_option linter.unusedSimpArgs false

theorem getD_zero {l : List Int} (h : Dig l) {n j : Nat} (hv : val l < bp n) (hj : n ≤ j) : l.getD j 0 = 0 := by
  by_cases hl : j < l.length
  · have h1 := val_split l j (by omega)
    have h2 := val_nonneg (h.take j)
    rw [val_drop l j hl] at h1
    have h3 := h.getD j
    have h4 := val_nonneg (h.drop (j + 1))
    by_cases h0 : l.getD j 0 = 0
    · exact h0
    · exfalso
      have h5 : bp j * 1 ≤ bp j * (l.getD j 0 + 1000000000 * val (l.drop (j + 1))) := Int.mul_le_mul_of_nonneg_left (by omega) (by have := bp_pos j; omega)
      have := bp_mono hj
      omega
  · exact getD_out (by omega)
theorem val_zero_of {l : List Int} (h : ∀ j, l.getD j 0 = 0) : val l = 0 := by
  induction l with
  | nil => rfl
  | cons x r ih =>
    have h0 := h 0
    have h1 := ih fun j => by simpa using h (j + 1)
    simp at h0
    simp [val, h0, h1]
theorem drop_zero {l : List Int} (h : Dig l) {n m : Nat} (hv : val l < bp n) (hm : n ≤ m) : val (l.drop m) = 0 := by
  apply val_zero_of
  intro j
  have := getD_zero h hv (show n ≤ m + j by omega)
  simpa [List.getD_eq_getElem?_getD, List.getElem?_drop] using this
theorem top2 {l : List Int} {m : Nat} (h : l.length = m + 2) : val l = val (l.take m) + bp m * (l.getD m 0 + 1000000000 * l.getD (m + 1) 0) := by
  rw [val_split l m (by omega), val_drop l m (by omega), val_drop l (m + 1) (by omega), List.drop_of_length_le (by omega)]
  simp [val]
theorem top3 {l : List Int} {m : Nat} (h : l.length = m + 3) : val l = val (l.take m) + bp m * (l.getD m 0 + 1000000000 * (l.getD (m + 1) 0 + 1000000000 * l.getD (m + 2) 0)) := by
  rw [val_split l m (by omega), val_drop l m (by omega), val_drop l (m + 1) (by omega), val_drop l (m + 2) (by omega), List.drop_of_length_le (by omega)]
  simp [val]
theorem seg_getD (U : List Int) (kk n i : Nat) (h : i < n) : ((U.take (kk + n)).drop kk).getD i 0 = U.getD (kk + i) 0 := by
  simp only [List.getD_eq_getElem?_getD, List.getElem?_drop, List.getElem?_take]
  rw [if_pos (by omega)]

theorem guess_loop {k : Nat} [F : Fuel k] {n kk : Nat} {sc : Int} {U V Q : List Int} (hU : Dig U) (hV : Dig V) (hn : V.length = n + 2) (hk : kk + (n + 2) < U.length) (hUm : U.length ≤ LM) (hv1 : V.getD (n + 1) 0 ≠ 0)
    {u q : Int} (hu : u = val ((U.take (kk + (n + 3))).drop kk)) (hq0 : 0 ≤ q) (hq : q * val V ≤ u) (hq' : u < (q + 1) * val V) (hqB : q < 1000000000) (huv : u < 1000000000 * val V) :
    ∃ x, iter (fun (x9 : (Int × Int × List Int × List Int × List Int × Int × Int × Int × Unit)) => integer_divide_L2 k x9.1 x9.2.1 x9.2.2.1 x9.2.2.2.1 x9.2.2.2.2.1 x9.2.2.2.2.2.1 x9.2.2.2.2.2.2.1 x9.2.2.2.2.2.2.2.1) k (((n + 2 : Nat) : Int), sc, U, V, Q, (kk : Int), (U.getD (kk + (n + 2)) 0 * 1000000000 + U.getD (kk + (n + 1)) 0) / V.getD (n + 1) 0, (U.getD (kk + (n + 2)) 0 * 1000000000 + U.getD (kk + (n + 1)) 0) % V.getD (n + 1) 0, ()) = some x ∧
      ∃ g : Int, x = (((n + 2 : Nat) : Int), sc, U, V, Q, (kk : Int), g, ()) ∧ q ≤ g ∧ g ≤ q + 1 ∧ g < 1000000000 := by
  have hlm := LM_val
  have d1 := hU.getD (kk + (n + 2))
  have d2 := hU.getD (kk + (n + 1))
  have d3 := hU.getD (kk + n)
  have d4 := hV.getD (n + 1)
  have d5 := hV.getD n
  have hsl : ((U.take (kk + (n + 3))).drop kk).length = n + 3 := by simp; omega
  have hseg := (hU.take (kk + (n + 3))).drop kk
  have s3 := top3 hsl
  have s3a := val_nonneg (hseg.take n)
  have s3b := val_lt (hseg.take n)
  have s3c : (((U.take (kk + (n + 3))).drop kk).take n).length = n := by rw [List.length_take, hsl]; omega
  have v2 := top2 hn
  have v2a := val_nonneg (hV.take n)
  have v2b := val_lt (hV.take n)
  have v2c : (V.take n).length = n := by rw [List.length_take, hn]; omega
  rw [s3c] at s3b
  rw [v2c] at v2b
  rw [seg_getD U kk (n + 3) n (by omega), seg_getD U kk (n + 3) (n + 1) (by omega), seg_getD U kk (n + 3) (n + 2) (by omega), ← hu] at s3
  have e0 : kk + n = kk + n := rfl
  have i1 : ixOk (((n + 2 : Nat) : Int) - 1) V.length = true := ixOk_of (by omega) (by omega)
  have i2 : ixOk (((n + 2 : Nat) : Int) - 2) V.length = true := ixOk_of (by omega) (by omega)
  have i3 : ixOk ((kk : Int) + ((n + 2 : Nat) : Int) - 2) U.length = true := ixOk_of (by omega) (by omega)
  have t1 : (((n + 2 : Nat) : Int) - 1).toNat = n + 1 := by omega
  have t2 : (((n + 2 : Nat) : Int) - 2).toNat = n := by omega
  have t3 : ((kk : Int) + ((n + 2 : Nat) : Int) - 2).toNat = kk + n := by omega
  have w1 : IntKind.i64.wrap (((n + 2 : Nat) : Int) - 1) = ((n + 2 : Nat) : Int) - 1 := wI64 (by omega) (by omega)
  have w2 : IntKind.i64.wrap (((n + 2 : Nat) : Int) - 2) = ((n + 2 : Nat) : Int) - 2 := wI64 (by omega) (by omega)
  have w3 : IntKind.i64.wrap ((kk : Int) + ((n + 2 : Nat) : Int)) = (kk : Int) + ((n + 2 : Nat) : Int) := wI64 (by omega) (by omega)
  have w4 : IntKind.i64.wrap ((kk : Int) + ((n + 2 : Nat) : Int) - 2) = (kk : Int) + ((n + 2 : Nat) : Int) - 2 := wI64 (by omega) (by omega)
  have hP := bp_pos n
  generalize hu1 : U.getD (kk + (n + 2)) 0 = u1 at *
  generalize hu2 : U.getD (kk + (n + 1)) 0 = u2 at *
  generalize hu3 : U.getD (kk + n) 0 = u3 at *
  generalize hv1' : V.getD (n + 1) 0 = v1 at *
  generalize hv2' : V.getD n 0 = w2' at *
  generalize hvV : val V = v at *
  generalize hPP : bp n = P at *
  have x1 : IntKind.u64.wrap v1 = v1 := wU64 (by omega) (by omega)
  have x2 : IntKind.u64.wrap w2' = w2' := wU64 (by omega) (by omega)
  have x3 : IntKind.u64.wrap u3 = u3 := wU64 (by omega) (by omega)
  have hU2 : ∃ U2, U2 = u1 * 1000000000 + u2 := ⟨_, rfl⟩
  obtain ⟨U2, hU2⟩ := hU2
  rw [← hU2]
  have a1 : 0 ≤ U2 := by omega
  have a2 : U2 < 1000000000 * 1000000000 := by omega
  -- what the two rows have in common
  have hulo : (U2 * 1000000000 + u3) * P ≤ u := by rw [hU2]; grind
  have huhi : u < (U2 * 1000000000 + u3 + 1) * P := by rw [hU2]; grind
  have hvlo : v1 * 1000000000 * P + w2' * P ≤ v := by grind
  have hvhi : v < (v1 * 1000000000 + w2' + 1) * P := by grind
  have hvb : 1000000000 * P ≤ v := by
    have : 1 * (1000000000 * P) ≤ v1 * (1000000000 * P) := Int.mul_le_mul_of_nonneg_right (by omega) (by omega)
    have : 0 ≤ w2' * P := Int.mul_nonneg (by omega) (by omega)
    grind
  have hU2v : U2 < (v1 + 1) * 1000000000 := by
    have b1 : (U2 * 1000000000) * P < ((v1 + 1) * 1000000000 * 1000000000) * P := by
      have : u3 * P ≥ 0 := Int.mul_nonneg (by omega) (by omega)
      have : (v1 * 1000000000 + w2' + 1) * P ≤ ((v1 + 1) * 1000000000) * P := Int.mul_le_mul_of_nonneg_right (by omega) (by omega)
      grind
    have := Int.lt_of_mul_lt_mul_right b1 (by omega)
    omega
  have hend : ∀ g r : Int, g * v1 + r = U2 → 0 ≤ g → 1000000000 ≤ r → g < 1000000000 ∧ g ≤ q + 1 := by
    intro g r hg hg0 hr
    have hgB : g < 1000000000 := by
      rcases ilt_or_ge g 1000000000 with h | h
      · exact h
      · exfalso
        have : 1000000000 * v1 ≤ g * v1 := Int.mul_le_mul_of_nonneg_right h (by omega)
        grind
    refine ⟨hgB, guess_end (v1 := v1) (v2 := w2') hP hq' hvhi hvb hulo hg0 hgB ?_⟩
    have : g * w2' ≤ 999999999 * w2' := Int.mul_le_mul_of_nonneg_right (by omega) (by omega)
    grind
  have hmod0 := Int.emod_nonneg U2 hv1
  have hmod1 := Int.emod_lt_of_pos U2 (show 0 < v1 by omega)
  have hdm := Int.mul_ediv_add_emod U2 v1
  have hd0 : 0 ≤ U2 / v1 := Int.ediv_nonneg a1 (by omega)
  have hd1 : U2 / v1 ≤ U2 := Int.ediv_le_self _ a1
  have hstart : q ≤ U2 / v1 := by
    refine guess_start (PB := 1000000000 * P) (v := v) (u := u) (by omega) (by omega) hq ?_ ?_ hq0
    · have : 0 ≤ w2' * P := Int.mul_nonneg (by omega) (by omega)
      grind
    · have : (u3 + 1) * P ≤ 1000000000 * P := Int.mul_le_mul_of_nonneg_right (by omega) (by omega)
      grind
  refine iter_ok _ (fun m s => ∃ (r : Int), s = (((n + 2 : Nat) : Int), sc, U, V, Q, (kk : Int), (m : Int), r, ()) ∧ (m : Int) * v1 + r = U2 ∧ 0 ≤ r ∧ r < 1000000000 ∧ q ≤ (m : Int)) _ ?_ k (U2 / v1).toNat _ (F.lt (m := 2) (by simp [bp]; omega) (by omega)) ⟨U2 % v1, by simp; omega, by rw [Int.toNat_of_nonneg hd0]; grind, hmod0, by omega, by omega⟩
  rintro m s ⟨r, rfl, hm, hr0, hr1, hqm⟩
  have hmU : (m : Int) ≤ U2 := by
    have : (m : Int) * 1 ≤ (m : Int) * v1 := Int.mul_le_mul_of_nonneg_left (by omega) (by omega)
    omega
  dsimp only
  unfold integer_divide_L2
  have y1 : IntKind.u64.wrap (r + v1) = r + v1 := wU64 (by omega) (by omega)
  simp only [w1, w2, w3, w4, i1, i2, i3, t1, t2, t3, cond_true, hu3, hv1', hv2', x1, x2, x3, y1]
  have dec : q < (m : Int) → (∃ s' m', (bif decide (r + v1 ≥ 1000000000) then some (Sum.inr (((n + 2 : Nat) : Int), sc, U, V, Q, (kk : Int), IntKind.u64.wrap ((m : Int) - 1), ())) else some (Sum.inl (((n + 2 : Nat) : Int), sc, U, V, Q, (kk : Int), IntKind.u64.wrap ((m : Int) - 1), r + v1, ()))) = some (Sum.inl s' : (Int × Int × List Int × List Int × List Int × Int × Int × Int × Unit) ⊕ (Int × Int × List Int × List Int × List Int × Int × Int × Unit)) ∧ m' < m ∧ ∃ (r : Int), s' = (((n + 2 : Nat) : Int), sc, U, V, Q, (kk : Int), (m' : Int), r, ()) ∧ (m' : Int) * v1 + r = U2 ∧ 0 ≤ r ∧ r < 1000000000 ∧ q ≤ (m' : Int)) ∨
      ∃ x, (bif decide (r + v1 ≥ 1000000000) then some (Sum.inr (((n + 2 : Nat) : Int), sc, U, V, Q, (kk : Int), IntKind.u64.wrap ((m : Int) - 1), ())) else some (Sum.inl (((n + 2 : Nat) : Int), sc, U, V, Q, (kk : Int), IntKind.u64.wrap ((m : Int) - 1), r + v1, ()))) = some (Sum.inr x : (Int × Int × List Int × List Int × List Int × Int × Int × Int × Unit) ⊕ (Int × Int × List Int × List Int × List Int × Int × Int × Unit)) ∧ ∃ g : Int, x = (((n + 2 : Nat) : Int), sc, U, V, Q, (kk : Int), g, ()) ∧ q ≤ g ∧ g ≤ q + 1 ∧ g < 1000000000 := by
    intro hlt
    obtain ⟨m', rfl⟩ : ∃ m', m = m' + 1 := ⟨m - 1, by omega⟩
    have y2 : IntKind.u64.wrap (((m' + 1 : Nat) : Int) - 1) = (m' : Int) := by rw [wU64 (by omega) (by omega)]; omega
    have hm' : (m' : Int) * v1 + (r + v1) = U2 := by
      have : ((m' + 1 : Nat) : Int) = m' + 1 := by omega
      rw [this] at hm; grind
    rw [y2]
    by_cases hr : r + v1 ≥ 1000000000
    · right
      obtain ⟨f1, f2⟩ := hend m' (r + v1) hm' (by omega) hr
      exact ⟨_, by rw [cdec hr, cond_true], m', rfl, by omega, f2, f1⟩
    · left
      exact ⟨_, m', by rw [cdecF hr, cond_false], by omega, r + v1, rfl, hm', by omega, by omega, by omega⟩
  by_cases hB : (m : Int) ≥ 1000000000
  · simp only [cdec hB, cond_true]
    exact dec (by omega)
  · simp only [cdecF hB, cond_false]
    have hmw : 0 ≤ (m : Int) * w2' ∧ (m : Int) * w2' ≤ 999999998000000001 := Dig.prod ⟨by omega, by omega⟩ d5
    have y3 : IntKind.u64.wrap ((m : Int) * w2') = (m : Int) * w2' := wU64 (by omega) (by omega)
    have y4 : IntKind.u64.wrap (r * 1000000000) = r * 1000000000 := wU64 (by omega) (by omega)
    have y5 : IntKind.u64.wrap (r * 1000000000 + u3) = r * 1000000000 + u3 := wU64 (by omega) (by omega)
    simp only [y3, y4, y5]
    by_cases hc : (m : Int) * w2' > r * 1000000000 + u3
    · simp only [cdec hc, cond_true]
      exact dec (guess_step hP hq hvlo huhi hm hq0 (by omega) (by omega) hc)
    · simp only [cdecF hc, cond_false]
      right
      refine ⟨_, rfl, m, rfl, hqm, ?_, by omega⟩
      exact guess_end (v1 := v1) (v2 := w2') hP hq' hvhi hvb hulo (by omega) (by omega) (by grind)
end
/-! ## Plain laws: the program's long division, whole. -/
section
open Go
set_option linter.unusedVariables false
set_option linter.unusedSimpArgs false

theorem bp_succ (n : Nat) : bp (n + 1) = 1000000000 * bp n := rfl
set_option maxHeartbeats 4000000 in
theorem divide_loop {k : Nat} [F : Fuel k] {n m0 : Nat} {sc : Int} {U0 V : List Int} (hU : Dig U0) (hV : Dig V) (hn : V.length = n + 2) (hUl : U0.length = m0 + (n + 2)) (hUm : U0.length ≤ LM) (hv1 : V.getD (n + 1) 0 ≠ 0) (hlt : val (U0.drop m0) < val V) :
    ∃ x, iter (fun (x13 : (Int × Int × List Int × List Int × List Int × Int × Unit)) => integer_divide_L0 k x13.1 x13.2.1 x13.2.2.1 x13.2.2.2.1 x13.2.2.2.2.1 x13.2.2.2.2.2.1) k (((n + 2 : Nat) : Int), sc, U0, V, List.replicate m0 (0 : Int), (m0 : Int) - 1, ()) = some x ∧
      ∃ U Q, x = (((n + 2 : Nat) : Int), sc, U, Q, ()) ∧ Dig U ∧ Dig Q ∧ U.length = U0.length ∧ Q.length = m0 ∧ val U < val V ∧ val U0 = val U + val V * val Q := by
  have hlm := LM_val
  have hVlt : val V < bp (n + 2) := by have := val_lt hV; rwa [hn] at this
  have hVpos : 0 < val V := by
    have h1 := top2 hn
    have := hV.getD (n + 1)
    have := hV.getD n
    have := val_nonneg (hV.take n)
    have h2 : bp n * 1 ≤ bp n * (V.getD n 0 + 1000000000 * V.getD (n + 1) 0) := Int.mul_le_mul_of_nonneg_left (by omega) (by have := bp_pos n; omega)
    have := bp_pos n
    omega
  refine iter_ok _ (fun m s => ∃ U Q, m ≤ m0 ∧ s = (((n + 2 : Nat) : Int), sc, U, V, Q, (m : Int) - 1, ()) ∧ Dig U ∧ Dig Q ∧ U.length = U0.length ∧ Q.length = m0 ∧ val (U.drop m) < val V ∧ val U0 = val U + bp m * (val V * val (Q.drop m))) _ ?_ k m0 _ (F.len (by omega)) ⟨U0, _, Nat.le_refl _, rfl, hU, Dig.replicate _, rfl, by simp, hlt, by simp [val]⟩
  rintro m s ⟨U, Q, hm, rfl, hUd, hQd, hUl', hQl, hl, hv⟩
  dsimp only
  unfold integer_divide_L0
  by_cases h0 : m = 0
  · right
    subst h0
    refine ⟨_, by rw [cdecF (by omega), cond_false], U, Q, rfl, hUd, hQd, hUl', hQl, by simpa using hl, ?_⟩
    simpa [bp] using hv
  · left
    obtain ⟨kk, rfl⟩ : ∃ kk, m = kk + 1 := ⟨m - 1, by omega⟩
    have d1 := hUd.getD (kk + (n + 2))
    have d2 := hUd.getD (kk + (n + 1))
    have d4 := hV.getD (n + 1)
    have e0 : ((kk + 1 : Nat) : Int) - 1 = kk := by omega
    have ge : decide ((kk : Int) ≥ 0) = true := by simp
    have w1 : IntKind.i64.wrap ((kk : Int) + ((n + 2 : Nat) : Int)) = ((kk + (n + 2) : Nat) : Int) := by rw [wI64 (by omega) (by omega)]; omega
    have w2 : IntKind.i64.wrap (((kk + (n + 2) : Nat) : Int) - 1) = ((kk + (n + 1) : Nat) : Int) := by rw [wI64 (by omega) (by omega)]; omega
    have w3 : IntKind.i64.wrap (((n + 2 : Nat) : Int) - 1) = ((n + 1 : Nat) : Int) := by rw [wI64 (by omega) (by omega)]; omega
    have w4 : IntKind.i64.wrap (((kk + (n + 2) : Nat) : Int) + 1) = ((kk + (n + 3) : Nat) : Int) := by rw [wI64 (by omega) (by omega)]; omega
    have w5 : IntKind.i64.wrap ((kk : Int) - 1) = (kk : Int) - 1 := wI64 (by omega) (by omega)
    have i1 : ixOk ((kk + (n + 2) : Nat) : Int) U.length = true := ixOk_of (by omega) (by omega)
    have i2 : ixOk ((kk + (n + 1) : Nat) : Int) U.length = true := ixOk_of (by omega) (by omega)
    have i3 : ixOk ((n + 1 : Nat) : Int) V.length = true := ixOk_of (by omega) (by omega)
    have i4 : ixOk (kk : Int) Q.length = true := ixOk_of (by omega) (by omega)
    have y1 : IntKind.u64.wrap (V.getD (n + 1) 0) = V.getD (n + 1) 0 := wU64 (by omega) (by omega)
    have y2 : (V.getD (n + 1) 0 == 0) = false := by simpa using hv1
    have y3 : IntKind.u64.wrap (U.getD (kk + (n + 2)) 0) = U.getD (kk + (n + 2)) 0 := wU64 (by omega) (by omega)
    have y4 : IntKind.u64.wrap (U.getD (kk + (n + 1)) 0) = U.getD (kk + (n + 1)) 0 := wU64 (by omega) (by omega)
    have y5 : IntKind.u64.wrap (U.getD (kk + (n + 2)) 0 * 1000000000) = U.getD (kk + (n + 2)) 0 * 1000000000 := wU64 (by omega) (by omega)
    have y6 : IntKind.u64.wrap (U.getD (kk + (n + 2)) 0 * 1000000000 + U.getD (kk + (n + 1)) 0) = U.getD (kk + (n + 2)) 0 * 1000000000 + U.getD (kk + (n + 1)) 0 := wU64 (by omega) (by omega)
    have t0 : 0 ≤ U.getD (kk + (n + 2)) 0 * 1000000000 + U.getD (kk + (n + 1)) 0 := by omega
    have q0 : 0 ≤ (U.getD (kk + (n + 2)) 0 * 1000000000 + U.getD (kk + (n + 1)) 0) / V.getD (n + 1) 0 := Int.ediv_nonneg t0 (by omega)
    have q1 : (U.getD (kk + (n + 2)) 0 * 1000000000 + U.getD (kk + (n + 1)) 0) / V.getD (n + 1) 0 ≤ U.getD (kk + (n + 2)) 0 * 1000000000 + U.getD (kk + (n + 1)) 0 := Int.ediv_le_self _ t0
    have y7 : IntKind.u64.wrap ((U.getD (kk + (n + 2)) 0 * 1000000000 + U.getD (kk + (n + 1)) 0) / V.getD (n + 1) 0) = (U.getD (kk + (n + 2)) 0 * 1000000000 + U.getD (kk + (n + 1)) 0) / V.getD (n + 1) 0 := wU64 (by omega) (by omega)
    -- the segment
    have hsd := (hUd.take (kk + (n + 3))).drop kk
    have hsl : ((U.take (kk + (n + 3))).drop kk).length = n + 3 := by simp; omega
    have hdk := val_drop U kk (by omega)
    have hUk := hUd.getD kk
    have hz : val (U.drop (kk + (n + 3))) = 0 := by
      have := drop_zero (hUd.drop (kk + 1)) (m := n + 2) (Int.lt_trans hl hVlt) (Nat.le_refl _)
      rw [List.drop_drop] at this
      have e : kk + 1 + (n + 2) = kk + (n + 3) := by omega
      rwa [e] at this
    have hsv : val ((U.take (kk + (n + 3))).drop kk) = val (U.drop kk) := by
      have h1 := val_split (U.drop kk) (n + 3) (by simp; omega)
      rw [List.drop_drop, hz] at h1
      rw [List.take_drop] at h1
      omega
    have hseg0 := val_nonneg hsd
    generalize hsegd : val ((U.take (kk + (n + 3))).drop kk) = u at *
    have hu1 : u < 1000000000 * val V := by omega
    have hq0 : 0 ≤ u / val V := Int.ediv_nonneg hseg0 (by omega)
    have hdm := Int.mul_ediv_add_emod u (val V)
    have hm0 := Int.emod_nonneg u (show val V ≠ 0 by omega)
    have hm1 := Int.emod_lt_of_pos u hVpos
    have hqB : u / val V < 1000000000 := Int.ediv_lt_of_lt_mul hVpos (by omega)
    obtain ⟨x, hx, g, rfl, hg0, hg1, hg2⟩ := guess_loop (k := k) (sc := sc) (Q := Q) (U := U) hUd hV hn (kk := kk) (by omega) (by omega) hv1 (u := u) (q := u / val V) hsegd.symm hq0 (by grind) (by grind) hqB hu1
    have s1 : sliceOk (U.length : Int) (some (kk : Int)) (some ((kk + (n + 3) : Nat) : Int)) none = true := by simp [sliceOk]; omega
    have c1 : (decide (kk < kk + (n + 3)) && decide (kk + (n + 3) ≤ U.length)) = true := by simp; omega
    simp only [e0, ge, w1, w2, w3, w4, w5, i1, i2, i3, i4, y1, y2, y3, y4, y5, y6, Int.tdiv_eq_ediv_of_nonneg t0, Int.tmod_eq_emod_of_nonneg t0, y7, cond_true, cond_false, Int.toNat_natCast, hx, Option.bind_some, s1, c1]
    obtain ⟨f, r, hr, hrd, hrl, c, hc0, hfc, hrv⟩ := subtract_ok (k := k) (u := (U.take (kk + (n + 3))).drop kk) (v := V) (g := g) hsd hV (by omega) hg2 (by rw [hsl, hn]) (by rw [hsl]; omega)
    rw [hsl, hsegd] at hrv
    rw [hsl] at hrl
    simp only [hr, Option.bind_some]
    clear hx hr
    have hrlt := val_lt hrd
    rw [hrl] at hrlt
    have hr0 := val_nonneg hrd
    have hVlt' : val V < bp (n + 3) := by have := bp_pos (n + 2); rw [show n + 3 = (n + 2) + 1 by omega, bp_succ]; omega
    -- the new state is right whenever the segment holds the remainder
    have fin : ∀ r' : List Int, Dig r' → r'.length = n + 3 → val r' = u % val V →
        ∃ U' Q', kk ≤ m0 ∧ (((n + 2 : Nat) : Int), sc, U.take kk ++ r' ++ U.drop (kk + (n + 3)), V, Q.set kk (u / val V), (kk : Int) - 1, ()) = (((n + 2 : Nat) : Int), sc, U', V, Q', (kk : Int) - 1, ()) ∧ Dig U' ∧ Dig Q' ∧ U'.length = U0.length ∧ Q'.length = m0 ∧ val (U'.drop kk) < val V ∧ val U0 = val U' + bp kk * (val V * val (Q'.drop kk)) := by
      intro r' h1 h2 h3
      have l1 : (U.take kk).length = kk := by simp; omega
      refine ⟨_, _, by omega, rfl, ((hUd.take _).append h1).append (hUd.drop _), hQd.set _ hq0 hqB, by simp [h2]; omega, by simp [hQl], ?_, ?_⟩
      · rw [List.append_assoc, List.drop_append, l1, List.drop_of_length_le (by omega)]
        simp only [Nat.sub_self, List.drop_zero, List.nil_append, val_append, hz, h3]
        omega
      · rw [List.append_assoc, val_append, val_append, hz, l1, h3, val_drop _ kk (by simp; omega), getD_set _ _ _ _ (by omega), if_pos rfl]
        have e1 : (Q.set kk (u / val V)).drop (kk + 1) = Q.drop (kk + 1) := by rw [List.drop_set]; simp
        rw [e1, hv, val_split U kk (by omega), ← hsv, bp_succ]
        generalize u / val V = d at *
        generalize u % val V = e at *
        grind
    by_cases hgq : g = u / val V
    · -- the estimate was right
      have hval : val r = u % val V + c * bp (n + 3) := by rw [hrv, hgq]; grind
      have hc : c = 0 := carry_zero (v := u % val V) (P := bp (n + 3)) (by omega) hm0 hc0 (by omega)
      have hf : f = false := by
        cases f with
        | false => rfl
        | true => have := hfc.1 rfl; omega
      subst hf
      subst hc
      subst hgq
      simp only [cond_false]
      obtain ⟨U', Q', a1, a2, a3⟩ := fin r hrd hrl (by omega)
      exact ⟨_, kk, by rw [wU32 (by omega) (by omega)], by omega, U', Q', a1, a2, a3⟩
    · -- one too great
      have hg : g = u / val V + 1 := by omega
      have hval : val r = u % val V - val V + c * bp (n + 3) := by rw [hrv, hg]; grind
      have hc : 0 < c := by
        rcases ilt_or_ge 0 c with h | h
        · exact h
        · have : c = 0 := by omega
          subst this; omega
      have hf : f = true := hfc.2 hc
      subst hf
      simp only [cond_true]
      have l1 : (U.take kk).length = kk := by simp; omega
      have hUl2 : (U.take kk ++ r ++ U.drop (kk + (n + 3))).length = U.length := by simp [hrl]; omega
      have s2 : sliceOk ((U.take kk ++ r ++ U.drop (kk + (n + 3))).length : Int) (some (kk : Int)) (some ((kk + (n + 3) : Nat) : Int)) none = true := by rw [hUl2]; exact s1
      have c2 : (decide (kk < kk + (n + 3)) && decide (kk + (n + 3) ≤ (U.take kk ++ r ++ U.drop (kk + (n + 3))).length)) = true := by rw [hUl2]; exact c1
      have sg : ((U.take kk ++ r ++ U.drop (kk + (n + 3))).take (kk + (n + 3))).drop kk = r := by
        rw [List.append_assoc, List.take_append, l1, List.drop_append]
        rw [List.take_of_length_le (show (U.take kk).length ≤ kk + (n + 3) by omega), List.drop_of_length_le (show (U.take kk).length ≤ kk by omega), l1]
        simp [hrl]
      have tk : (U.take kk ++ r ++ U.drop (kk + (n + 3))).take kk = U.take kk := by
        rw [List.append_assoc, List.take_append, l1]; simp [List.take_take]
      have dr : (U.take kk ++ r ++ U.drop (kk + (n + 3))).drop (kk + (n + 3)) = U.drop (kk + (n + 3)) := by
        rw [List.drop_append]; simp [hrl, l1]
      obtain ⟨r', hr', hrd', hrl', c', hc0', hc1', hrv'⟩ := restore_ok (k := k) hrd hV (by omega) (by omega)
      rw [hrl] at hrv' hrl'
      have hrlt' := val_lt hrd'
      rw [hrl'] at hrlt'
      have hr0' := val_nonneg hrd'
      have hcc : val r' = u % val V := by
        have h1 : val r' = u % val V + (c - c') * bp (n + 3) := by rw [hrv', hval]; grind
        have h2 : 0 ≤ c - c' := by omega
        have := carry_zero (v := u % val V) (c := c - c') (P := bp (n + 3)) (by omega) hm0 h2 (by omega)
        rw [this] at h1; omega
      simp only [s2, c2, cond_true, sg, hr', Option.bind_some, tk, dr]
      obtain ⟨U', Q', a1, a2, a3⟩ := fin r' hrd' hrl' hcc
      have e1 : IntKind.u32.wrap (IntKind.u64.wrap (g - 1)) = u / val V := by rw [wU64 (by omega) (by omega), wU32 (by omega) (by omega)]; omega
      exact ⟨_, kk, by rw [e1], by omega, U', Q', a1, a2, a3⟩
end
/-! ## Plain laws: the program's division of limbs; sums, products and quotients of whole numbers. -/
section
open Go
set_option linter.unusedVariables false
set_option linter.unusedSimpArgs false

theorem lim_top {n : Nat} (h : 0 < n) : (lim n).getD ((lim n).length - 1) 0 ≠ 0 := by
  have hl := lim_length_pos.2 h
  have := (lim_norm n).2 (by intro e; rw [e] at hl; simp at hl)
  rw [List.getLast_eq_getElem] at this
  rwa [getD_in (by omega)]
theorem divmod_of {a d q r : Int} (h : a = d * q + r) (h0 : 0 ≤ r) (h1 : r < d) : q = a / d ∧ r = a % d := by
  subst h
  rw [Int.add_comm, Int.add_mul_ediv_left _ _ (by omega), Int.ediv_eq_zero_of_lt h0 h1, Int.add_mul_emod_self_left, Int.emod_eq_of_lt h0 h1]
  omega
theorem lim_one {n : Nat} (h : (lim n).length = 1) : (lim n).getD 0 0 = n ∧ 0 < n ∧ n < 1000000000 := by
  have h1 := lim_val n
  have h2 := lim_lt n
  have h3 := lim_length_pos (n := n)
  rw [h] at h2 h3
  match hl : lim n, h with
  | [x], _ =>
    rw [hl] at h1
    simp [val] at h1
    simp [bp] at h2
    simp; omega
set_option maxHeartbeats 4000000 in
theorem divide_ok {k : Nat} [F : Fuel k] {a b : List Int} (ha : Dig a) (hb : Dig b) (hb0 : val b ≠ 0) (hla : a.length + 2 ≤ LM) (hlb : b.length + 2 ≤ LM) :
    ∃ q r, integer_divide k a b = some (q, r) ∧ Dig q ∧ Dig r ∧ q.length ≤ a.length + 2 ∧ r.length ≤ a.length + b.length ∧ val q = val a / val b ∧ val r = val a % val b := by
  have hlm := LM_val
  unfold integer_divide
  rw [trim_ok ha (by omega), trim_ok hb (by omega)]
  have hA0 := val_nonneg ha
  have hD0 := val_nonneg hb
  have hAl : (lim (val a).toNat).length ≤ a.length := lim_len_le (by have := val_lt ha; omega)
  have hDl : (lim (val b).toNat).length ≤ b.length := lim_len_le (by have := val_lt hb; omega)
  obtain ⟨A, eA⟩ : ∃ A : Nat, val a = A := ⟨(val a).toNat, by omega⟩
  obtain ⟨D, eD⟩ : ∃ D : Nat, val b = D := ⟨(val b).toNat, by omega⟩
  rw [eA, Int.toNat_natCast] at hAl
  rw [eD, Int.toNat_natCast] at hDl
  rw [eA, eD, Int.toNat_natCast, Int.toNat_natCast]
  have hDpos : 0 < D := by omega
  clear eA eD hA0 hD0 hb0
  have hDl0 := lim_length_pos.2 hDpos
  simp only [Option.bind_some]
  by_cases h1 : (lim D).length = 1
  · have e1 : (((lim D).length : Int) == 1) = true := by simp [h1]
    have e2 : ixOk 0 (lim D).length = true := ixOk_of (by omega) (by omega)
    obtain ⟨f1, f2, f3⟩ := lim_one h1
    obtain ⟨q, r, hq, g1, g2, g3, g4, g5⟩ := byWord_ok (k := k) (lim_dig A) (w := (D : Int)) (by omega) (by omega) (by omega)
    simp only [e1, e2, cond_true, f1, hq, Option.bind_some]
    rw [lim_val] at g5
    obtain ⟨k1, k2⟩ := divmod_of g5 g3 g4
    refine ⟨q, [r], rfl, g1, Dig.cons g3 (by omega) Dig.nil, by omega, by simp; omega, k1, ?_⟩
    simp only [val]; omega
  · have e1 : (((lim D).length : Int) == 1) = false := by simp; omega
    rw [e1, cond_false, compare_ok (lim_dig A) (lim_dig D) (by omega) (by omega), lim_val, lim_val, Option.bind_some]
    by_cases h2 : A < D
    · have e2 : decide (cmpI (A : Int) (D : Int) < 0) = true := cdec (cmpI_neg_iff.2 (by omega))
      have e3 : decide ((([] : List Int).length + (lim A).length) * 4 ≤ 140737488355328) = true := by simp; omega
      rw [e2, cond_true, e3, cond_true]
      refine ⟨[], lim A, rfl, Dig.nil, lim_dig A, by simp, by omega, ?_, ?_⟩
      · rw [Int.ediv_eq_zero_of_lt (by omega) (by omega)]; rfl
      · rw [lim_val, Int.emod_eq_of_lt (by omega) (by omega)]
    · have e2 : decide (cmpI (A : Int) (D : Int) < 0) = false := cdecF (fun h => h2 (by have := cmpI_neg_iff.1 h; omega))
      obtain ⟨n, hn⟩ : ∃ n, (lim D).length = n + 2 := ⟨(lim D).length - 2, by omega⟩
      have hAD := lim_len_mono (show D ≤ A by omega)
      have hb1 := (lim_dig D).getD (n + 1)
      have hb1' := lim_top hDpos
      rw [hn, show n + 2 - 1 = n + 1 by omega] at hb1'
      have ht2 := top2 hn
      rw [lim_val] at ht2
      have ht2a := val_nonneg ((lim_dig D).take n)
      have ht2b := val_lt ((lim_dig D).take n)
      rw [List.length_take, hn, Nat.min_eq_left (by omega)] at ht2b
      have ht2c := (lim_dig D).getD n
      have w1 : IntKind.i64.wrap (((lim D).length : Int) - 1) = ((n + 1 : Nat) : Int) := by rw [wI64 (by omega) (by omega)]; omega
      have i1 : ixOk ((n + 1 : Nat) : Int) (lim D).length = true := ixOk_of (by omega) (by omega)
      generalize hB1 : (lim D).getD (n + 1) 0 = B1 at *
      have w2 : IntKind.u64.wrap B1 = B1 := wU64 (by omega) (by omega)
      have w3 : IntKind.u64.wrap (B1 + 1) = B1 + 1 := wU64 (by omega) (by omega)
      have w4 : (B1 + 1 == 0) = false := by simp; omega
      have hsc : ∃ sc : Int, sc = 1000000000 / (B1 + 1) := ⟨_, rfl⟩
      obtain ⟨sc, hsc⟩ := hsc
      have sc1 : 1 ≤ sc := by rw [hsc]; exact Int.le_ediv_of_mul_le (by omega) (by omega)
      have sc2 : sc * (B1 + 1) ≤ 1000000000 := by rw [hsc]; exact Int.ediv_mul_le _ (by omega)
      have sc3 : sc < 1000000000 := by
        have : sc * 2 ≤ sc * (B1 + 1) := Int.mul_le_mul_of_nonneg_left (by omega) (by omega)
        omega
      have w5 : (1000000000 : Int).tdiv (B1 + 1) = sc := by rw [Int.tdiv_eq_ediv_of_nonneg (by omega), hsc]
      have w6 : IntKind.u32.wrap (IntKind.u64.wrap sc) = sc := by rw [wU64 (by omega) (by omega), wU32 (by omega) (by omega)]
      have hscd : Dig [sc] := Dig.cons (by omega) sc3 Dig.nil
      obtain ⟨u, hu, u1, u2, u3⟩ := times_ok (k := k) (lim_dig A) hscd (by simp; omega)
      obtain ⟨v, hv, v1, v2, v3⟩ := times_ok (k := k) (lim_dig D) hscd (by simp; omega)
      simp only [List.length_singleton] at u3 v3
      have esc : val [sc] = sc := by simp [val]
      rw [esc, lim_val] at u2 v2
      have e3 : decide ((u.length + ([0] : List Int).length) * 4 ≤ 140737488355328) = true := by simp; omega
      rw [e2, cond_false]
      simp only [w1, i1, cond_true, cond_false, hB1, w2, w3, w4, w5, w6, hu, hv, Option.bind_some, e3, Int.toNat_natCast]
      rw [trim_ok v1 (by omega), v2]
      simp only [Option.bind_some]
      -- the scaled divisor
      have hV0 : ((D : Int) * sc).toNat = D * sc.toNat := by
        have : ((D * sc.toNat : Nat) : Int) = (D : Int) * sc := by rw [Int.natCast_mul, Int.toNat_of_nonneg (by omega)]
        omega
      have hVv : (((D : Int) * sc).toNat : Int) = D * sc := by rw [Int.toNat_of_nonneg]; exact Int.mul_nonneg (by omega) (by omega)
      have hDge : (D : Int) ≤ D * sc := by have := Int.mul_le_mul_of_nonneg_left sc1 (show (0 : Int) ≤ D by omega); omega
      have hbD : bp (n + 1) ≤ D := by have := lim_ge hDpos; rw [hn] at this; exact this
      have hVlt : (D : Int) * sc < bp (n + 2) := by
        have h3 : (D : Int) < bp n * ((B1 + 1) * 1000000000) := by
          rw [ht2]
          have : bp n * ((lim D).getD n 0 + 1) ≤ bp n * 1000000000 := Int.mul_le_mul_of_nonneg_left (by omega) (by have := bp_pos n; omega)
          grind
        have h4 : (D : Int) * sc < bp n * ((B1 + 1) * 1000000000) * sc := Int.mul_lt_mul_of_pos_right h3 (by omega)
        have h5 : bp n * 1000000000 * (sc * (B1 + 1)) ≤ bp n * 1000000000 * 1000000000 := Int.mul_le_mul_of_nonneg_left sc2 (by have := bp_pos n; omega)
        simp only [bp]
        grind
      have hVl : (lim ((D : Int) * sc).toNat).length = n + 2 := by
        have a1 : (lim ((D : Int) * sc).toNat).length ≤ n + 2 := lim_len_le (by omega)
        have a2 : ¬ (lim ((D : Int) * sc).toNat).length ≤ n + 1 := by rw [lim_len_le_iff]; omega
        omega
      have hVtop : (lim ((D : Int) * sc).toNat).getD (n + 1) 0 ≠ 0 := by
        have := lim_top (n := ((D : Int) * sc).toNat) (by omega)
        rwa [hVl, show n + 2 - 1 = n + 1 by omega] at this
      -- the scaled dividend
      obtain ⟨m0, hm0⟩ : ∃ m0, (u ++ ([0] : List Int)).length = m0 + (n + 2) := ⟨(u ++ ([0] : List Int)).length - (n + 2), by simp; omega⟩
      have hul : (u ++ ([0] : List Int)).length = (lim A).length + 2 := by simp; omega
      have hUd : Dig (u ++ ([0] : List Int)) := u1.append (Dig.cons (by omega) (by omega) Dig.nil)
      have hUv : val (u ++ ([0] : List Int)) = A * sc := by rw [val_append, u2]; simp [val]
      have hlt : val ((u ++ ([0] : List Int)).drop m0) < val (lim ((D : Int) * sc).toNat) := by
        rw [lim_val, hVv]
        have h3 := val_split (u ++ ([0] : List Int)) m0 (by omega)
        have h4 := val_nonneg (hUd.take m0)
        have h5 : (A : Int) * sc < bp (m0 + (n + 1)) := by
          have h6 := lim_lt A
          have h7 : (A : Int) * sc ≤ bp (lim A).length * sc := Int.mul_le_mul_of_nonneg_right (by omega) (by omega)
          have h8 : bp (lim A).length * sc < bp (lim A).length * 1000000000 := Int.mul_lt_mul_of_pos_left sc3 (bp_pos _)
          have h9 : m0 + (n + 1) = (lim A).length + 1 := by omega
          rw [h9]; simp only [bp]; omega
        rw [bp_add] at h5
        rw [hUv] at h3
        have h6 : bp m0 * val ((u ++ ([0] : List Int)).drop m0) < bp m0 * bp (n + 1) := by omega
        have h7 := Int.lt_of_mul_lt_mul_left h6 (by have := bp_pos m0; omega)
        omega
      obtain ⟨x, hx, U, Q, rfl, l1, l2, l3, l4, l5, l6⟩ := divide_loop (k := k) (sc := sc) (U0 := u ++ ([0] : List Int)) (V := lim ((D : Int) * sc).toNat) hUd (lim_dig _) hVl hm0 (by omega) hVtop hlt
      have w7 : IntKind.i64.wrap (((u ++ ([0] : List Int)).length : Int) - ((n + 2 : Nat) : Int)) = (m0 : Int) := by rw [wI64 (by omega) (by omega)]; omega
      have w8 : IntKind.i64.wrap ((m0 : Int) - 1) = (m0 : Int) - 1 := wI64 (by omega) (by omega)
      have e4 : ((decide (0 ≤ (m0 : Int))) && (decide ((m0 : Int) ≤ (m0 : Int)) && decide ((m0 : Int) * ((4 : Nat) : Int) ≤ 281474976710656))) = true := make_ok (by omega)
      have hnn : ((lim D).length : Int) = ((n + 2 : Nat) : Int) := by omega
      simp only [hnn, w7, w8, e4, cond_true, Int.toNat_natCast, hx, Option.bind_some]
      have hUU : U.length = m0 + (n + 2) := by omega
      have s1 : sliceOk (U.length : Int) none (some ((n + 2 : Nat) : Int)) none = true := by simp [sliceOk]; omega
      rw [s1, cond_true, List.drop_zero]
      rw [lim_val, hVv] at l5 l6
      rw [hUv] at l6
      have hUt : val (U.take (n + 2)) = val U := by
        have h3 := val_split U (n + 2) (by omega)
        have h4 := drop_zero l1 (m := n + 2) (Int.lt_trans l5 hVlt) (Nat.le_refl _)
        rw [h4] at h3; omega
      rw [trim_ok (l1.take _) (by simp; omega), hUt, Option.bind_some]
      have hU0 := val_nonneg l1
      have hUl : (lim (val U).toNat).length ≤ n + 2 := lim_len_le (by omega)
      obtain ⟨q', r', hq', p1, p2, p3, p4, p5⟩ := byWord_ok (k := k) (lim_dig (val U).toNat) (w := sc) (by omega) sc3 (by omega)
      rw [lim_val, Int.toNat_of_nonneg hU0] at p5
      simp only [hq', Option.bind_some]
      have hr0 : r' = 0 := by
        have h3 : r' = sc * (A - D * val Q - val q') := by grind
        rcases Int.lt_trichotomy (A - D * val Q - val q') 0 with h4 | h4 | h4
        · have : sc * (A - D * val Q - val q') ≤ sc * (-1) := Int.mul_le_mul_of_nonneg_left (by omega) (by omega)
          omega
        · rw [h4] at h3; simpa using h3
        · have : sc * 1 ≤ sc * (A - D * val Q - val q') := Int.mul_le_mul_of_nonneg_left (by omega) (by omega)
          omega
      have hq'v : (A : Int) = val q' + D * val Q := by
        have h3 : sc * (A - D * val Q - val q') = sc * 0 := by subst hr0; grind
        have := Int.eq_of_mul_eq_mul_left (by omega) h3
        omega
      have hq'0 := val_nonneg p1
      have hq'lt : val q' < D := by
        have h3 : sc * val q' < sc * D := by subst hr0; grind
        exact Int.lt_of_mul_lt_mul_left h3 (by omega)
      obtain ⟨k1, k2⟩ := divmod_of (a := (A : Int)) (d := D) (q := val Q) (r := val q') (by omega) hq'0 hq'lt
      exact ⟨Q, q', rfl, l2, p1, by omega, by omega, k1, k2⟩
end
/-! ## Plain laws: the program's whole numbers. -/
section
open Go
set_option linter.unusedVariables false
set_option linter.unusedSimpArgs false

/-! ### Sizes -/
class Sz (n : outParam Nat) (z : Int) : Prop where
  h : len z ≤ n
theorem Sz.lim {n : Nat} {z : Int} (s : Sz n z) : (lim z.natAbs).length ≤ n := s.h
theorem Sz.lt {n : Nat} {z : Int} (s : Sz n z) : (z.natAbs : Int) < bp n := len_le_iff.1 s.h
theorem Sz.of {n : Nat} {z : Int} (h : (z.natAbs : Int) < bp n) : Sz n z := ⟨len_le_iff.2 h⟩
theorem Sz.mono {m n : Nat} {z : Int} (s : Sz m z) (h : m ≤ n) : Sz n z := ⟨Nat.le_trans s.h h⟩
theorem Sz.abs {n : Nat} {x y : Int} (s : Sz n x) (h : y.natAbs ≤ x.natAbs) : Sz n y := Sz.of (by have := s.lt; omega)
theorem szAdd {m n : Nat} {x y : Int} (a : Sz m x) (b : Sz n y) : Sz (max m n + 1) (x + y) := Sz.of (by
  have h1 := a.lt; have h2 := b.lt
  have h3 := bp_mono (Nat.le_max_left m n); have h4 := bp_mono (Nat.le_max_right m n)
  simp only [bp]; have := bp_pos (max m n); omega)
theorem szMul {m n : Nat} {x y : Int} (a : Sz m x) (b : Sz n y) : Sz (m + n) (x * y) := Sz.of (by
  have h1 := a.lt; have h2 := b.lt
  rw [Int.natAbs_mul, bp_add, Int.natCast_mul]
  have h3 : (x.natAbs : Int) * y.natAbs ≤ (x.natAbs : Int) * bp n := Int.mul_le_mul_of_nonneg_left (by omega) (by omega)
  have h4 : (x.natAbs : Int) * bp n < bp m * bp n := Int.mul_lt_mul_of_pos_right h1 (bp_pos n)
  omega)
theorem szNeg {n : Nat} {x : Int} (a : Sz n x) : Sz n (-x) := ⟨by have := a.h; unfold len at *; rwa [Int.natAbs_neg]⟩
theorem szSmall {x : Int} {n : Nat} (h : x.natAbs < n) : Sz n x := Sz.of (by have := bp_ge n; omega)

/-! ### Signs, comparing -/
def sgI (z : Int) : Int := if z < 0 then -1 else if z > 0 then 1 else 0
theorem nat_pos_iff {z : Int} : 0 < (lim z.natAbs).length ↔ z ≠ 0 := by rw [lim_length_pos]; omega
theorem integer_Sign_eq {k : Nat} (z : Int) : integer_Sign k (I z) = some (sgI z) := by
  unfold integer_Sign sgI
  rw [I_neg, I_limbs]
  by_cases h : z < 0
  · simp [h]
  · by_cases h2 : z > 0
    · have : 0 < (lim z.natAbs).length := nat_pos_iff.2 (by omega)
      simp [h, h2, this]
    · have : (lim z.natAbs).length = 0 := by have := @nat_pos_iff z; omega
      simp [h, h2, this]
theorem cmp_abs {x y : Int} (h : decide (x < 0) = decide (y < 0)) : cmpI x y = if x < 0 then cmpI y.natAbs x.natAbs else cmpI x.natAbs y.natAbs := by
  have h1 : x < 0 ↔ y < 0 := by simpa using h
  unfold cmpI
  by_cases hx : x < 0
  · have hy := h1.1 hx
    simp only [hx, if_true]
    have e1 : (x < y) ↔ ((y.natAbs : Int) < x.natAbs) := by omega
    have e2 : (x > y) ↔ ((y.natAbs : Int) > x.natAbs) := by omega
    simp only [e1, e2]
  · have hy : ¬ y < 0 := fun h => hx (h1.2 h)
    simp only [hx, if_false]
    have e1 : (x < y) ↔ ((x.natAbs : Int) < y.natAbs) := by omega
    have e2 : (x > y) ↔ ((x.natAbs : Int) > y.natAbs) := by omega
    simp only [e1, e2]
theorem cmp_sign {x y : Int} (h : decide (x < 0) ≠ decide (y < 0)) : cmpI x y = if x < 0 then -1 else 1 := by
  have h1 : ¬ (x < 0 ↔ y < 0) := by simpa using h
  unfold cmpI
  by_cases hx : x < 0
  · have hy : ¬ y < 0 := fun hy => h1 ⟨fun _ => hy, fun _ => hx⟩
    simp [hx]; omega
  · have hy : y < 0 := by by_cases hy : y < 0; exact hy; exact absurd ⟨fun h => absurd h hx, fun h => absurd h hy⟩ h1
    simp [hx]; omega
theorem integer_Cmp_eq {k : Nat} [F : Fuel k] {x y : Int} {m n : Nat} [a : Sz m x] [b : Sz n y] (hm : m ≤ LM := by decide) (hn : n ≤ LM := by decide) :
    integer_Cmp k (I x) (I y) = some (cmpI x y) := by
  unfold integer_Cmp
  simp only [I_neg, I_limbs]
  have e1 := compare_ok (k := k) (lim_dig x.natAbs) (lim_dig y.natAbs) (Nat.le_trans a.lim hm) (Nat.le_trans b.lim hn)
  have e2 := compare_ok (k := k) (lim_dig y.natAbs) (lim_dig x.natAbs) (Nat.le_trans b.lim hn) (Nat.le_trans a.lim hm)
  rw [lim_val, lim_val] at e1 e2
  rw [e1, e2]
  by_cases h : decide (x < 0) = decide (y < 0)
  · have : (!(decide (x < 0) == decide (y < 0))) = false := by simp [h]
    rw [this, cond_false, cmp_abs h]
    by_cases hx : x < 0 <;> simp [hx]
  · have : (!(decide (x < 0) == decide (y < 0))) = true := by simpa using h
    rw [this, cond_true, cmp_sign h]
    by_cases hx : x < 0 <;> simp [hx]

/-! ### Sums -/
theorem integer_Add_eq {k : Nat} [F : Fuel k] {x y : Int} {m n : Nat} [a : Sz m x] [b : Sz n y] (h : max m n + 1 ≤ LM := by decide) :
    integer_Add k (I x) (I y) = some (I (x + y)) := by
  have ha := a.lim; have hb := b.lim
  have dx := lim_dig x.natAbs; have dy := lim_dig y.natAbs
  unfold integer_Add
  simp only [I_neg, I_limbs]
  by_cases hs : decide (x < 0) = decide (y < 0)
  · have h1 : x < 0 ↔ y < 0 := by simpa using hs
    have : (decide (x < 0) == decide (y < 0)) = true := by simp [hs]
    rw [this, cond_true]
    obtain ⟨r, hr, r1, r2, r3⟩ := plus_ok (k := k) dx dy (by omega) (by omega)
    rw [lim_val, lim_val] at r2
    rw [hr, Option.bind_some, signed_ok _ r1 (by omega), Option.bind_some, r2]
    congr 2
    by_cases hx : x < 0
    · simp [hx]; omega
    · simp [hx]; omega
  · have h1 : ¬ (x < 0 ↔ y < 0) := by simpa using hs
    have : (decide (x < 0) == decide (y < 0)) = false := by simpa using hs
    rw [this, cond_false, compare_ok dx dy (by omega) (by omega), lim_val, lim_val, Option.bind_some]
    by_cases hlt : x.natAbs < y.natAbs
    · rw [cdec (cmpI_neg_iff.2 (by omega)), cond_true]
      obtain ⟨r, hr, r1, r2, r3⟩ := minus_ok (k := k) dy dx (lim_len_mono (by omega)) (by omega) (by rw [lim_val, lim_val]; omega)
      rw [lim_val, lim_val] at r2
      rw [hr, Option.bind_some, signed_ok _ r1 (by omega), Option.bind_some, r2]
      congr 2
      by_cases hy : y < 0
      · simp [hy]; omega
      · simp [hy]; omega
    · rw [cdecF (fun h => hlt (by have := cmpI_neg_iff.1 h; omega)), cond_false]
      obtain ⟨r, hr, r1, r2, r3⟩ := minus_ok (k := k) dx dy (lim_len_mono (by omega)) (by omega) (by rw [lim_val, lim_val]; omega)
      rw [lim_val, lim_val] at r2
      rw [hr, Option.bind_some, signed_ok _ r1 (by omega), Option.bind_some, r2]
      congr 2
      by_cases hx : x < 0
      · simp [hx]; omega
      · simp [hx]; omega
theorem integer_Sub_eq {k : Nat} [F : Fuel k] {x y : Int} {m n : Nat} [a : Sz m x] [b : Sz n y] (h : max m n + 1 ≤ LM := by decide) :
    integer_Sub k (I x) (I y) = some (I (x - y)) := by
  have b' : Sz n (-y) := szNeg b
  unfold integer_Sub
  rw [I_neg, I_limbs]
  have e := integer_Add_eq (k := k) (x := x) (y := -y) h
  by_cases hy : y < 0
  · have : (⟨false, lim y.natAbs⟩ : IntD) = I (-y) := by unfold I; simp; omega
    rw [cdec hy, this, e]; simp; rw [Int.sub_eq_add_neg]
  · have : (⟨decide (((lim y.natAbs).length : Int) > 0), lim y.natAbs⟩ : IntD) = I (-y) := by
      unfold I; rw [Int.natAbs_neg]; congr 1
      have := @nat_pos_iff y
      simp only [decide_eq_decide]; omega
    rw [cdecF hy, this, e]; simp; rw [Int.sub_eq_add_neg]
theorem integer_Neg_eq {k : Nat} [F : Fuel k] {x : Int} {n : Nat} [a : Sz n x] (h : n ≤ LM := by decide) : integer_Neg k (I x) = some (I (-x)) := by
  have hlm := LM_val
  have ha := a.lim
  unfold integer_Neg
  rw [cdec (by rw [I_limbs]; simp; omega), cond_true, I_neg, I_limbs, signed_ok _ (lim_dig _) (by omega), Option.bind_some, lim_val]
  congr 2
  by_cases hx : x < 0
  · simp [hx]; omega
  · simp [hx]; omega
theorem integer_Mul_eq {k : Nat} [F : Fuel k] {x y : Int} {m n : Nat} [a : Sz m x] [b : Sz n y] (h : m + n ≤ LM := by decide) :
    integer_Mul k (I x) (I y) = some (I (x * y)) := by
  have ha := a.lim; have hb := b.lim
  unfold integer_Mul
  simp only [I_neg, I_limbs]
  obtain ⟨r, hr, r1, r2, r3⟩ := times_ok (k := k) (lim_dig x.natAbs) (lim_dig y.natAbs) (by omega)
  rw [lim_val, lim_val] at r2
  rw [hr, Option.bind_some, signed_ok _ r1 (by omega), Option.bind_some, r2]
  congr 2
  by_cases hx : x < 0 <;> by_cases hy : y < 0 <;> simp only [hx, hy, decide_true, decide_false]
  · rw [show (x.natAbs : Int) = -x by omega, show (y.natAbs : Int) = -y by omega]; simp <;> grind
  · rw [show (x.natAbs : Int) = -x by omega, show (y.natAbs : Int) = y by omega]; simp <;> grind
  · rw [show (x.natAbs : Int) = x by omega, show (y.natAbs : Int) = -y by omega]; simp <;> grind
  · rw [show (x.natAbs : Int) = x by omega, show (y.natAbs : Int) = y by omega]; simp <;> grind
theorem split_ok {k : Nat} {u : Int} (h0 : 0 ≤ u) (h1 : u < 18446744073709551616) : ∃ l, integer_split k u = some l ∧ Dig l ∧ l.length = 3 ∧ val l = u := by
  unfold integer_split
  rw [Int.tmod_eq_emod_of_nonneg h0, Int.tdiv_eq_ediv_of_nonneg h0, wU64 (x := u / 1000000000) (by omega) (by omega), Int.tmod_eq_emod_of_nonneg (by omega), Int.tdiv_eq_ediv_of_nonneg (by omega)]
  rw [wU32 (x := u % 1000000000) (by omega) (by omega), wU32 (x := u / 1000000000 % 1000000000) (by omega) (by omega), wU64 (x := u / 1000000000 / 1000000000) (by omega) (by omega), wU32 (x := u / 1000000000 / 1000000000) (by omega) (by omega)]
  refine ⟨_, rfl, Dig.cons (by omega) (by omega) (Dig.cons (by omega) (by omega) (Dig.cons (by omega) (by omega) Dig.nil)), rfl, ?_⟩
  simp only [val]; omega
theorem integer_FromInt64_eq {k : Nat} [F : Fuel k] {z : Int} (h0 : -9223372036854775808 ≤ z) (h1 : z < 9223372036854775808) : integer_FromInt64 k z = some (I z) := by
  have hlm := LM_val
  unfold integer_FromInt64
  by_cases hz : z < 0
  · have e1 : IntKind.u64.wrap (0 - IntKind.u64.wrap z) = -z := by
      have : IntKind.u64.wrap z = z + 18446744073709551616 := by simp only [IntKind.wrap, IntKind.bits, IntKind.signed]; simp; omega
      rw [this]; simp only [IntKind.wrap, IntKind.bits, IntKind.signed]; simp; omega
    obtain ⟨l, hl, l1, l2, l3⟩ := split_ok (k := k) (u := -z) (by omega) (by omega)
    rw [cdec hz, cond_true, e1, hl, Option.bind_some, signed_ok _ l1 (by omega), Option.bind_some, l3]
    simp
  · obtain ⟨l, hl, l1, l2, l3⟩ := split_ok (k := k) (u := z) (by omega) (by omega)
    rw [cdecF hz, cond_false, wU64 (by omega) (by omega), hl, Option.bind_some, signed_ok _ l1 (by omega), Option.bind_some, l3]
    simp

theorem dec_congr {p q : Prop} [Decidable p] [Decidable q] (h : p ↔ q) : decide p = decide q := by simp [h]
/-! ### Quotients -/
theorem fdiv_of {x y q r : Int} (h : x = y * q + r) (hr : (0 ≤ r ∧ r < y) ∨ (y < r ∧ r ≤ 0)) : x.fdiv y = q ∧ x.fmod y = r := by
  have hy : y ≠ 0 := by omega
  have h1 := Int.mul_fdiv_add_fmod x y
  have h2 : (0 ≤ x.fmod y ∧ x.fmod y < y) ∨ (y < x.fmod y ∧ x.fmod y ≤ 0) := by
    rcases Int.lt_or_lt_of_ne hy with h3 | h3
    · right
      rw [Int.fmod_eq_emod]
      have e1 := Int.emod_nonneg x hy
      have e2 : x % y < -y := by have := Int.emod_lt_of_neg x h3; omega
      by_cases hd : y ∣ x
      · rw [Int.emod_eq_zero_of_dvd hd, if_pos (.inr hd)]; omega
      · have e3 : x % y ≠ 0 := fun h => hd (Int.dvd_of_emod_eq_zero h)
        rw [if_neg (by omega)]; omega
    · left; exact ⟨Int.fmod_nonneg_of_pos _ h3, Int.fmod_lt_of_pos _ h3⟩
  have h3 : y * (q - x.fdiv y) = x.fmod y - r := by grind
  have h4 : q - x.fdiv y = 0 := by
    rcases Int.lt_trichotomy (q - x.fdiv y) 0 with h5 | h5 | h5
    · exfalso
      rcases hr with hr | hr
      · have : y * (q - x.fdiv y) ≤ y * (-1) := Int.mul_le_mul_of_nonneg_left (by omega) (by omega)
        omega
      · have : y * (q - x.fdiv y) ≥ y * (-1) := Int.mul_le_mul_of_nonpos_left (by omega) (by omega)
        omega
    · exact h5
    · exfalso
      rcases hr with hr | hr
      · have : y * 1 ≤ y * (q - x.fdiv y) := Int.mul_le_mul_of_nonneg_left (by omega) (by omega)
        omega
      · have : y * (q - x.fdiv y) ≤ y * 1 := Int.mul_le_mul_of_nonpos_left (by omega) (by omega)
        omega
  rw [h4] at h3
  omega
/-- The quotient rounded down, out of absolute values. -/
theorem fdiv_abs (x y : Int) (hy : y ≠ 0) {q r : Int} (hq : q = (x.natAbs : Int) / (y.natAbs : Int)) (hr : r = (x.natAbs : Int) % (y.natAbs : Int)) :
    (decide (x < 0) = decide (y < 0) → x.fdiv y = q ∧ x.fmod y = if x < 0 then -r else r) ∧
    (decide (x < 0) ≠ decide (y < 0) → (r = 0 → x.fdiv y = -q ∧ x.fmod y = 0) ∧ (r ≠ 0 → x.fdiv y = -q - 1 ∧ x.fmod y = (if x < 0 then -r else r) + y)) := by
  have h1 := Int.mul_ediv_add_emod (x.natAbs : Int) (y.natAbs : Int)
  rw [← hq, ← hr] at h1
  have h2 : 0 ≤ r := by rw [hr]; exact Int.emod_nonneg _ (by omega)
  have h3 : r < y.natAbs := by rw [hr]; exact Int.emod_lt_of_pos _ (by omega)
  clear hq hr
  constructor
  · intro h
    have h4 : x < 0 ↔ y < 0 := by simpa using h
    by_cases hx : x < 0
    · have e1 : (x.natAbs : Int) = -x := by omega
      have e2 : (y.natAbs : Int) = -y := by have := h4.1 hx; omega
      rw [e1, e2] at h1; rw [e2] at h3
      simp only [hx, if_true]
      exact fdiv_of (by grind) (.inr (by omega))
    · have e1 : (x.natAbs : Int) = x := by omega
      have e2 : (y.natAbs : Int) = y := by omega
      rw [e1, e2] at h1; rw [e2] at h3
      simp only [hx, if_false]
      exact fdiv_of (by grind) (.inl (by omega))
  · intro h
    have h4 : ¬ (x < 0 ↔ y < 0) := by simpa using h
    constructor
    · rintro rfl
      by_cases hx : x < 0
      · have e1 : (x.natAbs : Int) = -x := by omega
        have e2 : (y.natAbs : Int) = y := by omega
        rw [e1, e2] at h1
        exact fdiv_of (by grind) (by omega)
      · have e1 : (x.natAbs : Int) = x := by omega
        have e2 : (y.natAbs : Int) = -y := by omega
        rw [e1, e2] at h1
        exact fdiv_of (by grind) (by omega)
    · intro hr
      by_cases hx : x < 0
      · have e1 : (x.natAbs : Int) = -x := by omega
        have e2 : (y.natAbs : Int) = y := by omega
        rw [e1, e2] at h1; rw [e2] at h3
        simp only [hx, if_true]
        exact fdiv_of (by grind) (.inl (by omega))
      · have e1 : (x.natAbs : Int) = x := by omega
        have e2 : (y.natAbs : Int) = -y := by omega
        rw [e1, e2] at h1; rw [e2] at h3
        simp only [hx, if_false]
        exact fdiv_of (by grind) (.inr (by omega))
theorem fdiv_le_abs (x y : Int) (hy : y ≠ 0) : (x.fdiv y).natAbs ≤ x.natAbs := by
  obtain ⟨h1, h2⟩ := fdiv_abs x y hy rfl rfl
  have h3 := Int.mul_ediv_add_emod (x.natAbs : Int) (y.natAbs : Int)
  have h4 : 0 ≤ (x.natAbs : Int) / (y.natAbs : Int) := Int.ediv_nonneg (by omega) (by omega)
  have h5 : (x.natAbs : Int) / (y.natAbs : Int) ≤ x.natAbs := Int.ediv_le_self _ (by omega)
  have h6 := Int.emod_nonneg (x.natAbs : Int) (show (y.natAbs : Int) ≠ 0 by omega)
  have h7 := Int.emod_lt_of_pos (x.natAbs : Int) (show 0 < (y.natAbs : Int) by omega)
  generalize hq : (x.natAbs : Int) / (y.natAbs : Int) = q at *
  generalize hr : (x.natAbs : Int) % (y.natAbs : Int) = r at *
  by_cases h : decide (x < 0) = decide (y < 0)
  · obtain ⟨e, _⟩ := h1 h; rw [e]; omega
  · by_cases hr0 : r = 0
    · obtain ⟨e, _⟩ := (h2 h).1 hr0; rw [e]; omega
    · obtain ⟨e, _⟩ := (h2 h).2 hr0; rw [e]
      have : q < x.natAbs := by
        have : 1 * q ≤ (y.natAbs : Int) * q := Int.mul_le_mul_of_nonneg_right (by omega) h4
        omega
      omega
theorem szDiv {n : Nat} {x y : Int} (a : Sz n x) : Sz n (x.fdiv y) := by
  by_cases hy : y = 0
  · subst hy; rw [Int.fdiv_zero]; exact a.abs (by simp)
  · exact a.abs (fdiv_le_abs x y hy)
theorem sz_emod {m n : Nat} {x y : Nat} (b : Sz n (y : Int)) (hy : 0 < y) : Sz n ((x : Int) % (y : Int)) := b.abs (by
  have := Int.emod_nonneg (x : Int) (show (y : Int) ≠ 0 by omega); have := Int.emod_lt_of_pos (x : Int) (show 0 < (y : Int) by omega); omega)
theorem integer_DivMod_eq {k : Nat} [F : Fuel k] {x y : Int} {m n : Nat} [a : Sz m x] [b : Sz n y] (hy : y ≠ 0) (h : m + n + 2 ≤ LM := by decide) :
    integer_DivMod k (I x) (I y) = some (I (x.fdiv y), I (x.fmod y), 0) := by
  have hlm := LM_val
  have ha := a.lim; have hb := b.lim
  unfold integer_DivMod
  simp only [I_neg, I_limbs]
  have hl := nat_pos_iff.2 hy
  have e0 : (((lim y.natAbs).length : Int) == 0) = false := beq_eq_false_iff_ne.2 (by omega)
  obtain ⟨q, r, hqr, q1, r1, q2, r2, q3, r3⟩ := divide_ok (k := k) (lim_dig x.natAbs) (lim_dig y.natAbs) (by rw [lim_val]; omega) (by omega) (by omega)
  rw [lim_val, lim_val] at q3 r3
  obtain ⟨f1, f2⟩ := fdiv_abs x y hy q3 r3
  rw [e0, cond_false, hqr, Option.bind_some]
  rw [signed_ok _ q1 (by omega), Option.bind_some, signed_ok _ r1 (by omega), Option.bind_some]
  have hr0 := val_nonneg r1
  have hrl : ∀ s : Bool, (((I (if s = true then -val r else val r)).limbs.length : Int) > 0) ↔ val r ≠ 0 := fun s => by
    have := @nat_pos_iff (if s = true then -val r else val r)
    have e : (if s = true then -val r else val r) ≠ 0 ↔ val r ≠ 0 := by cases s <;> simp
    rw [e] at this; rw [I_limbs]; omega
  by_cases h0 : val r = 0
  · rw [cdecF (p := (((I (if decide (x < 0) = true then -val r else val r)).limbs.length : Int) > 0)) (by rw [hrl]; simpa using h0), cond_false]
    by_cases hs : decide (x < 0) = decide (y < 0)
    · obtain ⟨g1, g2⟩ := f1 hs
      rw [g1, g2]
      simp [hs, h0]
    · obtain ⟨g1, g2⟩ := (f2 hs).1 h0
      rw [g1, g2]
      have : (!(decide (x < 0) == decide (y < 0))) = true := by simpa using hs
      simp [this, h0]
  · rw [cdec (p := (((I (if decide (x < 0) = true then -val r else val r)).limbs.length : Int) > 0)) (by rw [hrl]; exact h0), cond_true]
    have hsr : (if decide (x < 0) = true then -val r else val r) < 0 ↔ x < 0 := by
      by_cases hx : x < 0
      · simp [hx]; omega
      · simp [hx]; omega
    rw [I_neg, dec_congr hsr]
    by_cases hs : decide (x < 0) = decide (y < 0)
    · obtain ⟨g1, g2⟩ := f1 hs
      have hi : (x < 0) = (y < 0) := propext (by simpa using hs)
      rw [g1, g2]
      simp [hi]
    · obtain ⟨g1, g2⟩ := (f2 hs).2 h0
      have : (!(decide (x < 0) == decide (y < 0))) = true := by simpa using hs
      simp only [this, cond_true]
      rw [integer_FromInt64_eq (by omega) (by omega), Option.bind_some]
      have s1 : Sz m (-(val q)) := szNeg (a.abs (by
        rw [q3]
        have h4 : 0 ≤ (x.natAbs : Int) / (y.natAbs : Int) := Int.ediv_nonneg (by omega) (by omega)
        have h5 : (x.natAbs : Int) / (y.natAbs : Int) ≤ x.natAbs := Int.ediv_le_self _ (by omega)
        omega))
      have s2 : Sz 2 (1 : Int) := szSmall (by decide)
      have s3 : Sz n (val r) := by rw [r3]; exact sz_emod (m := 0) (b.abs (by simp)) (by omega)
      have s4 : Sz n (if decide (x < 0) = true then -val r else val r) := by split; exact szNeg s3; exact s3
      have t1 := integer_Sub_eq (k := k) (x := -(val q)) (y := 1) (a := s1) (b := s2) (by omega)
      have t2 := integer_Add_eq (k := k) (x := if decide (x < 0) = true then -val r else val r) (y := y) (a := s4) (b := b) (by omega)
      simp only [if_true]
      rw [t1, Option.bind_some, t2, Option.bind_some, g1, g2]
      simp
end
end Go.Proofs.YtbjkpogfgijmaaaGreat
