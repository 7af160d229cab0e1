/- Plain laws: the program's long division of limbs, joined. -/
import Derived.Test.YtbjkpogfgijmaaaGreatTh3
namespace Go.Proofs.YtbjkpogfgijmaaaGreat
open Go
set_option linter.unusedVariables false
set_option linter.unusedSimpArgs false

theorem getD_zero {l : List Int} (h : Dig l) {n j : Nat} (hv : val l < bp n) (hj : n ≤ j) : l.getD j 0 = 0 := by
  by_cases hl : j < l.length
  · have h1 := val_split l j (by omega)
    have h2 := val_nonneg (h.take j)
    rw [val_drop l j hl] at h1
    have h3 := h.getD j
    have h4 := val_nonneg (h.drop (j + 1))
    by_cases h0 : l.getD j 0 = 0
    · exact h0
    · exfalso
      have h5 : bp j * 1 ≤ bp j * (l.getD j 0 + 1000000000 * val (l.drop (j + 1))) := Int.mul_le_mul_of_nonneg_left (by omega) (by have := bp_pos j; omega)
      have := bp_mono hj
      omega
  · exact getD_out (by omega)
theorem val_zero_of {l : List Int} (h : ∀ j, l.getD j 0 = 0) : val l = 0 := by
  induction l with
  | nil => rfl
  | cons x r ih =>
    have h0 := h 0
    have h1 := ih fun j => by simpa using h (j + 1)
    simp at h0
    simp [val, h0, h1]
theorem drop_zero {l : List Int} (h : Dig l) {n m : Nat} (hv : val l < bp n) (hm : n ≤ m) : val (l.drop m) = 0 := by
  apply val_zero_of
  intro j
  have := getD_zero h hv (show n ≤ m + j by omega)
  simpa [List.getD_eq_getElem?_getD, List.getElem?_drop] using this
theorem top2 {l : List Int} {m : Nat} (h : l.length = m + 2) : val l = val (l.take m) + bp m * (l.getD m 0 + 1000000000 * l.getD (m + 1) 0) := by
  rw [val_split l m (by omega), val_drop l m (by omega), val_drop l (m + 1) (by omega), List.drop_of_length_le (by omega)]
  simp [val]
theorem top3 {l : List Int} {m : Nat} (h : l.length = m + 3) : val l = val (l.take m) + bp m * (l.getD m 0 + 1000000000 * (l.getD (m + 1) 0 + 1000000000 * l.getD (m + 2) 0)) := by
  rw [val_split l m (by omega), val_drop l m (by omega), val_drop l (m + 1) (by omega), val_drop l (m + 2) (by omega), List.drop_of_length_le (by omega)]
  simp [val]
theorem seg_getD (U : List Int) (kk n i : Nat) (h : i < n) : ((U.take (kk + n)).drop kk).getD i 0 = U.getD (kk + i) 0 := by
  simp only [List.getD_eq_getElem?_getD, List.getElem?_drop, List.getElem?_take]
  rw [if_pos (by omega)]

theorem guess_loop {k : Nat} [F : Fuel k] {n kk : Nat} {sc : Int} {U V Q : List Int} (hU : Dig U) (hV : Dig V) (hn : V.length = n + 2) (hk : kk + (n + 2) < U.length) (hUm : U.length ≤ LM) (hv1 : V.getD (n + 1) 0 ≠ 0)
    {u q : Int} (hu : u = val ((U.take (kk + (n + 3))).drop kk)) (hq0 : 0 ≤ q) (hq : q * val V ≤ u) (hq' : u < (q + 1) * val V) (hqB : q < 1000000000) (huv : u < 1000000000 * val V) :
    ∃ x, iter (fun (x9 : (Int × Int × List Int × List Int × List Int × Int × Int × Int × Unit)) => integer_divide_L2 k x9.1 x9.2.1 x9.2.2.1 x9.2.2.2.1 x9.2.2.2.2.1 x9.2.2.2.2.2.1 x9.2.2.2.2.2.2.1 x9.2.2.2.2.2.2.2.1) k (((n + 2 : Nat) : Int), sc, U, V, Q, (kk : Int), (U.getD (kk + (n + 2)) 0 * 1000000000 + U.getD (kk + (n + 1)) 0) / V.getD (n + 1) 0, (U.getD (kk + (n + 2)) 0 * 1000000000 + U.getD (kk + (n + 1)) 0) % V.getD (n + 1) 0, ()) = some x ∧
      ∃ g : Int, x = (((n + 2 : Nat) : Int), sc, U, V, Q, (kk : Int), g, ()) ∧ q ≤ g ∧ g ≤ q + 1 ∧ g < 1000000000 := by
  have hlm := LM_val
  have d1 := hU.getD (kk + (n + 2))
  have d2 := hU.getD (kk + (n + 1))
  have d3 := hU.getD (kk + n)
  have d4 := hV.getD (n + 1)
  have d5 := hV.getD n
  have hsl : ((U.take (kk + (n + 3))).drop kk).length = n + 3 := by simp; omega
  have hseg := (hU.take (kk + (n + 3))).drop kk
  have s3 := top3 hsl
  have s3a := val_nonneg (hseg.take n)
  have s3b := val_lt (hseg.take n)
  have s3c : (((U.take (kk + (n + 3))).drop kk).take n).length = n := by rw [List.length_take, hsl]; omega
  have v2 := top2 hn
  have v2a := val_nonneg (hV.take n)
  have v2b := val_lt (hV.take n)
  have v2c : (V.take n).length = n := by rw [List.length_take, hn]; omega
  rw [s3c] at s3b
  rw [v2c] at v2b
  rw [seg_getD U kk (n + 3) n (by omega), seg_getD U kk (n + 3) (n + 1) (by omega), seg_getD U kk (n + 3) (n + 2) (by omega), ← hu] at s3
  have e0 : kk + n = kk + n := rfl
  have i1 : ixOk (((n + 2 : Nat) : Int) - 1) V.length = true := ixOk_of (by omega) (by omega)
  have i2 : ixOk (((n + 2 : Nat) : Int) - 2) V.length = true := ixOk_of (by omega) (by omega)
  have i3 : ixOk ((kk : Int) + ((n + 2 : Nat) : Int) - 2) U.length = true := ixOk_of (by omega) (by omega)
  have t1 : (((n + 2 : Nat) : Int) - 1).toNat = n + 1 := by omega
  have t2 : (((n + 2 : Nat) : Int) - 2).toNat = n := by omega
  have t3 : ((kk : Int) + ((n + 2 : Nat) : Int) - 2).toNat = kk + n := by omega
  have w1 : IntKind.i64.wrap (((n + 2 : Nat) : Int) - 1) = ((n + 2 : Nat) : Int) - 1 := wI64 (by omega) (by omega)
  have w2 : IntKind.i64.wrap (((n + 2 : Nat) : Int) - 2) = ((n + 2 : Nat) : Int) - 2 := wI64 (by omega) (by omega)
  have w3 : IntKind.i64.wrap ((kk : Int) + ((n + 2 : Nat) : Int)) = (kk : Int) + ((n + 2 : Nat) : Int) := wI64 (by omega) (by omega)
  have w4 : IntKind.i64.wrap ((kk : Int) + ((n + 2 : Nat) : Int) - 2) = (kk : Int) + ((n + 2 : Nat) : Int) - 2 := wI64 (by omega) (by omega)
  have hP := bp_pos n
  generalize hu1 : U.getD (kk + (n + 2)) 0 = u1 at *
  generalize hu2 : U.getD (kk + (n + 1)) 0 = u2 at *
  generalize hu3 : U.getD (kk + n) 0 = u3 at *
  generalize hv1' : V.getD (n + 1) 0 = v1 at *
  generalize hv2' : V.getD n 0 = w2' at *
  generalize hvV : val V = v at *
  generalize hPP : bp n = P at *
  have x1 : IntKind.u64.wrap v1 = v1 := wU64 (by omega) (by omega)
  have x2 : IntKind.u64.wrap w2' = w2' := wU64 (by omega) (by omega)
  have x3 : IntKind.u64.wrap u3 = u3 := wU64 (by omega) (by omega)
  have hU2 : ∃ U2, U2 = u1 * 1000000000 + u2 := ⟨_, rfl⟩
  obtain ⟨U2, hU2⟩ := hU2
  rw [← hU2]
  have a1 : 0 ≤ U2 := by omega
  have a2 : U2 < 1000000000 * 1000000000 := by omega
  -- what the two rows have in common
  have hulo : (U2 * 1000000000 + u3) * P ≤ u := by rw [hU2]; grind
  have huhi : u < (U2 * 1000000000 + u3 + 1) * P := by rw [hU2]; grind
  have hvlo : v1 * 1000000000 * P + w2' * P ≤ v := by grind
  have hvhi : v < (v1 * 1000000000 + w2' + 1) * P := by grind
  have hvb : 1000000000 * P ≤ v := by
    have : 1 * (1000000000 * P) ≤ v1 * (1000000000 * P) := Int.mul_le_mul_of_nonneg_right (by omega) (by omega)
    have : 0 ≤ w2' * P := Int.mul_nonneg (by omega) (by omega)
    grind
  have hU2v : U2 < (v1 + 1) * 1000000000 := by
    have b1 : (U2 * 1000000000) * P < ((v1 + 1) * 1000000000 * 1000000000) * P := by
      have : u3 * P ≥ 0 := Int.mul_nonneg (by omega) (by omega)
      have : (v1 * 1000000000 + w2' + 1) * P ≤ ((v1 + 1) * 1000000000) * P := Int.mul_le_mul_of_nonneg_right (by omega) (by omega)
      grind
    have := Int.lt_of_mul_lt_mul_right b1 (by omega)
    omega
  have hend : ∀ g r : Int, g * v1 + r = U2 → 0 ≤ g → 1000000000 ≤ r → g < 1000000000 ∧ g ≤ q + 1 := by
    intro g r hg hg0 hr
    have hgB : g < 1000000000 := by
      rcases ilt_or_ge g 1000000000 with h | h
      · exact h
      · exfalso
        have : 1000000000 * v1 ≤ g * v1 := Int.mul_le_mul_of_nonneg_right h (by omega)
        grind
    refine ⟨hgB, guess_end (v1 := v1) (v2 := w2') hP hq' hvhi hvb hulo hg0 hgB ?_⟩
    have : g * w2' ≤ 999999999 * w2' := Int.mul_le_mul_of_nonneg_right (by omega) (by omega)
    grind
  have hmod0 := Int.emod_nonneg U2 hv1
  have hmod1 := Int.emod_lt_of_pos U2 (show 0 < v1 by omega)
  have hdm := Int.mul_ediv_add_emod U2 v1
  have hd0 : 0 ≤ U2 / v1 := Int.ediv_nonneg a1 (by omega)
  have hd1 : U2 / v1 ≤ U2 := Int.ediv_le_self _ a1
  have hstart : q ≤ U2 / v1 := by
    refine guess_start (PB := 1000000000 * P) (v := v) (u := u) (by omega) (by omega) hq ?_ ?_ hq0
    · have : 0 ≤ w2' * P := Int.mul_nonneg (by omega) (by omega)
      grind
    · have : (u3 + 1) * P ≤ 1000000000 * P := Int.mul_le_mul_of_nonneg_right (by omega) (by omega)
      grind
  refine iter_ok _ (fun m s => ∃ (r : Int), s = (((n + 2 : Nat) : Int), sc, U, V, Q, (kk : Int), (m : Int), r, ()) ∧ (m : Int) * v1 + r = U2 ∧ 0 ≤ r ∧ r < 1000000000 ∧ q ≤ (m : Int)) _ ?_ k (U2 / v1).toNat _ (F.lt (m := 2) (by simp [bp]; omega) (by omega)) ⟨U2 % v1, by simp; omega, by rw [Int.toNat_of_nonneg hd0]; grind, hmod0, by omega, by omega⟩
  rintro m s ⟨r, rfl, hm, hr0, hr1, hqm⟩
  have hmU : (m : Int) ≤ U2 := by
    have : (m : Int) * 1 ≤ (m : Int) * v1 := Int.mul_le_mul_of_nonneg_left (by omega) (by omega)
    omega
  dsimp only
  unfold integer_divide_L2
  have y1 : IntKind.u64.wrap (r + v1) = r + v1 := wU64 (by omega) (by omega)
  simp only [w1, w2, w3, w4, i1, i2, i3, t1, t2, t3, cond_true, hu3, hv1', hv2', x1, x2, x3, y1]
  have dec : q < (m : Int) → (∃ s' m', (bif decide (r + v1 ≥ 1000000000) then some (Sum.inr (((n + 2 : Nat) : Int), sc, U, V, Q, (kk : Int), IntKind.u64.wrap ((m : Int) - 1), ())) else some (Sum.inl (((n + 2 : Nat) : Int), sc, U, V, Q, (kk : Int), IntKind.u64.wrap ((m : Int) - 1), r + v1, ()))) = some (Sum.inl s' : (Int × Int × List Int × List Int × List Int × Int × Int × Int × Unit) ⊕ (Int × Int × List Int × List Int × List Int × Int × Int × Unit)) ∧ m' < m ∧ ∃ (r : Int), s' = (((n + 2 : Nat) : Int), sc, U, V, Q, (kk : Int), (m' : Int), r, ()) ∧ (m' : Int) * v1 + r = U2 ∧ 0 ≤ r ∧ r < 1000000000 ∧ q ≤ (m' : Int)) ∨
      ∃ x, (bif decide (r + v1 ≥ 1000000000) then some (Sum.inr (((n + 2 : Nat) : Int), sc, U, V, Q, (kk : Int), IntKind.u64.wrap ((m : Int) - 1), ())) else some (Sum.inl (((n + 2 : Nat) : Int), sc, U, V, Q, (kk : Int), IntKind.u64.wrap ((m : Int) - 1), r + v1, ()))) = some (Sum.inr x : (Int × Int × List Int × List Int × List Int × Int × Int × Int × Unit) ⊕ (Int × Int × List Int × List Int × List Int × Int × Int × Unit)) ∧ ∃ g : Int, x = (((n + 2 : Nat) : Int), sc, U, V, Q, (kk : Int), g, ()) ∧ q ≤ g ∧ g ≤ q + 1 ∧ g < 1000000000 := by
    intro hlt
    obtain ⟨m', rfl⟩ : ∃ m', m = m' + 1 := ⟨m - 1, by omega⟩
    have y2 : IntKind.u64.wrap (((m' + 1 : Nat) : Int) - 1) = (m' : Int) := by rw [wU64 (by omega) (by omega)]; omega
    have hm' : (m' : Int) * v1 + (r + v1) = U2 := by
      have : ((m' + 1 : Nat) : Int) = m' + 1 := by omega
      rw [this] at hm; grind
    rw [y2]
    by_cases hr : r + v1 ≥ 1000000000
    · right
      obtain ⟨f1, f2⟩ := hend m' (r + v1) hm' (by omega) hr
      exact ⟨_, by rw [cdec hr, cond_true], m', rfl, by omega, f2, f1⟩
    · left
      exact ⟨_, m', by rw [cdecF hr, cond_false], by omega, r + v1, rfl, hm', by omega, by omega, by omega⟩
  by_cases hB : (m : Int) ≥ 1000000000
  · simp only [cdec hB, cond_true]
    exact dec (by omega)
  · simp only [cdecF hB, cond_false]
    have hmw : 0 ≤ (m : Int) * w2' ∧ (m : Int) * w2' ≤ 999999998000000001 := Dig.prod ⟨by omega, by omega⟩ d5
    have y3 : IntKind.u64.wrap ((m : Int) * w2') = (m : Int) * w2' := wU64 (by omega) (by omega)
    have y4 : IntKind.u64.wrap (r * 1000000000) = r * 1000000000 := wU64 (by omega) (by omega)
    have y5 : IntKind.u64.wrap (r * 1000000000 + u3) = r * 1000000000 + u3 := wU64 (by omega) (by omega)
    simp only [y3, y4, y5]
    by_cases hc : (m : Int) * w2' > r * 1000000000 + u3
    · simp only [cdec hc, cond_true]
      exact dec (guess_step hP hq hvlo huhi hm hq0 (by omega) (by omega) hc)
    · simp only [cdecF hc, cond_false]
      right
      refine ⟨_, rfl, m, rfl, hqm, ?_, by omega⟩
      exact guess_end (v1 := v1) (v2 := w2') hP hq' hvhi hvb hulo (by omega) (by omega) (by grind)
end Go.Proofs.YtbjkpogfgijmaaaGreat
