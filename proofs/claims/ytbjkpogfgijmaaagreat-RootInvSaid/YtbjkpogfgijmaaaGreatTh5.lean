/- Plain laws: the program's long division, whole. -/
import Derived.Test.YtbjkpogfgijmaaaGreatTh4
namespace Go.Proofs.YtbjkpogfgijmaaaGreat
open Go
set_option linter.unusedVariables false
set_option linter.unusedSimpArgs false

theorem bp_succ (n : Nat) : bp (n + 1) = 1000000000 * bp n := rfl
set_option maxHeartbeats 4000000 in
theorem divide_loop {k : Nat} [F : Fuel k] {n m0 : Nat} {sc : Int} {U0 V : List Int} (hU : Dig U0) (hV : Dig V) (hn : V.length = n + 2) (hUl : U0.length = m0 + (n + 2)) (hUm : U0.length ≤ LM) (hv1 : V.getD (n + 1) 0 ≠ 0) (hlt : val (U0.drop m0) < val V) :
    ∃ x, iter (fun (x13 : (Int × Int × List Int × List Int × List Int × Int × Unit)) => integer_divide_L0 k x13.1 x13.2.1 x13.2.2.1 x13.2.2.2.1 x13.2.2.2.2.1 x13.2.2.2.2.2.1) k (((n + 2 : Nat) : Int), sc, U0, V, List.replicate m0 (0 : Int), (m0 : Int) - 1, ()) = some x ∧
      ∃ U Q, x = (((n + 2 : Nat) : Int), sc, U, Q, ()) ∧ Dig U ∧ Dig Q ∧ U.length = U0.length ∧ Q.length = m0 ∧ val U < val V ∧ val U0 = val U + val V * val Q := by
  have hlm := LM_val
  have hVlt : val V < bp (n + 2) := by have := val_lt hV; rwa [hn] at this
  have hVpos : 0 < val V := by
    have h1 := top2 hn
    have := hV.getD (n + 1)
    have := hV.getD n
    have := val_nonneg (hV.take n)
    have h2 : bp n * 1 ≤ bp n * (V.getD n 0 + 1000000000 * V.getD (n + 1) 0) := Int.mul_le_mul_of_nonneg_left (by omega) (by have := bp_pos n; omega)
    have := bp_pos n
    omega
  refine iter_ok _ (fun m s => ∃ U Q, m ≤ m0 ∧ s = (((n + 2 : Nat) : Int), sc, U, V, Q, (m : Int) - 1, ()) ∧ Dig U ∧ Dig Q ∧ U.length = U0.length ∧ Q.length = m0 ∧ val (U.drop m) < val V ∧ val U0 = val U + bp m * (val V * val (Q.drop m))) _ ?_ k m0 _ (F.len (by omega)) ⟨U0, _, Nat.le_refl _, rfl, hU, Dig.replicate _, rfl, by simp, hlt, by simp [val]⟩
  rintro m s ⟨U, Q, hm, rfl, hUd, hQd, hUl', hQl, hl, hv⟩
  dsimp only
  unfold integer_divide_L0
  by_cases h0 : m = 0
  · right
    subst h0
    refine ⟨_, by rw [cdecF (by omega), cond_false], U, Q, rfl, hUd, hQd, hUl', hQl, by simpa using hl, ?_⟩
    simpa [bp] using hv
  · left
    obtain ⟨kk, rfl⟩ : ∃ kk, m = kk + 1 := ⟨m - 1, by omega⟩
    have d1 := hUd.getD (kk + (n + 2))
    have d2 := hUd.getD (kk + (n + 1))
    have d4 := hV.getD (n + 1)
    have e0 : ((kk + 1 : Nat) : Int) - 1 = kk := by omega
    have ge : decide ((kk : Int) ≥ 0) = true := by simp
    have w1 : IntKind.i64.wrap ((kk : Int) + ((n + 2 : Nat) : Int)) = ((kk + (n + 2) : Nat) : Int) := by rw [wI64 (by omega) (by omega)]; omega
    have w2 : IntKind.i64.wrap (((kk + (n + 2) : Nat) : Int) - 1) = ((kk + (n + 1) : Nat) : Int) := by rw [wI64 (by omega) (by omega)]; omega
    have w3 : IntKind.i64.wrap (((n + 2 : Nat) : Int) - 1) = ((n + 1 : Nat) : Int) := by rw [wI64 (by omega) (by omega)]; omega
    have w4 : IntKind.i64.wrap (((kk + (n + 2) : Nat) : Int) + 1) = ((kk + (n + 3) : Nat) : Int) := by rw [wI64 (by omega) (by omega)]; omega
    have w5 : IntKind.i64.wrap ((kk : Int) - 1) = (kk : Int) - 1 := wI64 (by omega) (by omega)
    have i1 : ixOk ((kk + (n + 2) : Nat) : Int) U.length = true := ixOk_of (by omega) (by omega)
    have i2 : ixOk ((kk + (n + 1) : Nat) : Int) U.length = true := ixOk_of (by omega) (by omega)
    have i3 : ixOk ((n + 1 : Nat) : Int) V.length = true := ixOk_of (by omega) (by omega)
    have i4 : ixOk (kk : Int) Q.length = true := ixOk_of (by omega) (by omega)
    have y1 : IntKind.u64.wrap (V.getD (n + 1) 0) = V.getD (n + 1) 0 := wU64 (by omega) (by omega)
    have y2 : (V.getD (n + 1) 0 == 0) = false := by simpa using hv1
    have y3 : IntKind.u64.wrap (U.getD (kk + (n + 2)) 0) = U.getD (kk + (n + 2)) 0 := wU64 (by omega) (by omega)
    have y4 : IntKind.u64.wrap (U.getD (kk + (n + 1)) 0) = U.getD (kk + (n + 1)) 0 := wU64 (by omega) (by omega)
    have y5 : IntKind.u64.wrap (U.getD (kk + (n + 2)) 0 * 1000000000) = U.getD (kk + (n + 2)) 0 * 1000000000 := wU64 (by omega) (by omega)
    have y6 : IntKind.u64.wrap (U.getD (kk + (n + 2)) 0 * 1000000000 + U.getD (kk + (n + 1)) 0) = U.getD (kk + (n + 2)) 0 * 1000000000 + U.getD (kk + (n + 1)) 0 := wU64 (by omega) (by omega)
    have t0 : 0 ≤ U.getD (kk + (n + 2)) 0 * 1000000000 + U.getD (kk + (n + 1)) 0 := by omega
    have q0 : 0 ≤ (U.getD (kk + (n + 2)) 0 * 1000000000 + U.getD (kk + (n + 1)) 0) / V.getD (n + 1) 0 := Int.ediv_nonneg t0 (by omega)
    have q1 : (U.getD (kk + (n + 2)) 0 * 1000000000 + U.getD (kk + (n + 1)) 0) / V.getD (n + 1) 0 ≤ U.getD (kk + (n + 2)) 0 * 1000000000 + U.getD (kk + (n + 1)) 0 := Int.ediv_le_self _ t0
    have y7 : IntKind.u64.wrap ((U.getD (kk + (n + 2)) 0 * 1000000000 + U.getD (kk + (n + 1)) 0) / V.getD (n + 1) 0) = (U.getD (kk + (n + 2)) 0 * 1000000000 + U.getD (kk + (n + 1)) 0) / V.getD (n + 1) 0 := wU64 (by omega) (by omega)
    -- the segment
    have hsd := (hUd.take (kk + (n + 3))).drop kk
    have hsl : ((U.take (kk + (n + 3))).drop kk).length = n + 3 := by simp; omega
    have hdk := val_drop U kk (by omega)
    have hUk := hUd.getD kk
    have hz : val (U.drop (kk + (n + 3))) = 0 := by
      have := drop_zero (hUd.drop (kk + 1)) (m := n + 2) (Int.lt_trans hl hVlt) (Nat.le_refl _)
      rw [List.drop_drop] at this
      have e : kk + 1 + (n + 2) = kk + (n + 3) := by omega
      rwa [e] at this
    have hsv : val ((U.take (kk + (n + 3))).drop kk) = val (U.drop kk) := by
      have h1 := val_split (U.drop kk) (n + 3) (by simp; omega)
      rw [List.drop_drop, hz] at h1
      rw [List.take_drop] at h1
      omega
    have hseg0 := val_nonneg hsd
    generalize hsegd : val ((U.take (kk + (n + 3))).drop kk) = u at *
    have hu1 : u < 1000000000 * val V := by omega
    have hq0 : 0 ≤ u / val V := Int.ediv_nonneg hseg0 (by omega)
    have hdm := Int.mul_ediv_add_emod u (val V)
    have hm0 := Int.emod_nonneg u (show val V ≠ 0 by omega)
    have hm1 := Int.emod_lt_of_pos u hVpos
    have hqB : u / val V < 1000000000 := Int.ediv_lt_of_lt_mul hVpos (by omega)
    obtain ⟨x, hx, g, rfl, hg0, hg1, hg2⟩ := guess_loop (k := k) (sc := sc) (Q := Q) (U := U) hUd hV hn (kk := kk) (by omega) (by omega) hv1 (u := u) (q := u / val V) hsegd.symm hq0 (by grind) (by grind) hqB hu1
    have s1 : sliceOk (U.length : Int) (some (kk : Int)) (some ((kk + (n + 3) : Nat) : Int)) none = true := by simp [sliceOk]; omega
    have c1 : (decide (kk < kk + (n + 3)) && decide (kk + (n + 3) ≤ U.length)) = true := by simp; omega
    simp only [e0, ge, w1, w2, w3, w4, w5, i1, i2, i3, i4, y1, y2, y3, y4, y5, y6, Int.tdiv_eq_ediv_of_nonneg t0, Int.tmod_eq_emod_of_nonneg t0, y7, cond_true, cond_false, Int.toNat_natCast, hx, Option.bind_some, s1, c1]
    obtain ⟨f, r, hr, hrd, hrl, c, hc0, hfc, hrv⟩ := subtract_ok (k := k) (u := (U.take (kk + (n + 3))).drop kk) (v := V) (g := g) hsd hV (by omega) hg2 (by rw [hsl, hn]) (by rw [hsl]; omega)
    rw [hsl, hsegd] at hrv
    rw [hsl] at hrl
    simp only [hr, Option.bind_some]
    clear hx hr
    have hrlt := val_lt hrd
    rw [hrl] at hrlt
    have hr0 := val_nonneg hrd
    have hVlt' : val V < bp (n + 3) := by have := bp_pos (n + 2); rw [show n + 3 = (n + 2) + 1 by omega, bp_succ]; omega
    -- the new state is right whenever the segment holds the remainder
    have fin : ∀ r' : List Int, Dig r' → r'.length = n + 3 → val r' = u % val V →
        ∃ U' Q', kk ≤ m0 ∧ (((n + 2 : Nat) : Int), sc, U.take kk ++ r' ++ U.drop (kk + (n + 3)), V, Q.set kk (u / val V), (kk : Int) - 1, ()) = (((n + 2 : Nat) : Int), sc, U', V, Q', (kk : Int) - 1, ()) ∧ Dig U' ∧ Dig Q' ∧ U'.length = U0.length ∧ Q'.length = m0 ∧ val (U'.drop kk) < val V ∧ val U0 = val U' + bp kk * (val V * val (Q'.drop kk)) := by
      intro r' h1 h2 h3
      have l1 : (U.take kk).length = kk := by simp; omega
      refine ⟨_, _, by omega, rfl, ((hUd.take _).append h1).append (hUd.drop _), hQd.set _ hq0 hqB, by simp [h2]; omega, by simp [hQl], ?_, ?_⟩
      · rw [List.append_assoc, List.drop_append, l1, List.drop_of_length_le (by omega)]
        simp only [Nat.sub_self, List.drop_zero, List.nil_append, val_append, hz, h3]
        omega
      · rw [List.append_assoc, val_append, val_append, hz, l1, h3, val_drop _ kk (by simp; omega), getD_set _ _ _ _ (by omega), if_pos rfl]
        have e1 : (Q.set kk (u / val V)).drop (kk + 1) = Q.drop (kk + 1) := by rw [List.drop_set]; simp
        rw [e1, hv, val_split U kk (by omega), ← hsv, bp_succ]
        generalize u / val V = d at *
        generalize u % val V = e at *
        grind
    by_cases hgq : g = u / val V
    · -- the estimate was right
      have hval : val r = u % val V + c * bp (n + 3) := by rw [hrv, hgq]; grind
      have hc : c = 0 := carry_zero (v := u % val V) (P := bp (n + 3)) (by omega) hm0 hc0 (by omega)
      have hf : f = false := by
        cases f with
        | false => rfl
        | true => have := hfc.1 rfl; omega
      subst hf
      subst hc
      subst hgq
      simp only [cond_false]
      obtain ⟨U', Q', a1, a2, a3⟩ := fin r hrd hrl (by omega)
      exact ⟨_, kk, by rw [wU32 (by omega) (by omega)], by omega, U', Q', a1, a2, a3⟩
    · -- one too great
      have hg : g = u / val V + 1 := by omega
      have hval : val r = u % val V - val V + c * bp (n + 3) := by rw [hrv, hg]; grind
      have hc : 0 < c := by
        rcases ilt_or_ge 0 c with h | h
        · exact h
        · have : c = 0 := by omega
          subst this; omega
      have hf : f = true := hfc.2 hc
      subst hf
      simp only [cond_true]
      have l1 : (U.take kk).length = kk := by simp; omega
      have hUl2 : (U.take kk ++ r ++ U.drop (kk + (n + 3))).length = U.length := by simp [hrl]; omega
      have s2 : sliceOk ((U.take kk ++ r ++ U.drop (kk + (n + 3))).length : Int) (some (kk : Int)) (some ((kk + (n + 3) : Nat) : Int)) none = true := by rw [hUl2]; exact s1
      have c2 : (decide (kk < kk + (n + 3)) && decide (kk + (n + 3) ≤ (U.take kk ++ r ++ U.drop (kk + (n + 3))).length)) = true := by rw [hUl2]; exact c1
      have sg : ((U.take kk ++ r ++ U.drop (kk + (n + 3))).take (kk + (n + 3))).drop kk = r := by
        rw [List.append_assoc, List.take_append, l1, List.drop_append]
        rw [List.take_of_length_le (show (U.take kk).length ≤ kk + (n + 3) by omega), List.drop_of_length_le (show (U.take kk).length ≤ kk by omega), l1]
        simp [hrl]
      have tk : (U.take kk ++ r ++ U.drop (kk + (n + 3))).take kk = U.take kk := by
        rw [List.append_assoc, List.take_append, l1]; simp [List.take_take]
      have dr : (U.take kk ++ r ++ U.drop (kk + (n + 3))).drop (kk + (n + 3)) = U.drop (kk + (n + 3)) := by
        rw [List.drop_append]; simp [hrl, l1]
      obtain ⟨r', hr', hrd', hrl', c', hc0', hc1', hrv'⟩ := restore_ok (k := k) hrd hV (by omega) (by omega)
      rw [hrl] at hrv' hrl'
      have hrlt' := val_lt hrd'
      rw [hrl'] at hrlt'
      have hr0' := val_nonneg hrd'
      have hcc : val r' = u % val V := by
        have h1 : val r' = u % val V + (c - c') * bp (n + 3) := by rw [hrv', hval]; grind
        have h2 : 0 ≤ c - c' := by omega
        have := carry_zero (v := u % val V) (c := c - c') (P := bp (n + 3)) (by omega) hm0 h2 (by omega)
        rw [this] at h1; omega
      simp only [s2, c2, cond_true, sg, hr', Option.bind_some, tk, dr]
      obtain ⟨U', Q', a1, a2, a3⟩ := fin r' hrd' hrl' hcc
      have e1 : IntKind.u32.wrap (IntKind.u64.wrap (g - 1)) = u / val V := by rw [wU64 (by omega) (by omega), wU32 (by omega) (by omega)]; omega
      exact ⟨_, kk, by rw [e1], by omega, U', Q', a1, a2, a3⟩
end Go.Proofs.YtbjkpogfgijmaaaGreat
