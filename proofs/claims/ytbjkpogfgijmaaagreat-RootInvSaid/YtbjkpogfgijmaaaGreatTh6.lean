/- Plain laws: the program's division of limbs; sums, products and quotients of whole numbers. -/
import Derived.Test.YtbjkpogfgijmaaaGreatTh5
namespace Go.Proofs.YtbjkpogfgijmaaaGreat
open Go
set_option linter.unusedVariables false
set_option linter.unusedSimpArgs false

theorem lim_top {n : Nat} (h : 0 < n) : (lim n).getD ((lim n).length - 1) 0 ≠ 0 := by
  have hl := lim_length_pos.2 h
  have := (lim_norm n).2 (by intro e; rw [e] at hl; simp at hl)
  rw [List.getLast_eq_getElem] at this
  rwa [getD_in (by omega)]
theorem divmod_of {a d q r : Int} (h : a = d * q + r) (h0 : 0 ≤ r) (h1 : r < d) : q = a / d ∧ r = a % d := by
  subst h
  rw [Int.add_comm, Int.add_mul_ediv_left _ _ (by omega), Int.ediv_eq_zero_of_lt h0 h1, Int.add_mul_emod_self_left, Int.emod_eq_of_lt h0 h1]
  omega
theorem lim_one {n : Nat} (h : (lim n).length = 1) : (lim n).getD 0 0 = n ∧ 0 < n ∧ n < 1000000000 := by
  have h1 := lim_val n
  have h2 := lim_lt n
  have h3 := lim_length_pos (n := n)
  rw [h] at h2 h3
  match hl : lim n, h with
  | [x], _ =>
    rw [hl] at h1
    simp [val] at h1
    simp [bp] at h2
    simp; omega
set_option maxHeartbeats 4000000 in
theorem divide_ok {k : Nat} [F : Fuel k] {a b : List Int} (ha : Dig a) (hb : Dig b) (hb0 : val b ≠ 0) (hla : a.length + 2 ≤ LM) (hlb : b.length + 2 ≤ LM) :
    ∃ q r, integer_divide k a b = some (q, r) ∧ Dig q ∧ Dig r ∧ q.length ≤ a.length + 2 ∧ r.length ≤ a.length + b.length ∧ val q = val a / val b ∧ val r = val a % val b := by
  have hlm := LM_val
  unfold integer_divide
  rw [trim_ok ha (by omega), trim_ok hb (by omega)]
  have hA0 := val_nonneg ha
  have hD0 := val_nonneg hb
  have hAl : (lim (val a).toNat).length ≤ a.length := lim_len_le (by have := val_lt ha; omega)
  have hDl : (lim (val b).toNat).length ≤ b.length := lim_len_le (by have := val_lt hb; omega)
  obtain ⟨A, eA⟩ : ∃ A : Nat, val a = A := ⟨(val a).toNat, by omega⟩
  obtain ⟨D, eD⟩ : ∃ D : Nat, val b = D := ⟨(val b).toNat, by omega⟩
  rw [eA, Int.toNat_natCast] at hAl
  rw [eD, Int.toNat_natCast] at hDl
  rw [eA, eD, Int.toNat_natCast, Int.toNat_natCast]
  have hDpos : 0 < D := by omega
  clear eA eD hA0 hD0 hb0
  have hDl0 := lim_length_pos.2 hDpos
  simp only [Option.bind_some]
  by_cases h1 : (lim D).length = 1
  · have e1 : (((lim D).length : Int) == 1) = true := by simp [h1]
    have e2 : ixOk 0 (lim D).length = true := ixOk_of (by omega) (by omega)
    obtain ⟨f1, f2, f3⟩ := lim_one h1
    obtain ⟨q, r, hq, g1, g2, g3, g4, g5⟩ := byWord_ok (k := k) (lim_dig A) (w := (D : Int)) (by omega) (by omega) (by omega)
    simp only [e1, e2, cond_true, f1, hq, Option.bind_some]
    rw [lim_val] at g5
    obtain ⟨k1, k2⟩ := divmod_of g5 g3 g4
    refine ⟨q, [r], rfl, g1, Dig.cons g3 (by omega) Dig.nil, by omega, by simp; omega, k1, ?_⟩
    simp only [val]; omega
  · have e1 : (((lim D).length : Int) == 1) = false := by simp; omega
    rw [e1, cond_false, compare_ok (lim_dig A) (lim_dig D) (by omega) (by omega), lim_val, lim_val, Option.bind_some]
    by_cases h2 : A < D
    · have e2 : decide (cmpI (A : Int) (D : Int) < 0) = true := cdec (cmpI_neg_iff.2 (by omega))
      have e3 : decide ((([] : List Int).length + (lim A).length) * 4 ≤ 140737488355328) = true := by simp; omega
      rw [e2, cond_true, e3, cond_true]
      refine ⟨[], lim A, rfl, Dig.nil, lim_dig A, by simp, by omega, ?_, ?_⟩
      · rw [Int.ediv_eq_zero_of_lt (by omega) (by omega)]; rfl
      · rw [lim_val, Int.emod_eq_of_lt (by omega) (by omega)]
    · have e2 : decide (cmpI (A : Int) (D : Int) < 0) = false := cdecF (fun h => h2 (by have := cmpI_neg_iff.1 h; omega))
      obtain ⟨n, hn⟩ : ∃ n, (lim D).length = n + 2 := ⟨(lim D).length - 2, by omega⟩
      have hAD := lim_len_mono (show D ≤ A by omega)
      have hb1 := (lim_dig D).getD (n + 1)
      have hb1' := lim_top hDpos
      rw [hn, show n + 2 - 1 = n + 1 by omega] at hb1'
      have ht2 := top2 hn
      rw [lim_val] at ht2
      have ht2a := val_nonneg ((lim_dig D).take n)
      have ht2b := val_lt ((lim_dig D).take n)
      rw [List.length_take, hn, Nat.min_eq_left (by omega)] at ht2b
      have ht2c := (lim_dig D).getD n
      have w1 : IntKind.i64.wrap (((lim D).length : Int) - 1) = ((n + 1 : Nat) : Int) := by rw [wI64 (by omega) (by omega)]; omega
      have i1 : ixOk ((n + 1 : Nat) : Int) (lim D).length = true := ixOk_of (by omega) (by omega)
      generalize hB1 : (lim D).getD (n + 1) 0 = B1 at *
      have w2 : IntKind.u64.wrap B1 = B1 := wU64 (by omega) (by omega)
      have w3 : IntKind.u64.wrap (B1 + 1) = B1 + 1 := wU64 (by omega) (by omega)
      have w4 : (B1 + 1 == 0) = false := by simp; omega
      have hsc : ∃ sc : Int, sc = 1000000000 / (B1 + 1) := ⟨_, rfl⟩
      obtain ⟨sc, hsc⟩ := hsc
      have sc1 : 1 ≤ sc := by rw [hsc]; exact Int.le_ediv_of_mul_le (by omega) (by omega)
      have sc2 : sc * (B1 + 1) ≤ 1000000000 := by rw [hsc]; exact Int.ediv_mul_le _ (by omega)
      have sc3 : sc < 1000000000 := by
        have : sc * 2 ≤ sc * (B1 + 1) := Int.mul_le_mul_of_nonneg_left (by omega) (by omega)
        omega
      have w5 : (1000000000 : Int).tdiv (B1 + 1) = sc := by rw [Int.tdiv_eq_ediv_of_nonneg (by omega), hsc]
      have w6 : IntKind.u32.wrap (IntKind.u64.wrap sc) = sc := by rw [wU64 (by omega) (by omega), wU32 (by omega) (by omega)]
      have hscd : Dig [sc] := Dig.cons (by omega) sc3 Dig.nil
      obtain ⟨u, hu, u1, u2, u3⟩ := times_ok (k := k) (lim_dig A) hscd (by simp; omega)
      obtain ⟨v, hv, v1, v2, v3⟩ := times_ok (k := k) (lim_dig D) hscd (by simp; omega)
      simp only [List.length_singleton] at u3 v3
      have esc : val [sc] = sc := by simp [val]
      rw [esc, lim_val] at u2 v2
      have e3 : decide ((u.length + ([0] : List Int).length) * 4 ≤ 140737488355328) = true := by simp; omega
      rw [e2, cond_false]
      simp only [w1, i1, cond_true, cond_false, hB1, w2, w3, w4, w5, w6, hu, hv, Option.bind_some, e3, Int.toNat_natCast]
      rw [trim_ok v1 (by omega), v2]
      simp only [Option.bind_some]
      -- the scaled divisor
      have hV0 : ((D : Int) * sc).toNat = D * sc.toNat := by
        have : ((D * sc.toNat : Nat) : Int) = (D : Int) * sc := by rw [Int.natCast_mul, Int.toNat_of_nonneg (by omega)]
        omega
      have hVv : (((D : Int) * sc).toNat : Int) = D * sc := by rw [Int.toNat_of_nonneg]; exact Int.mul_nonneg (by omega) (by omega)
      have hDge : (D : Int) ≤ D * sc := by have := Int.mul_le_mul_of_nonneg_left sc1 (show (0 : Int) ≤ D by omega); omega
      have hbD : bp (n + 1) ≤ D := by have := lim_ge hDpos; rw [hn] at this; exact this
      have hVlt : (D : Int) * sc < bp (n + 2) := by
        have h3 : (D : Int) < bp n * ((B1 + 1) * 1000000000) := by
          rw [ht2]
          have : bp n * ((lim D).getD n 0 + 1) ≤ bp n * 1000000000 := Int.mul_le_mul_of_nonneg_left (by omega) (by have := bp_pos n; omega)
          grind
        have h4 : (D : Int) * sc < bp n * ((B1 + 1) * 1000000000) * sc := Int.mul_lt_mul_of_pos_right h3 (by omega)
        have h5 : bp n * 1000000000 * (sc * (B1 + 1)) ≤ bp n * 1000000000 * 1000000000 := Int.mul_le_mul_of_nonneg_left sc2 (by have := bp_pos n; omega)
        simp only [bp]
        grind
      have hVl : (lim ((D : Int) * sc).toNat).length = n + 2 := by
        have a1 : (lim ((D : Int) * sc).toNat).length ≤ n + 2 := lim_len_le (by omega)
        have a2 : ¬ (lim ((D : Int) * sc).toNat).length ≤ n + 1 := by rw [lim_len_le_iff]; omega
        omega
      have hVtop : (lim ((D : Int) * sc).toNat).getD (n + 1) 0 ≠ 0 := by
        have := lim_top (n := ((D : Int) * sc).toNat) (by omega)
        rwa [hVl, show n + 2 - 1 = n + 1 by omega] at this
      -- the scaled dividend
      obtain ⟨m0, hm0⟩ : ∃ m0, (u ++ ([0] : List Int)).length = m0 + (n + 2) := ⟨(u ++ ([0] : List Int)).length - (n + 2), by simp; omega⟩
      have hul : (u ++ ([0] : List Int)).length = (lim A).length + 2 := by simp; omega
      have hUd : Dig (u ++ ([0] : List Int)) := u1.append (Dig.cons (by omega) (by omega) Dig.nil)
      have hUv : val (u ++ ([0] : List Int)) = A * sc := by rw [val_append, u2]; simp [val]
      have hlt : val ((u ++ ([0] : List Int)).drop m0) < val (lim ((D : Int) * sc).toNat) := by
        rw [lim_val, hVv]
        have h3 := val_split (u ++ ([0] : List Int)) m0 (by omega)
        have h4 := val_nonneg (hUd.take m0)
        have h5 : (A : Int) * sc < bp (m0 + (n + 1)) := by
          have h6 := lim_lt A
          have h7 : (A : Int) * sc ≤ bp (lim A).length * sc := Int.mul_le_mul_of_nonneg_right (by omega) (by omega)
          have h8 : bp (lim A).length * sc < bp (lim A).length * 1000000000 := Int.mul_lt_mul_of_pos_left sc3 (bp_pos _)
          have h9 : m0 + (n + 1) = (lim A).length + 1 := by omega
          rw [h9]; simp only [bp]; omega
        rw [bp_add] at h5
        rw [hUv] at h3
        have h6 : bp m0 * val ((u ++ ([0] : List Int)).drop m0) < bp m0 * bp (n + 1) := by omega
        have h7 := Int.lt_of_mul_lt_mul_left h6 (by have := bp_pos m0; omega)
        omega
      obtain ⟨x, hx, U, Q, rfl, l1, l2, l3, l4, l5, l6⟩ := divide_loop (k := k) (sc := sc) (U0 := u ++ ([0] : List Int)) (V := lim ((D : Int) * sc).toNat) hUd (lim_dig _) hVl hm0 (by omega) hVtop hlt
      have w7 : IntKind.i64.wrap (((u ++ ([0] : List Int)).length : Int) - ((n + 2 : Nat) : Int)) = (m0 : Int) := by rw [wI64 (by omega) (by omega)]; omega
      have w8 : IntKind.i64.wrap ((m0 : Int) - 1) = (m0 : Int) - 1 := wI64 (by omega) (by omega)
      have e4 : ((decide (0 ≤ (m0 : Int))) && (decide ((m0 : Int) ≤ (m0 : Int)) && decide ((m0 : Int) * ((4 : Nat) : Int) ≤ 281474976710656))) = true := make_ok (by omega)
      have hnn : ((lim D).length : Int) = ((n + 2 : Nat) : Int) := by omega
      simp only [hnn, w7, w8, e4, cond_true, Int.toNat_natCast, hx, Option.bind_some]
      have hUU : U.length = m0 + (n + 2) := by omega
      have s1 : sliceOk (U.length : Int) none (some ((n + 2 : Nat) : Int)) none = true := by simp [sliceOk]; omega
      rw [s1, cond_true, List.drop_zero]
      rw [lim_val, hVv] at l5 l6
      rw [hUv] at l6
      have hUt : val (U.take (n + 2)) = val U := by
        have h3 := val_split U (n + 2) (by omega)
        have h4 := drop_zero l1 (m := n + 2) (Int.lt_trans l5 hVlt) (Nat.le_refl _)
        rw [h4] at h3; omega
      rw [trim_ok (l1.take _) (by simp; omega), hUt, Option.bind_some]
      have hU0 := val_nonneg l1
      have hUl : (lim (val U).toNat).length ≤ n + 2 := lim_len_le (by omega)
      obtain ⟨q', r', hq', p1, p2, p3, p4, p5⟩ := byWord_ok (k := k) (lim_dig (val U).toNat) (w := sc) (by omega) sc3 (by omega)
      rw [lim_val, Int.toNat_of_nonneg hU0] at p5
      simp only [hq', Option.bind_some]
      have hr0 : r' = 0 := by
        have h3 : r' = sc * (A - D * val Q - val q') := by grind
        rcases Int.lt_trichotomy (A - D * val Q - val q') 0 with h4 | h4 | h4
        · have : sc * (A - D * val Q - val q') ≤ sc * (-1) := Int.mul_le_mul_of_nonneg_left (by omega) (by omega)
          omega
        · rw [h4] at h3; simpa using h3
        · have : sc * 1 ≤ sc * (A - D * val Q - val q') := Int.mul_le_mul_of_nonneg_left (by omega) (by omega)
          omega
      have hq'v : (A : Int) = val q' + D * val Q := by
        have h3 : sc * (A - D * val Q - val q') = sc * 0 := by subst hr0; grind
        have := Int.eq_of_mul_eq_mul_left (by omega) h3
        omega
      have hq'0 := val_nonneg p1
      have hq'lt : val q' < D := by
        have h3 : sc * val q' < sc * D := by subst hr0; grind
        exact Int.lt_of_mul_lt_mul_left h3 (by omega)
      obtain ⟨k1, k2⟩ := divmod_of (a := (A : Int)) (d := D) (q := val Q) (r := val q') (by omega) hq'0 hq'lt
      exact ⟨Q, q', rfl, l2, p1, by omega, by omega, k1, k2⟩
end Go.Proofs.YtbjkpogfgijmaaaGreat
