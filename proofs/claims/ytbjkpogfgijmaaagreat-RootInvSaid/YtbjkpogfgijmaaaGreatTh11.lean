/- Plain laws: the reference's whole numbers, joined. -/
import Derived.Test.YtbjkpogfgijmaaaGreatTh10
namespace Go.Proofs.YtbjkpogfgijmaaaGreat
open Go
set_option linter.unusedVariables false
set_option linter.unusedSimpArgs false

theorem rback_loop {k : Nat} [F : Fuel k] {sc : Int} {r out : List Int} (hs0 : 0 < sc) (hs1 : sc < 1000000000) (hr : Dig r) (hl : r.length ≤ LM) :
    ∃ last c, iter (fun (x59 : (Int × List Int × List Int × Int × List Int × Int × Unit)) => swarfref01_parts_L4 k x59.1 x59.2.1 x59.2.2.1 x59.2.2.2.1 x59.2.2.2.2.1 x59.2.2.2.2.2.1) k (sc, r, out, 0, (List.replicate (r.length : Int).toNat (0 : Int)), IntKind.i64.wrap ((r.length : Int) - 1), ()) = some (out, last, ()) ∧ Dig last ∧ last.length = r.length ∧ 0 ≤ c ∧ c < sc ∧ val r = sc * val last + c := by
  have hlm := LM_val
  refine Exists.elim (iter_ok (fun (x59 : (Int × List Int × List Int × Int × List Int × Int × Unit)) => swarfref01_parts_L4 k x59.1 x59.2.1 x59.2.2.1 x59.2.2.2.1 x59.2.2.2.2.1 x59.2.2.2.2.2.1)
    (fun n s => ∃ (q : List Int) (c : Int), n ≤ r.length ∧ s = (sc, r, out, c, q, (n : Int) - 1, ()) ∧ Dig q ∧ q.length = r.length ∧ 0 ≤ c ∧ c < sc ∧ val (r.drop n) = sc * val (q.drop n) + c)
    (fun x => ∃ q c, x = (out, q, ()) ∧ Dig q ∧ q.length = r.length ∧ 0 ≤ c ∧ c < sc ∧ val r = sc * val q + c) ?_ k r.length (sc, r, out, 0, (List.replicate (r.length : Int).toNat (0 : Int)), IntKind.i64.wrap ((r.length : Int) - 1), ()) (F.len hl) ⟨_, 0, Nat.le_refl _, by rw [wI64 (by omega) (by omega)], Dig.replicate _, by simp, by simp, hs0, by simp [val]⟩) ?_
  rotate_left
  · rintro x ⟨hx, q, c, rfl, h⟩
    exact ⟨q, c, hx, h⟩
  · rintro n s ⟨q, c, hn, rfl, hq, hql, hc0, hc1, hv⟩
    dsimp only
    unfold swarfref01_parts_L4
    by_cases h0 : n = 0
    · right
      subst h0
      exact ⟨_, by rw [cdecF (by omega), cond_false], q, c, rfl, hq, hql, hc0, hc1, by simpa using hv⟩
    · left
      obtain ⟨m, rfl⟩ : ∃ m, n = m + 1 := ⟨n - 1, by omega⟩
      have e0 : ((m + 1 : Nat) : Int) - 1 = m := by omega
      have hx := hr.getD m
      have w1 : IntKind.u64.wrap sc = sc := wU64 (by omega) (by omega)
      have w2 : (sc == 0) = false := beq_eq_false_iff_ne.2 (by omega)
      have w3 : IntKind.u64.wrap (c * 1000000000) = c * 1000000000 := wU64 (by omega) (by omega)
      have w4 : IntKind.u64.wrap (r.getD m 0) = r.getD m 0 := wU64 (by omega) (by omega)
      have w5 : IntKind.u64.wrap (c * 1000000000 + r.getD m 0) = c * 1000000000 + r.getD m 0 := wU64 (by omega) (by omega)
      have w6 : IntKind.i64.wrap ((m : Int) - 1) = (m : Int) - 1 := wI64 (by omega) (by omega)
      rw [e0, cdec (by omega), cond_true, ixOk_of (by omega) (by omega), cond_true, ixOk_of (i := (m : Int)) (n := q.length) (by omega) (by omega), cond_true]
      simp only [w1, w2, w3, w4, w5, w6, cond_false, Int.toNat_natCast]
      generalize ht : c * 1000000000 + r.getD m 0 = t
      have t0 : 0 ≤ t := by omega
      have d1 := Int.mul_ediv_add_emod t sc
      have d2 := Int.emod_nonneg t (show sc ≠ 0 by omega)
      have d3 := Int.emod_lt_of_pos t hs0
      have d4 : 0 ≤ t / sc := Int.ediv_nonneg t0 (by omega)
      have d5 : t / sc < 1000000000 := by
        apply Int.ediv_lt_of_lt_mul hs0
        rw [Int.mul_comm]; omega
      rw [Int.tmod_eq_emod_of_nonneg t0, Int.tdiv_eq_ediv_of_nonneg t0, wU64 d4 (by omega), wU32 d4 (by omega)]
      refine ⟨_, m, rfl, by omega, _, _, by omega, rfl, hq.set _ d4 d5, by simp [hql], d2, d3, ?_⟩
      rw [val_drop r m (by omega), hv, val_drop _ m (by simp; omega), getD_set _ _ _ _ (by omega), if_pos rfl]
      have : (q.set m (t / sc)).drop (m + 1) = q.drop (m + 1) := by rw [List.drop_set]; simp
      rw [this]
      generalize t / sc = d at *
      generalize t % sc = e at *
      grind
theorem rparts_ok {k : Nat} [F : Fuel k] {A D : Nat} (hD : 0 < D) (hA : (lim A).length + (lim D).length + 10 ≤ LM) : swarfref01_parts k (lim A) (lim D) = some (lim (A / D), lim (A % D)) := by
  have hlm := LM_val
  have hDl := lim_length_pos.2 hD
  have hlong : ∀ X : Option (List Int × List Int), X = (bif ixOk (IntKind.i64.wrap (((lim D).length : Int) - 1)) (lim D).length then
        bif (IntKind.u64.wrap ((IntKind.u64.wrap (((lim D).getD (IntKind.i64.wrap (((lim D).length : Int) - 1)).toNat 0))) + 1)) == 0 then
          none
        else
          (swarfref01_by k (lim D) (IntKind.u32.wrap (IntKind.u64.wrap ((1000000000 : Int).tdiv (IntKind.u64.wrap ((IntKind.u64.wrap (((lim D).getD (IntKind.i64.wrap (((lim D).length : Int) - 1)).toNat 0))) + 1)))))).bind fun x5 =>
          bif ixOk (IntKind.i64.wrap ((x5.length : Int) - 1)) x5.length then
            bif (decide (0 ≤ IntKind.i64.wrap (((lim A).length : Int) + 1))) && (decide (IntKind.i64.wrap (((lim A).length : Int) + 1) ≤ IntKind.i64.wrap (((lim A).length : Int) + 1)) && decide ((IntKind.i64.wrap (((lim A).length : Int) + 1)) * ((4 : Nat) : Int) ≤ 281474976710656)) then
              (swarfref01_by k (lim A) (IntKind.u32.wrap (IntKind.u64.wrap ((1000000000 : Int).tdiv (IntKind.u64.wrap ((IntKind.u64.wrap (((lim D).getD (IntKind.i64.wrap (((lim D).length : Int) - 1)).toNat 0))) + 1)))))).bind fun x6 =>
              bif sliceOk (List.replicate (IntKind.i64.wrap (((lim A).length : Int) + 1)).toNat (0 : Int)).length none (some (x6.length : Int)) none then
                (iter (fun (x57 : (Int × List Int × Int × List Int × List Int × List Int × Int × Unit)) => swarfref01_parts_L0 k x57.1 x57.2.1 x57.2.2.1 x57.2.2.2.1 x57.2.2.2.2.1 x57.2.2.2.2.2.1 x57.2.2.2.2.2.2.1) k (IntKind.u32.wrap (IntKind.u64.wrap ((1000000000 : Int).tdiv (IntKind.u64.wrap ((IntKind.u64.wrap (((lim D).getD (IntKind.i64.wrap (((lim D).length : Int) - 1)).toNat 0))) + 1)))), x5, IntKind.u64.wrap ((x5.getD (IntKind.i64.wrap ((x5.length : Int) - 1)).toNat 0)), [], ((List.replicate (IntKind.i64.wrap (((lim A).length : Int) + 1)).toNat (0 : Int)).take (x6.length : Int).toNat), x6, IntKind.i64.wrap ((x6.length : Int) - 1), ())).bind fun x56 =>
                bif (decide (0 ≤ (x56.2.1.length : Int))) && (decide ((x56.2.1.length : Int) ≤ (x56.2.1.length : Int)) && decide ((x56.2.1.length : Int) * ((4 : Nat) : Int) ≤ 281474976710656)) then
                  (iter (fun (x59 : (Int × List Int × List Int × Int × List Int × Int × Unit)) => swarfref01_parts_L4 k x59.1 x59.2.1 x59.2.2.1 x59.2.2.2.1 x59.2.2.2.2.1 x59.2.2.2.2.2.1) k (x56.1, x56.2.1, x56.2.2.1, 0, (List.replicate (x56.2.1.length : Int).toNat (0 : Int)), IntKind.i64.wrap ((x56.2.1.length : Int) - 1), ())).bind fun x58 =>
                  (swarfref01_trim k x58.1).bind fun x60 =>
                  (swarfref01_trim k x58.2.1).bind fun x61 =>
                  some (x60, x61)
                else
                  none
              else
                none
            else
              none
          else
            none
      else
        none) → X = some (lim (A / D), lim (A % D)) := by
    rintro X rfl
    have w1 : IntKind.i64.wrap (((lim D).length : Int) - 1) = (((lim D).length - 1 : Nat) : Int) := by rw [wI64 (by omega) (by omega)]; omega
    have hb := (lim_dig D).getD ((lim D).length - 1)
    have hb0 := lim_top hD
    rw [w1, ixOk_of (by omega) (by omega), cond_true, Int.toNat_natCast]
    generalize (lim D).getD ((lim D).length - 1) 0 = B1 at *
    have w2 : IntKind.u64.wrap B1 = B1 := wU64 (by omega) (by omega)
    have w3 : IntKind.u64.wrap (B1 + 1) = B1 + 1 := wU64 (by omega) (by omega)
    have w4 : (B1 + 1 == 0) = false := beq_eq_false_iff_ne.2 (by omega)
    obtain ⟨sc, hsc⟩ : ∃ sc : Int, sc = 1000000000 / (B1 + 1) := ⟨_, rfl⟩
    have sc1 : 1 ≤ sc := by rw [hsc]; exact Int.le_ediv_of_mul_le (by omega) (by omega)
    have sc2 : sc ≤ 1000000000 := by rw [hsc]; exact Int.ediv_le_self _ (by omega)
    have w5 : (1000000000 : Int).tdiv (B1 + 1) = sc := by rw [Int.tdiv_eq_ediv_of_nonneg (by omega), hsc]
    have w6 : IntKind.u32.wrap (IntKind.u64.wrap sc) = sc := by rw [wU64 (by omega) (by omega), wU32 (by omega) (by omega)]
    simp only [w2, w3, w4, w5, w6, cond_false]
    by_cases hsm : sc < 1000000000
    · obtain ⟨c, rfl⟩ : ∃ c : Nat, sc = c := ⟨sc.toNat, by omega⟩
      have e1 : ((D : Int) * (c : Int)).toNat = D * c := by have := Int.natCast_mul D c; omega
      have e2 : ((A : Int) * (c : Int)).toNat = A * c := by have := Int.natCast_mul A c; omega
      rw [rby_ok (lim_dig D) (by omega) (by omega), lim_val, e1, Option.bind_some]
      have hDc : 0 < D * c := Nat.mul_pos hD (by omega)
      have hDcl := lim_length_pos.2 hDc
      have hup : ∀ x : Nat, (lim (x * c)).length ≤ (lim x).length + 1 := fun x => lim_len_le (by
        have h1 := lim_lt x
        have h2 : (x : Int) * c ≤ x * 1000000000 := Int.mul_le_mul_of_nonneg_left (by omega) (by omega)
        rw [Int.natCast_mul]; simp only [bp]; omega)
      have h1 := hup D
      have h2 := hup A
      have w7 : IntKind.i64.wrap (((lim (D * c)).length : Int) - 1) = (((lim (D * c)).length - 1 : Nat) : Int) := by rw [wI64 (by omega) (by omega)]; omega
      have w8 : IntKind.i64.wrap (((lim A).length : Int) + 1) = (((lim A).length + 1 : Nat) : Int) := by rw [wI64 (by omega) (by omega)]; omega
      have hd := (lim_dig (D * c)).getD ((lim (D * c)).length - 1)
      have w9 : IntKind.u64.wrap ((lim (D * c)).getD ((lim (D * c)).length - 1) 0) = (lim (D * c)).getD ((lim (D * c)).length - 1) 0 := wU64 (by omega) (by omega)
      have w10 : IntKind.i64.wrap (((lim (A * c)).length : Int) - 1) = ((lim (A * c)).length : Int) - 1 := wI64 (by omega) (by omega)
      rw [w7, ixOk_of (by omega) (by omega), cond_true, w8, make_ok (by omega), cond_true, rby_ok (lim_dig A) (by omega) (by omega), lim_val, e2, Option.bind_some]
      have s1 : sliceOk ((List.replicate ((((lim A).length + 1 : Nat) : Int).toNat) (0 : Int)).length : Int) none (some ((lim (A * c)).length : Int)) none = true := by simp [sliceOk]; omega
      have t1 : (List.replicate ((((lim A).length + 1 : Nat) : Int).toNat) (0 : Int)).take ((lim (A * c)).length : Int).toNat = List.replicate (lim (A * c)).length 0 := by
        rw [Int.toNat_natCast, Int.toNat_natCast, List.take_replicate, Nat.min_eq_left (by omega)]
      rw [s1, cond_true, t1, Int.toNat_natCast, w9, w10]
      obtain ⟨x, hx, R, out, rfl, f1, f2, f3, f4⟩ := rparts_loop (k := k) (sc := (c : Int)) hDc (by omega) (lim_dig (A * c)) (by omega) (by omega)
      rw [hx, Option.bind_some]
      dsimp only
      have hRl : (lim R).length ≤ (lim (D * c)).length := lim_len_mono (by omega)
      obtain ⟨last, r, hlast, g1, g2, g3, g4, g5⟩ := rback_loop (k := k) (sc := (c : Int)) (r := lim R) (out := out) (by omega) (by omega) (lim_dig R) (by omega)
      rw [make_ok (by omega), cond_true, hlast, Option.bind_some]
      dsimp only
      rw [rtrim_ok f1 (by omega), Option.bind_some, rtrim_ok g1 (by omega), Option.bind_some]
      have o0 := val_nonneg f1
      have l0 := val_nonneg g1
      obtain ⟨q, hq⟩ : ∃ q : Nat, val out = q := ⟨(val out).toNat, by omega⟩
      obtain ⟨z, hz⟩ : ∃ z : Nat, val last = z := ⟨(val last).toNat, by omega⟩
      rw [lim_val, hq, ← Int.natCast_mul, ← Int.natCast_add] at f4
      have f5 : A * c = D * c * q + R := by omega
      rw [lim_val, hz] at g5
      have hr0 : r = 0 ∧ z + D * q = A := by
        have k1 : r = c * ((A : Int) - D * q - z) := by
          have k2 := congrArg (Nat.cast (R := Int)) f5
          simp only [Int.natCast_add, Int.natCast_mul] at k2
          grind
        have k3 : (A : Int) - D * q - z = 0 := by
          rcases Int.lt_trichotomy ((A : Int) - D * q - z) 0 with k4 | k4 | k4
          · have : (c : Int) * ((A : Int) - D * q - z) ≤ c * (-1) := Int.mul_le_mul_of_nonneg_left (by omega) (by omega)
            omega
          · exact k4
          · have : (c : Int) * 1 ≤ c * ((A : Int) - D * q - z) := Int.mul_le_mul_of_nonneg_left (by omega) (by omega)
            omega
        rw [k3, Int.mul_zero] at k1
        refine ⟨k1, ?_⟩
        have : ((z + D * q : Nat) : Int) = A := by rw [Int.natCast_add, Int.natCast_mul]; omega
        omega
      have hzD : z < D := by
        have k1 : c * z < c * D := by
          have k2 : (R : Int) = ((c * z : Nat) : Int) := by rw [Int.natCast_mul]; omega
          have k3 : R = c * z := by omega
          rw [← k3, Nat.mul_comm c D]; exact f3
        exact Nat.lt_of_mul_lt_mul_left k1
      have hA' : A = z + D * q := hr0.2.symm
      have a1 : A / D = q := by rw [hA', Nat.add_mul_div_left _ _ hD, Nat.div_eq_of_lt hzD]; omega
      have a2 : A % D = z := by rw [hA', Nat.add_mul_mod_self_left, Nat.mod_eq_of_lt hzD]
      rw [a1, a2, hq, hz, Int.toNat_natCast, Int.toNat_natCast]
    · -- the leading limb is never 0
      exfalso
      have : sc * 2 ≤ 1000000000 := by
        have k1 : sc * (B1 + 1) ≤ 1000000000 := by rw [hsc]; exact Int.ediv_mul_le _ (by omega)
        have k2 : sc * 2 ≤ sc * (B1 + 1) := Int.mul_le_mul_of_nonneg_left (by omega) (by omega)
        omega
      omega
  unfold swarfref01_parts
  by_cases h1 : ((lim A).length : Int) ≤ 2
  · by_cases h2 : ((lim D).length : Int) ≤ 2
    · rw [cdec h1, cond_true, cdec h2, cond_true, rshort_lim (by omega), rshort_lim (by omega), Option.bind_some, Option.bind_some, beq_eq_false_iff_ne.2 (by omega), cond_false]
      have s1 := small_lt (x := A) (by omega)
      have s2 := small_lt (x := D) (by omega)
      rw [Int.tdiv_eq_ediv_of_nonneg (by omega), Int.tmod_eq_emod_of_nonneg (by omega)]
      have e1 : (A : Int) / (D : Int) = ((A / D : Nat) : Int) := by simp
      have e2 : (A : Int) % (D : Int) = ((A % D : Nat) : Int) := by simp
      have hle := Nat.div_le_self A D
      have hlt := Nat.mod_lt A hD
      rw [e1, e2]
      generalize A / D = q at *
      generalize A % D = r at *
      rw [wU64 (by omega) (by omega), rlimbs_ok (by omega), rlimbs_ok (by omega)]; rfl
    · rw [cdec h1, cond_true, cdecF h2, cond_false]
      exact hlong _ rfl
  · rw [cdecF h1, cond_false]
    exact hlong _ rfl
end Go.Proofs.YtbjkpogfgijmaaaGreat
