/- Plain laws: the reference's whole numbers. -/
import Derived.Test.YtbjkpogfgijmaaaGreatTh9
namespace Go.Proofs.YtbjkpogfgijmaaaGreat
open Go
set_option linter.unusedVariables false
set_option linter.unusedSimpArgs false

/-! ### Long division -/
theorem rparts_fix {k : Nat} [F : Fuel k] {sc top i : Int} {V R d q : Nat} {out u : List Int} (hV : 0 < V) (hVl : (lim V).length + 3 ≤ LM) (hRl : (lim R).length ≤ LM) (hq : q = R / V) (hqd : q ≤ d) (hd : d < 1000000000) :
    iter (fun (x12 : (Int × List Int × Int × List Int × List Int × List Int × Int × Int × List Int × Unit)) => swarfref01_parts_L2 k x12.1 x12.2.1 x12.2.2.1 x12.2.2.2.1 x12.2.2.2.2.1 x12.2.2.2.2.2.1 x12.2.2.2.2.2.2.1 x12.2.2.2.2.2.2.2.1 x12.2.2.2.2.2.2.2.2.1) k (sc, lim V, top, lim R, out, u, i, (d : Int), lim (V * d), ()) = some (sc, lim V, top, lim R, out, u, i, (q : Int), lim (V * q), ()) := by
  have hlm := LM_val
  have hdm := Nat.div_add_mod R V
  have hml := Nat.mod_lt R hV
  have hlen : ∀ e : Nat, e < 1000000000 → (lim (V * e)).length ≤ (lim V).length + 1 := fun e he => lim_len_le (by
    have h1 := lim_lt V
    have h2 : (V : Int) * e ≤ V * 1000000000 := Int.mul_le_mul_of_nonneg_left (by omega) (by omega)
    rw [Int.natCast_mul]; simp only [bp]; omega)
  refine Exists.elim (iter_ok (fun (x12 : (Int × List Int × Int × List Int × List Int × List Int × Int × Int × List Int × Unit)) => swarfref01_parts_L2 k x12.1 x12.2.1 x12.2.2.1 x12.2.2.2.1 x12.2.2.2.2.1 x12.2.2.2.2.2.1 x12.2.2.2.2.2.2.1 x12.2.2.2.2.2.2.2.1 x12.2.2.2.2.2.2.2.2.1)
    (fun n s => s = (sc, lim V, top, lim R, out, u, i, (n : Int), lim (V * n), ()) ∧ q ≤ n ∧ n ≤ d) (fun x => x = (sc, lim V, top, lim R, out, u, i, (q : Int), lim (V * q), ())) ?_ k d (sc, lim V, top, lim R, out, u, i, (d : Int), lim (V * d), ()) (F.lt (m := 1) (by simp [bp]; omega) (by omega)) ⟨rfl, hqd, Nat.le_refl _⟩) ?_
  rotate_left
  · rintro x ⟨hx, rfl⟩; exact hx
  · rintro n s ⟨rfl, hqn, hnd⟩
    dsimp only
    unfold swarfref01_parts_L2
    rw [rcompare_ok (by have := hlen n (by omega); omega) hRl, Option.bind_some]
    by_cases hgt : R < V * n
    · left
      rw [cdec (cmpI_pos_iff.2 (by omega)), cond_true]
      have hqn' : q < n := by
        rcases Nat.lt_or_ge q n with h | h
        · exact h
        · have : V * n ≤ V * q := Nat.mul_le_mul_left _ h
          rw [hq] at this; omega
      obtain ⟨m, rfl⟩ : ∃ m, n = m + 1 := ⟨n - 1, by omega⟩
      have hge : V ≤ V * (m + 1) := Nat.le_mul_of_pos_right _ (by omega)
      have hsub : V * (m + 1) - V = V * m := by rw [Nat.mul_add, Nat.mul_one]; omega
      rw [rminus_ok (lim_dig _) (lim_dig _) (lim_len_mono hge) (by have := hlen (m + 1) (by omega); omega) (by rw [lim_val, lim_val]; omega), lim_val, lim_val, Option.bind_some]
      refine ⟨_, m, rfl, by omega, ?_, by omega, by omega⟩
      have e1 : (((V * (m + 1) : Nat) : Int) - (V : Int)).toNat = V * m := by omega
      rw [e1, wU64 (by omega) (by omega)]
      congr 9; omega
    · right
      rw [cdecF (fun h => hgt (by have := cmpI_pos_iff.1 h; omega)), cond_false]
      have : n = q := by
        have : n ≤ R / V := (Nat.le_div_iff_mul_le hV).2 (by rw [Nat.mul_comm]; omega)
        omega
      subst this
      exact ⟨_, rfl, rfl⟩
/-- One digit of the quotient. -/
theorem rparts_digit {k : Nat} [F : Fuel k] {sc top : Int} {V R d q : Nat} {out u : List Int} {i : Nat} (hV : 0 < V) (hVl : (lim V).length + 3 ≤ LM) (hRl : (lim R).length ≤ LM) (hq : q = R / V) (hqd : q ≤ d) (hd : d < 1000000000) (hi : i < out.length) (hol : out.length ≤ LM) :
    ((swarfref01_by k (lim V) (d : Int)).bind fun x8 =>
      (iter (fun (x12 : (Int × List Int × Int × List Int × List Int × List Int × Int × Int × List Int × Unit)) => swarfref01_parts_L2 k x12.1 x12.2.1 x12.2.2.1 x12.2.2.2.1 x12.2.2.2.2.1 x12.2.2.2.2.2.1 x12.2.2.2.2.2.2.1 x12.2.2.2.2.2.2.2.1 x12.2.2.2.2.2.2.2.2.1) k (sc, lim V, top, lim R, out, u, (i : Int), (d : Int), x8, ())).bind fun x11 =>
      (swarfref01_minus k x11.2.2.2.1 x11.2.2.2.2.2.2.2.2.1).bind fun x13 =>
      bif ixOk x11.2.2.2.2.2.2.1 x11.2.2.2.2.1.length then
        some (Sum.inl (x11.1, x11.2.1, x11.2.2.1, x13, (x11.2.2.2.2.1.set x11.2.2.2.2.2.2.1.toNat (IntKind.u32.wrap (x11.2.2.2.2.2.2.2.1))), x11.2.2.2.2.2.1, IntKind.i64.wrap (x11.2.2.2.2.2.2.1 - 1), ()))
      else
        none) = some (Sum.inl (sc, lim V, top, lim (R % V), out.set i (q : Int), u, (i : Int) - 1, ()) : (Int × List Int × Int × List Int × List Int × List Int × Int × Unit) ⊕ (Int × List Int × List Int × Unit)) := by
  have hlm := LM_val
  have hdm := Nat.div_add_mod R V
  rw [← hq] at hdm
  have e1 : (val (lim V) * (d : Int)).toNat = V * d := by
    rw [lim_val]; have : ((V * d : Nat) : Int) = (V : Int) * d := Int.natCast_mul V d
    omega
  rw [rby_ok (lim_dig V) hd (by omega), e1, Option.bind_some, rparts_fix hV hVl hRl hq hqd hd, Option.bind_some]
  dsimp only
  have hle : V * q ≤ R := by omega
  rw [rminus_ok (lim_dig _) (lim_dig _) (lim_len_mono hle) hRl (by rw [lim_val, lim_val]; omega), lim_val, lim_val, Option.bind_some, ixOk_of (by omega) (by omega), cond_true, Int.toNat_natCast, wI64 (by omega) (by omega), wU32 (by omega) (by omega)]
  have e2 : ((R : Int) - ((V * q : Nat) : Int)).toNat = R % V := by omega
  rw [e2]
/-- The estimate out of the leading limbs. -/
theorem rparts_est {V R h q : Nat} {n : Nat} (hq : q = R / V) (hn : (lim V).length = n + 1) (hR : (R : Int) < (h + 1) * bp n) (htop : 0 < (lim V).getD n 0) : (q : Int) ≤ (h : Int) / (lim V).getD n 0 := by
  have h1 := val_split (lim V) n (by omega)
  rw [lim_val, val_drop _ n (by omega), List.drop_of_length_le (by omega)] at h1
  have h2 := val_nonneg ((lim_dig V).take n)
  have h3 : V * q ≤ R := by rw [hq]; exact Nat.mul_div_le R V
  simp only [val, Int.mul_zero, Int.add_zero] at h1
  refine guess_start (PB := bp n) (v := (V : Int)) (u := (R : Int)) (bp_pos n) htop ?_ (by grind) hR (by omega)
  have : ((q * V : Nat) : Int) ≤ R := by rw [Nat.mul_comm]; omega
  rwa [Int.natCast_mul] at this
theorem lim_cons (x : Int) (h0 : 0 ≤ x) (h1 : x < 1000000000) (R : Nat) : (val ([x] ++ lim R)).toNat = x.toNat + 1000000000 * R := by
  rw [List.singleton_append]; simp only [val]; rw [lim_val]; omega
theorem rparts_loop {k : Nat} [F : Fuel k] {sc : Int} {V : Nat} {u : List Int} (hV : 0 < V) (hVl : (lim V).length + 3 ≤ LM) (hu : Dig u) (hul : u.length + 3 ≤ LM) (hVu : (lim V).length + u.length + 5 ≤ LM) :
    ∃ x, iter (fun (x57 : (Int × List Int × Int × List Int × List Int × List Int × Int × Unit)) => swarfref01_parts_L0 k x57.1 x57.2.1 x57.2.2.1 x57.2.2.2.1 x57.2.2.2.2.1 x57.2.2.2.2.2.1 x57.2.2.2.2.2.2.1) k (sc, lim V, (lim V).getD ((lim V).length - 1) 0, [], List.replicate u.length 0, u, (u.length : Int) - 1, ()) = some x ∧
      ∃ R out, x = (sc, lim R, out, ()) ∧ Dig out ∧ out.length = u.length ∧ R < V ∧ val u = V * val out + R := by
  have hlm := LM_val
  obtain ⟨n, hn⟩ : ∃ n, (lim V).length = n + 1 := ⟨(lim V).length - 1, by have := lim_length_pos.2 hV; omega⟩
  have htop0 := (lim_dig V).getD n
  have htop1 := lim_top hV
  rw [hn, Nat.add_sub_cancel] at htop1
  have hVlt := lim_lt V
  rw [hn] at hVlt
  rw [hn, Nat.add_sub_cancel]
  refine iter_ok _ (fun m s => ∃ (R : Nat) (out : List Int), m ≤ u.length ∧ s = (sc, lim V, (lim V).getD n 0, lim R, out, u, (m : Int) - 1, ()) ∧ Dig out ∧ out.length = u.length ∧ R < V ∧ val (u.drop m) = V * val (out.drop m) + R) _ ?_ k u.length _ (F.len (by omega)) ⟨0, _, Nat.le_refl _, by rw [lim_zero], Dig.replicate _, by simp, hV, by simp [val]⟩
  rintro m s ⟨R, out, hm, rfl, hod, hol, hR, hv⟩
  dsimp only
  unfold swarfref01_parts_L0
  by_cases h0 : m = 0
  · right
    subst h0
    exact ⟨_, by rw [cdecF (by omega), cond_false], R, out, rfl, hod, hol, hR, by simpa using hv⟩
  · left
    obtain ⟨i, rfl⟩ : ∃ i, m = i + 1 := ⟨m - 1, by omega⟩
    have e0 : ((i + 1 : Nat) : Int) - 1 = i := by omega
    have hx := hu.getD i
    have hRl : (lim R).length ≤ n + 1 := lim_len_le (by omega)
    rw [e0, cdec (by omega), cond_true, ixOk_of (by omega) (by omega), cond_true, Int.toNat_natCast, cdec (by simp; omega), cond_true]
    rw [rtrim_ok ((Dig.cons hx.1 hx.2 Dig.nil).append (lim_dig R)) (by simp; omega), Option.bind_some, lim_cons _ hx.1 hx.2]
    obtain ⟨R', hR'⟩ : ∃ R', R' = (u.getD i 0).toNat + 1000000000 * R := ⟨_, rfl⟩
    rw [← hR']
    have hR'lt : R' < 1000000000 * V := by omega
    have hR'l : (lim R').length ≤ n + 2 := lim_len_le (by simp only [bp]; simp only [bp] at hVlt; omega)
    obtain ⟨q, hqq⟩ : ∃ q, q = R' / V := ⟨_, rfl⟩
    have hq : q < 1000000000 := by rw [hqq]; exact Nat.div_lt_of_lt_mul (by rw [Nat.mul_comm]; exact hR'lt)
    have hd1 := (lim_dig R').getD (n + 1)
    have hd2 := (lim_dig R').getD n
    have w0 : IntKind.i64.wrap (((n + 1 : Nat) : Int) - 1) = (n : Int) := by rw [wI64 (by omega) (by omega)]; omega
    have w1 : IntKind.u64.wrap ((lim R').getD (n + 1) 0) = (lim R').getD (n + 1) 0 := wU64 (by omega) (by omega)
    have w2 : IntKind.u64.wrap ((lim R').getD n 0) = (lim R').getD n 0 := wU64 (by omega) (by omega)
    have w3 : IntKind.u64.wrap ((lim R').getD (n + 1) 0 * 1000000000) = (lim R').getD (n + 1) 0 * 1000000000 := wU64 (by omega) (by omega)
    have w4 : IntKind.u64.wrap ((lim R').getD (n + 1) 0 * 1000000000 + (lim R').getD n 0) = (lim R').getD (n + 1) 0 * 1000000000 + (lim R').getD n 0 := wU64 (by omega) (by omega)
    have t0 : ((lim V).getD n 0 == 0) = false := beq_eq_false_iff_ne.2 htop1
    have fin : ∃ s' m', some (Sum.inl (sc, lim V, (lim V).getD n 0, lim (R' % V), out.set i (q : Int), u, (i : Int) - 1, ())) = some (Sum.inl s' : (Int × List Int × Int × List Int × List Int × List Int × Int × Unit) ⊕ (Int × List Int × List Int × Unit)) ∧ m' < i + 1 ∧
        ∃ (R : Nat) (out : List Int), m' ≤ u.length ∧ s' = (sc, lim V, (lim V).getD n 0, lim R, out, u, (m' : Int) - 1, ()) ∧ Dig out ∧ out.length = u.length ∧ R < V ∧ val (u.drop m') = V * val (out.drop m') + R := by
      refine ⟨_, i, rfl, by omega, R' % V, _, by omega, rfl, hod.set _ (by omega) (by omega), by simp [hol], Nat.mod_lt _ hV, ?_⟩
      rw [val_drop u i (by omega), hv, val_drop _ i (by simp; omega), getD_set _ _ _ _ (by omega), if_pos rfl]
      have e1 : (out.set i (q : Int)).drop (i + 1) = out.drop (i + 1) := by rw [List.drop_set]; simp
      rw [e1]
      have e2 : ((R' : Nat) : Int) = u.getD i 0 + 1000000000 * R := by omega
      have e3 : (R' : Int) = V * (q : Int) + ((R' % V : Nat) : Int) := by
        have := Nat.div_add_mod R' V
        rw [← hqq] at this
        have h2 := congrArg (Nat.cast (R := Int)) this
        rw [Int.natCast_add, Int.natCast_mul] at h2; exact h2.symm
      generalize (q : Int) = a at e3 ⊢
      generalize ((R' % V : Nat) : Int) = b at e3 ⊢
      grind
    -- whatever the estimate is, cut to a limb
    have cut : ∀ g : Int, 0 ≤ g → g ≤ 18446744073709551615 → (q : Int) ≤ g → ∀ A B : Option ((Int × List Int × Int × List Int × List Int × List Int × Int × Unit) ⊕ (Int × List Int × List Int × Unit)),
        (∀ d : Nat, d = 999999999 → A = ((swarfref01_by k (lim V) (d : Int)).bind fun x8 =>
      (iter (fun (x12 : (Int × List Int × Int × List Int × List Int × List Int × Int × Int × List Int × Unit)) => swarfref01_parts_L2 k x12.1 x12.2.1 x12.2.2.1 x12.2.2.2.1 x12.2.2.2.2.1 x12.2.2.2.2.2.1 x12.2.2.2.2.2.2.1 x12.2.2.2.2.2.2.2.1 x12.2.2.2.2.2.2.2.2.1) k (sc, lim V, (lim V).getD n 0, lim R', out, u, (i : Int), (d : Int), x8, ())).bind fun x11 =>
      (swarfref01_minus k x11.2.2.2.1 x11.2.2.2.2.2.2.2.2.1).bind fun x13 =>
      bif ixOk x11.2.2.2.2.2.2.1 x11.2.2.2.2.1.length then
        some (Sum.inl (x11.1, x11.2.1, x11.2.2.1, x13, (x11.2.2.2.2.1.set x11.2.2.2.2.2.2.1.toNat (IntKind.u32.wrap (x11.2.2.2.2.2.2.2.1))), x11.2.2.2.2.2.1, IntKind.i64.wrap (x11.2.2.2.2.2.2.1 - 1), ()))
      else
        none)) →
        (∀ d : Nat, (d : Int) = g → d < 1000000000 → B = ((swarfref01_by k (lim V) (d : Int)).bind fun x8 =>
      (iter (fun (x12 : (Int × List Int × Int × List Int × List Int × List Int × Int × Int × List Int × Unit)) => swarfref01_parts_L2 k x12.1 x12.2.1 x12.2.2.1 x12.2.2.2.1 x12.2.2.2.2.1 x12.2.2.2.2.2.1 x12.2.2.2.2.2.2.1 x12.2.2.2.2.2.2.2.1 x12.2.2.2.2.2.2.2.2.1) k (sc, lim V, (lim V).getD n 0, lim R', out, u, (i : Int), (d : Int), x8, ())).bind fun x11 =>
      (swarfref01_minus k x11.2.2.2.1 x11.2.2.2.2.2.2.2.2.1).bind fun x13 =>
      bif ixOk x11.2.2.2.2.2.2.1 x11.2.2.2.2.1.length then
        some (Sum.inl (x11.1, x11.2.1, x11.2.2.1, x13, (x11.2.2.2.2.1.set x11.2.2.2.2.2.2.1.toNat (IntKind.u32.wrap (x11.2.2.2.2.2.2.2.1))), x11.2.2.2.2.2.1, IntKind.i64.wrap (x11.2.2.2.2.2.2.1 - 1), ()))
      else
        none)) → (bif decide (g > 999999999) then A else B) = some (Sum.inl (sc, lim V, (lim V).getD n 0, lim (R' % V), out.set i (q : Int), u, (i : Int) - 1, ())) := by
      intro g g0 g1 g2 A B hA hB
      by_cases hg : g > 999999999
      · rw [cdec hg, cond_true, hA 999999999 rfl]
        exact rparts_digit hV hVl (by omega) hqq (by omega) (by omega) (by omega) (by omega)
      · rw [cdecF hg, cond_false, hB g.toNat (by omega) (by omega)]
        exact rparts_digit hV hVl (by omega) hqq (by omega) (by omega) (by omega) (by omega)
    by_cases hl2 : (lim R').length = n + 2
    · -- as long as the divisor and one limb more
      have ht := top2 (m := n) hl2
      rw [lim_val] at ht
      have ht1 := val_lt ((lim_dig R').take n)
      rw [List.length_take, Nat.min_eq_left (by omega)] at ht1
      have hest := rparts_est (V := V) (R := R') hqq (h := ((lim R').getD (n + 1) 0 * 1000000000 + (lim R').getD n 0).toNat) hn (by rw [Int.toNat_of_nonneg (by omega)]; grind) (by omega)
      rw [Int.toNat_of_nonneg (by omega)] at hest
      have q0 : 0 ≤ ((lim R').getD (n + 1) 0 * 1000000000 + (lim R').getD n 0) / (lim V).getD n 0 := Int.ediv_nonneg (by omega) (by omega)
      have q1 : ((lim R').getD (n + 1) 0 * 1000000000 + (lim R').getD n 0) / (lim V).getD n 0 ≤ (lim R').getD (n + 1) 0 * 1000000000 + (lim R').getD n 0 := Int.ediv_le_self _ (by omega)
      have w5 : IntKind.u64.wrap (((lim R').getD (n + 1) 0 * 1000000000 + (lim R').getD n 0) / (lim V).getD n 0) = ((lim R').getD (n + 1) 0 * 1000000000 + (lim R').getD n 0) / (lim V).getD n 0 := wU64 (by omega) (by omega)
      rw [hn, cdec (by omega), cond_true, ixOk_of (by omega) (by omega), cond_true, cdec (by omega), cond_true, w0, ixOk_of (by omega) (by omega), cond_true, t0, cond_false]
      simp only [Int.toNat_natCast, w1, w2, w3, w4]
      rw [Int.tdiv_eq_ediv_of_nonneg (by omega), w5]
      obtain ⟨s', m', f1, f2⟩ := fin
      refine ⟨s', m', (cut _ q0 (by omega) hest _ _ ?_ ?_).trans f1, f2⟩
      · rintro d rfl; rfl
      · intro d hd hd2
        rw [← hd, wU32 (by omega) (by omega)]; rfl
    · by_cases hl1 : (lim R').length = n + 1
      · have ht := val_split (lim R') n (by omega)
        rw [lim_val, val_drop _ n (by omega), List.drop_of_length_le (by omega)] at ht
        simp only [val, Int.mul_zero, Int.add_zero] at ht
        have ht1 := val_lt ((lim_dig R').take n)
        rw [List.length_take, Nat.min_eq_left (by omega)] at ht1
        have hest := rparts_est (V := V) (R := R') hqq (h := ((lim R').getD n 0).toNat) hn (by rw [Int.toNat_of_nonneg (by omega)]; grind) (by omega)
        rw [Int.toNat_of_nonneg (by omega)] at hest
        have q0 : 0 ≤ (lim R').getD n 0 / (lim V).getD n 0 := Int.ediv_nonneg (by omega) (by omega)
        have q1 : (lim R').getD n 0 / (lim V).getD n 0 ≤ (lim R').getD n 0 := Int.ediv_le_self _ (by omega)
        have w5 : IntKind.u64.wrap ((lim R').getD n 0 / (lim V).getD n 0) = (lim R').getD n 0 / (lim V).getD n 0 := wU64 (by omega) (by omega)
        rw [hn, cdecF (by omega), cond_false, cdec (by omega), cond_true, w0, ixOk_of (by omega) (by omega), cond_true, t0, cond_false]
        simp only [Int.toNat_natCast, w2, Int.zero_add]
        rw [Int.tdiv_eq_ediv_of_nonneg (by omega), w5]
        obtain ⟨s', m', f1, f2⟩ := fin
        refine ⟨s', m', (cut _ q0 (by omega) hest _ _ ?_ ?_).trans f1, f2⟩
        · rintro d rfl; rfl
        · intro d hd hd2
          rw [← hd, wU32 (by omega) (by omega)]; rfl
      · have hRV : q = 0 := by rw [hqq]; exact Nat.div_eq_of_lt (by
          have h1 := lim_len_le_iff.1 (show (lim R').length ≤ n by omega)
          have h2 := lim_ge hV
          rw [hn, Nat.add_sub_cancel] at h2; omega)
        have w5 : IntKind.u64.wrap ((0 : Int).tdiv ((lim V).getD n 0)) = 0 := by rw [Int.zero_tdiv]; rfl
        rw [hn, cdecF (by omega), cond_false, cdecF (by omega), cond_false, t0, cond_false, w5]
        obtain ⟨s', m', f1, f2⟩ := fin
        refine ⟨s', m', (cut 0 (by omega) (by omega) (by omega) _ _ ?_ ?_).trans f1, f2⟩
        · rintro d rfl; rfl
        · intro d hd hd2
          have : d = 0 := by omega
          subst this; rfl
end Go.Proofs.YtbjkpogfgijmaaaGreat
