/- Plain laws: the program's limb arithmetic: trim, signed, compare, plus, minus, times, byWord. -/
import Derived.Test.YtbjkpogfgijmaaaGreatTh0
import Derived.Test.YtbjkpogfgijmaaaGreatPure1
namespace Go.Proofs.YtbjkpogfgijmaaaGreat
open Go
set_option linter.unusedVariables false
set_option linter.unusedSimpArgs false

theorem LM_val : LM = 100000000 := rfl

theorem trim_ok {k : Nat} [F : Fuel k] {l : List Int} (h : Dig l) (hl : l.length ≤ LM) : integer_trim k l = some (lim (val l).toNat) := by
  have hlm := LM_val
  unfold integer_trim
  refine Exists.elim (iter_ok (fun (x2 : (List Int × Unit)) => integer_trim_L0 k x2.1)
    (fun n s => n = s.1.length ∧ Dig s.1 ∧ val s.1 = val l ∧ s.1.length ≤ LM) (fun x => x.1 = lim (val l).toNat) ?_ k l.length (l, ()) (F.len hl) ⟨rfl, h, rfl, hl⟩) ?_
  rotate_left
  · rintro x ⟨hx, hp⟩
    rw [hx]; simp [hp]
  · rintro n ⟨t, u⟩ ⟨rfl, hd, hv, hl'⟩
    dsimp only at hd hv hl' ⊢
    unfold integer_trim_L0
    by_cases h0 : t.length = 0
    · right
      have : t = [] := List.length_eq_zero_iff.1 h0
      subst this
      exact ⟨([], ()), by simp, by simp [← hv, val, lim_zero]⟩
    · have e1 : IntKind.i64.wrap ((t.length : Int) - 1) = (t.length : Int) - 1 := wI64 (by omega) (by omega)
      have e2 : ((t.length : Int) - 1).toNat = t.length - 1 := by omega
      have e3 : ixOk ((t.length : Int) - 1) t.length = true := ixOk_of (by omega) (by omega)
      have e4 : decide ((t.length : Int) > 0) = true := by simp; omega
      simp only [e1, e2, e3, e4, cond_true]
      by_cases hz : t.getD (t.length - 1) 0 = 0
      · left
        refine ⟨(t.take (t.length - 1), ()), t.length - 1, ?_, by omega, by simp, hd.take _, ?_, ?_⟩
        · have e5 : sliceOk (t.length : Int) none (some ((t.length : Int) - 1)) none = true := by simp [sliceOk]; omega
          simp only [hz, e5, cond_true, beq_self_eq_true]
        · have := val_take_succ t (t.length - 1)
          rw [Nat.sub_add_cancel (by omega), List.take_length, hz] at this
          dsimp only; omega
        · simp; omega
      · right
        have e5 : (t.getD (t.length - 1) 0 == 0) = false := by simpa using hz
        refine ⟨(t, ()), by simp only [e5, cond_false], ?_⟩
        have hn : Norm (t.take t.length) := Norm.take hd (Nat.le_refl _) (.inr hz)
        rw [List.take_length] at hn
        rw [← hv]; exact hn.eq_lim

/-- What stands for a number with a sign. -/
theorem I_of (s : Bool) (n : Nat) : (⟨s && decide (0 < n), lim n⟩ : IntD) = I (if s then -(n : Int) else n) := by
  unfold I
  cases s
  · simp
  · simp only [Bool.true_and, if_true, Int.natAbs_neg, Int.natAbs_natCast]
    congr 1
    simp
theorem take_lim {l : List Int} (h : Dig l) {n : Nat} (hn : n ≤ l.length) (h0 : n = 0 ∨ l.getD (n - 1) 0 ≠ 0) (hv : val (l.take n) = val l) : l.take n = lim (val l).toNat := by
  rw [← hv]; exact (Norm.take h hn h0).eq_lim
theorem lim_length_pos {n : Nat} : 0 < (lim n).length ↔ 0 < n := by
  rw [List.length_pos_iff]
  have := @lim_eq_nil n
  constructor
  · intro h; rcases Nat.eq_zero_or_pos n with h0 | h0
    · exact absurd (this.2 h0) h
    · exact h0
  · intro h e; have := this.1 e; omega

theorem signed_ok {k : Nat} [F : Fuel k] (s : Bool) {l : List Int} (h : Dig l) (hl : l.length ≤ LM) : integer_signed k s l = some (I (if s then -(val l) else val l)) := by
  have hlm := LM_val
  unfold integer_signed
  refine Exists.elim (iter_ok (fun (x2 : (Bool × List Int × IntD × Int × Unit)) => integer_signed_L0 k x2.1 x2.2.1 x2.2.2.1 x2.2.2.2.1)
    (fun n s' => ∃ t4, s' = (s, l, t4, (n : Int), ()) ∧ n ≤ l.length ∧ val (l.take n) = val l)
    (fun x => ∃ t4, ∃ n : Nat, x = (s, l, t4, (n : Int), ()) ∧ n ≤ l.length ∧ l.take n = lim (val l).toNat) ?_ k l.length (s, l, ⟨false, []⟩, (l.length : Int), ()) (F.len hl) ⟨_, rfl, Nat.le_refl _, by simp⟩) ?_
  rotate_left
  · rintro x ⟨hx, t4, n, rfl, h4, h5⟩
    have hn : n = (lim (val l).toNat).length := by rw [← h5]; simp; omega
    have e1 : sliceOk (l.length : Int) none (some (n : Int)) (some (n : Int)) = true := by simp [sliceOk]; omega
    have e2 : decide ((n : Int) > 0) = decide (0 < (val l).toNat) := by
      have := @lim_length_pos (val l).toNat
      rw [← hn] at this; simp only [decide_eq_decide]; omega
    have e3 := I_of s (val l).toNat
    have e4 : ((val l).toNat : Int) = val l := by have := val_nonneg h; omega
    rw [e4] at e3
    rw [hx]
    simp only [Option.bind_some, e1, cond_true, Int.toNat_natCast, h5, e2]
    cases s <;> simpa using e3
  · rintro n s' ⟨t4, rfl, hn, hv⟩
    dsimp only at hn hv ⊢
    unfold integer_signed_L0
    by_cases h0 : n = 0
    · right
      subst h0
      exact ⟨_, by simp, t4, 0, rfl, by simp, take_lim h (by simp) (.inl rfl) hv⟩
    · have e1 : IntKind.i64.wrap ((n : Int) - 1) = (n : Int) - 1 := wI64 (by omega) (by omega)
      have e2 : ((n : Int) - 1).toNat = n - 1 := by omega
      have e3 : ixOk ((n : Int) - 1) l.length = true := ixOk_of (by omega) (by omega)
      have e4 : decide ((n : Int) > 0) = true := by simp; omega
      simp only [e1, e2, e3, e4, cond_true]
      by_cases hz : l.getD (n - 1) 0 = 0
      · left
        refine ⟨(s, l, t4, ((n - 1 : Nat) : Int), ()), n - 1, ?_, by omega, _, rfl, by omega, ?_⟩
        · simp only [hz, cond_true, beq_self_eq_true]
          have : (n : Int) - 1 = ((n - 1 : Nat) : Int) := by omega
          rw [this]
        · have := val_take_succ l (n - 1)
          rw [Nat.sub_add_cancel (by omega), hz] at this
          omega
      · right
        have e5 : (l.getD (n - 1) 0 == 0) = false := by simpa using hz
        exact ⟨_, by simp only [e5, cond_false], t4, n, rfl, hn, take_lim h hn (.inr hz) hv⟩

/-! ### Comparing -/
def cmpI (a b : Int) : Int := if a < b then -1 else if a > b then 1 else 0
theorem getD_drop (l : List Int) (i : Nat) (h : i < l.length) : l.drop i = l.getD i 0 :: l.drop (i + 1) := by
  rw [List.drop_eq_getElem_cons h]; simp [h]
theorem val_drop (l : List Int) (i : Nat) (h : i < l.length) : val (l.drop i) = l.getD i 0 + 1000000000 * val (l.drop (i + 1)) := by
  rw [getD_drop l i h]; rfl
theorem val_lt_of_top {a b : List Int} (ha : Dig a) (hb : Dig b) {i : Nat} (hl : a.length = b.length) (hi : i < a.length) (he : a.drop (i + 1) = b.drop (i + 1)) (hlt : a.getD i 0 < b.getD i 0) : val a < val b := by
  have h1 := val_split a i (by omega)
  have h2 := val_split b i (by omega)
  rw [val_drop a i hi] at h1
  rw [val_drop b i (by omega), ← he] at h2
  have h3 := val_lt (ha.take i)
  have h4 := val_nonneg (hb.take i)
  have h5 : (a.take i).length = i := by simp; omega
  rw [h5] at h3
  have := bp_pos i
  generalize val (a.drop (i + 1)) = d at h1 h2
  generalize a.getD i 0 = x at *
  generalize b.getD i 0 = y at *
  have : bp i * (x + 1) ≤ bp i * y := Int.mul_le_mul_of_nonneg_left (by omega) (by omega)
  grind

theorem cmp_loop {k : Nat} [F : Fuel k] {a b : List Int} (ha : Dig a) (hb : Dig b) (hl : a.length = b.length) (hm : a.length ≤ LM) :
    ∃ x, iter (fun (x4 : (List Int × List Int × Int × Unit)) => integer_compare_L0 k x4.1 x4.2.1 x4.2.2.1) k (a, b, IntKind.i64.wrap ((a.length : Int) - 1), ()) = some x ∧
      match x with
      | .inl _ => cmpI (val a) (val b) = 0 ∧ a = b
      | .inr y => y.1 = cmpI (val a) (val b) ∧ a ≠ b := by
  have hlm := LM_val
  refine iter_ok _ (fun n s => s = (a, b, (n : Int) - 1, ()) ∧ n ≤ a.length ∧ a.drop n = b.drop n) _ ?_ k a.length _ (F.len hm) ⟨by rw [wI64 (by omega) (by omega)], Nat.le_refl _, by rw [List.drop_length, hl, List.drop_length]⟩
  rintro n s ⟨rfl, hn, he⟩
  dsimp only at hn he ⊢
  unfold integer_compare_L0
  by_cases h0 : n = 0
  · right
    subst h0
    simp at he
    subst he
    exact ⟨.inl (), by simp, by simp [cmpI]⟩
  · obtain ⟨m, rfl⟩ : ∃ m, n = m + 1 := ⟨n - 1, by omega⟩
    have e1 : ((m + 1 : Nat) : Int) - 1 = m := by omega
    have e2 : decide ((m : Int) ≥ 0) = true := by simp
    have e3 : ixOk (m : Int) a.length = true := ixOk_of (by omega) (by omega)
    have e4 : ixOk (m : Int) b.length = true := ixOk_of (by omega) (by omega)
    simp only [e1, e2, e3, e4, cond_true, Int.toNat_natCast]
    by_cases h1 : a.getD m 0 < b.getD m 0
    · right
      have := val_lt_of_top ha hb hl (by omega) he h1
      refine ⟨.inr (-1, ()), by simp only [h1, decide_true, cond_true], by simp [cmpI, this], ?_⟩
      rintro rfl; omega
    · by_cases h2 : a.getD m 0 > b.getD m 0
      · right
        have := val_lt_of_top hb ha hl.symm (by omega) he.symm h2
        refine ⟨.inr (1, ()), by simp only [h1, h2, decide_true, decide_false, cond_true, cond_false], ?_, ?_⟩
        · simp [cmpI]; omega
        · rintro rfl; omega
      · left
        refine ⟨(a, b, (m : Int) - 1, ()), m, ?_, by omega, rfl, by omega, ?_⟩
        · simp only [h1, h2, decide_false, cond_false]
          rw [wI64 (by omega) (by omega)]
        · rw [getD_drop a m (by omega), getD_drop b m (by omega), he]
          have : a.getD m 0 = b.getD m 0 := by omega
          rw [this]

theorem cmpI_lt {a b : Int} (h : a < b) : cmpI a b = -1 := by simp [cmpI, h]
theorem cmpI_gt {a b : Int} (h : b < a) : cmpI a b = 1 := by simp [cmpI, h]; omega
theorem cmpI_self (a : Int) : cmpI a a = 0 := by simp [cmpI]
theorem cmpI_neg (a b : Int) : cmpI (-a) (-b) = cmpI b a := by unfold cmpI; split <;> split <;> (try split) <;> (try split) <;> omega
theorem cmpI_eq_zero {a b : Int} : cmpI a b = 0 ↔ a = b := by unfold cmpI; split <;> (try split) <;> omega
theorem cmpI_neg_iff {a b : Int} : cmpI a b < 0 ↔ a < b := by unfold cmpI; split <;> (try split) <;> omega
theorem cmpI_pos_iff {a b : Int} : cmpI a b > 0 ↔ b < a := by unfold cmpI; split <;> (try split) <;> omega

theorem cmp_lims {k : Nat} [F : Fuel k] {m n : Nat} (hm : (lim m).length ≤ LM) (hn : (lim n).length ≤ LM) :
    (bif ((lim m).length : Int) != ((lim n).length : Int) then
      bif decide (((lim m).length : Int) < ((lim n).length : Int)) then some (-1) else some 1
    else
      (iter (fun (x4 : (List Int × List Int × Int × Unit)) => integer_compare_L0 k x4.1 x4.2.1 x4.2.2.1) k (lim m, lim n, IntKind.i64.wrap (((lim m).length : Int) - 1), ())).bind fun x3 =>
      match x3 with
      | .inl x5 => some 0
      | .inr x6 => some x6.1) = some (cmpI m n) := by
  by_cases h : (lim m).length = (lim n).length
  · have e : (((lim m).length : Int) != ((lim n).length : Int)) = false := by simp [h]
    rw [e, cond_false]
    obtain ⟨x, hx, hp⟩ := cmp_loop (k := k) (lim_dig m) (lim_dig n) h hm
    rw [hx]
    rw [lim_val, lim_val] at hp
    cases x with
    | inl x => simp [hp.1]
    | inr x => simp [hp.1]
  · have e : (((lim m).length : Int) != ((lim n).length : Int)) = true := by simp; omega
    rw [e, cond_true]
    by_cases h1 : (lim m).length < (lim n).length
    · have : m < n := by
        rcases Nat.lt_or_ge m n with h2 | h2
        · exact h2
        · have := lim_len_mono h2; omega
      rw [cmpI_lt (by omega)]
      have e : decide (((lim m).length : Int) < ((lim n).length : Int)) = true := by simp; omega
      rw [e, cond_true]
    · have : n < m := by
        rcases Nat.lt_or_ge n m with h2 | h2
        · exact h2
        · have := lim_len_mono h2; omega
      rw [cmpI_gt (by omega)]
      have e : decide (((lim m).length : Int) < ((lim n).length : Int)) = false := by simp; omega
      rw [e, cond_false]
theorem compare_ok {k : Nat} [F : Fuel k] {a b : List Int} (ha : Dig a) (hb : Dig b) (hla : a.length ≤ LM) (hlb : b.length ≤ LM) :
    integer_compare k a b = some (cmpI (val a) (val b)) := by
  unfold integer_compare
  rw [trim_ok ha hla, trim_ok hb hlb]
  have h1 : (lim (val a).toNat).length ≤ LM := Nat.le_trans (lim_len_le (by have := val_lt ha; have := val_nonneg ha; omega)) hla
  have h2 : (lim (val b).toNat).length ≤ LM := Nat.le_trans (lim_len_le (by have := val_lt hb; have := val_nonneg hb; omega)) hlb
  have := cmp_lims (k := k) h1 h2
  have ea : ((val a).toNat : Int) = val a := by have := val_nonneg ha; omega
  have eb : ((val b).toNat : Int) = val b := by have := val_nonneg hb; omega
  rw [ea, eb] at this
  exact this
end Go.Proofs.YtbjkpogfgijmaaaGreat
