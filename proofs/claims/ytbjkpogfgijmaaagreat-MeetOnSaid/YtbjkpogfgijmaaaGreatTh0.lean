/- Plain laws: loops, fixed-width numbers, limbs in base 10^9 and the numbers that they stand for. Plain laws: the program's limb arithmetic: trim, signed, compare, plus, minus, times, byWord. Plain laws: the program's sums, differences, products and quotients of limbs. Plain laws: the program's long division of limbs. -/
import Derived.Test.YtbjkpogfgijmaaaGreatKit
import Derived.Test.YtbjkpogfgijmaaaGreatPure1
namespace Go.Proofs.YtbjkpogfgijmaaaGreat
/-! ## Plain laws: loops, fixed-width numbers, limbs in base 10^9 and the numbers that they stand for. -/
section
open Go
set_option linter.unusedVariables false
set_option linter.unusedSimpArgs false

/-! ### Loops -/
theorem iter_ok {S X : Type} (f : S → Option (S ⊕ X)) (Inv : Nat → S → Prop) (Post : X → Prop)
    (h : ∀ n s, Inv n s → (∃ s' m, f s = some (.inl s') ∧ m < n ∧ Inv m s') ∨ (∃ x, f s = some (.inr x) ∧ Post x)) :
    ∀ k n s, n < k → Inv n s → ∃ x, iter f k s = some x ∧ Post x := by
  intro k
  induction k with
  | zero => intro n s hn; omega
  | succ k ih =>
    intro n s hn hi
    rcases h n s hi with ⟨s', m, h1, h2, h3⟩ | ⟨x, h1, h2⟩
    · obtain ⟨x, hx, hp⟩ := ih m s' (by omega) h3
      exact ⟨x, by simp [iter, h1, hx], hp⟩
    · exact ⟨x, by simp [iter, h1], h2⟩

/-! ### Numbers of fixed width -/
theorem wI64 {x : Int} (h1 : -9223372036854775808 ≤ x) (h2 : x < 9223372036854775808) : IntKind.i64.wrap x = x := by
  have e : IntKind.i64.wrap x = if (9223372036854775808 : Int) ≤ x % 18446744073709551616 then x % 18446744073709551616 - 18446744073709551616 else x % 18446744073709551616 := by
    simp [IntKind.wrap, IntKind.bits, IntKind.signed]
  rw [e]; split <;> omega
theorem wU64_eq (x : Int) : IntKind.u64.wrap x = x % 18446744073709551616 := by simp [IntKind.wrap, IntKind.bits, IntKind.signed]
theorem wU32_eq (x : Int) : IntKind.u32.wrap x = x % 4294967296 := by simp [IntKind.wrap, IntKind.bits, IntKind.signed]
theorem wU64 {x : Int} (h1 : 0 ≤ x) (h2 : x < 18446744073709551616) : IntKind.u64.wrap x = x := by rw [wU64_eq]; omega
theorem wU32 {x : Int} (h1 : 0 ≤ x) (h2 : x < 4294967296) : IntKind.u32.wrap x = x := by rw [wU32_eq]; omega
theorem ilt_or_ge (a b : Int) : a < b ∨ a ≥ b := by omega
theorem ixOk_of {i : Int} {n : Nat} (h0 : 0 ≤ i) (h1 : i < n) : ixOk i n = true := by simp [ixOk]; exact ⟨h0, h1⟩
theorem getD_out {l : List Int} {n : Nat} (h : l.length ≤ n) : l.getD n 0 = 0 := by rw [List.getD_eq_getElem?_getD, List.getElem?_eq_none h]; rfl
theorem getD_in {l : List Int} {n : Nat} (h : n < l.length) : l.getD n 0 = l[n] := by rw [List.getD_eq_getElem?_getD, List.getElem?_eq_getElem h]; rfl

/-! ### Limbs -/
/-- The base, kept closed. -/
def val : List Int → Int
  | [] => 0
  | x :: r => x + 1000000000 * val r
def Dig (l : List Int) : Prop := ∀ x ∈ l, 0 ≤ x ∧ x < 1000000000
def bp : Nat → Int
  | 0 => 1
  | n + 1 => 1000000000 * bp n
theorem bp_pos : ∀ n, 0 < bp n
  | 0 => by simp [bp]
  | n + 1 => by have := bp_pos n; simp only [bp]; omega
theorem bp_add : ∀ m n, bp (m + n) = bp m * bp n
  | 0, n => by simp [bp]
  | m + 1, n => by rw [Nat.succ_add]; simp only [bp]; rw [bp_add m n]; grind
theorem bp_mono {m n : Nat} (h : m ≤ n) : bp m ≤ bp n := by
  obtain ⟨d, rfl⟩ := Nat.exists_eq_add_of_le h
  induction d with
  | zero => exact Int.le_refl _
  | succ d ih => have := bp_pos (m + d); have := ih (by omega); rw [← Nat.add_assoc]; simp only [bp]; omega
theorem bp_ge (n : Nat) : (n : Int) < bp n := by
  induction n with
  | zero => simp [bp]
  | succ n ih => simp only [bp]; omega
theorem Dig.nil : Dig [] := fun _ h => by cases h
theorem Dig.cons {x : Int} {l : List Int} (h0 : 0 ≤ x) (h1 : x < 1000000000) (h : Dig l) : Dig (x :: l) := by
  intro y hy; rcases List.mem_cons.1 hy with rfl | hy
  · exact ⟨h0, h1⟩
  · exact h y hy
theorem Dig.head {x : Int} {l : List Int} (h : Dig (x :: l)) : 0 ≤ x ∧ x < 1000000000 := h x (by simp)
theorem Dig.tail {x : Int} {l : List Int} (h : Dig (x :: l)) : Dig l := fun y hy => h y (by simp [hy])
theorem Dig.append {l m : List Int} (h : Dig l) (g : Dig m) : Dig (l ++ m) := fun x hx => (List.mem_append.1 hx).elim (h x) (g x)
theorem Dig.take {l : List Int} (h : Dig l) (n : Nat) : Dig (l.take n) := fun x hx => h x (List.mem_of_mem_take hx)
theorem Dig.drop {l : List Int} (h : Dig l) (n : Nat) : Dig (l.drop n) := fun x hx => h x (List.mem_of_mem_drop hx)
theorem Dig.getD {l : List Int} (h : Dig l) (n : Nat) : 0 ≤ l.getD n 0 ∧ l.getD n 0 < 1000000000 := by
  by_cases hn : n < l.length
  · rw [getD_in hn]; exact h _ (List.getElem_mem hn)
  · have : l.getD n 0 = 0 := getD_out (by omega)
    rw [this]; omega
theorem Dig.set {l : List Int} (h : Dig l) (n : Nat) {x : Int} (h0 : 0 ≤ x) (h1 : x < 1000000000) : Dig (l.set n x) := by
  intro y hy
  rcases List.mem_or_eq_of_mem_set hy with hy | rfl
  · exact h y hy
  · exact ⟨h0, h1⟩
theorem Dig.replicate (n : Nat) : Dig (List.replicate n 0) := fun x hx => by rw [(List.mem_replicate.1 hx).2]; omega
theorem val_nonneg : ∀ {l : List Int}, Dig l → 0 ≤ val l
  | [], _ => by simp [val]
  | x :: r, h => by have := val_nonneg h.tail; have := h.head; simp only [val]; omega
theorem val_lt : ∀ {l : List Int}, Dig l → val l < bp l.length
  | [], _ => by simp [val, bp]
  | x :: r, h => by have := val_lt h.tail; have := h.head; simp only [val, bp, List.length_cons]; omega
theorem val_append : ∀ l m : List Int, val (l ++ m) = val l + bp l.length * val m
  | [], m => by simp [val, bp]
  | x :: r, m => by simp only [List.cons_append, val, List.length_cons, bp, val_append r m]; grind
theorem val_replicate : ∀ n, val (List.replicate n 0) = 0
  | 0 => rfl
  | n + 1 => by simp [List.replicate_succ, val, val_replicate n]
theorem val_take_succ (l : List Int) (i : Nat) : val (l.take (i + 1)) = val (l.take i) + bp i * l.getD i 0 := by
  by_cases h : i < l.length
  · rw [List.take_succ_eq_append_getElem h, val_append]
    simp [val, List.length_take, Nat.min_eq_left (Nat.le_of_lt h), h]
  · rw [List.take_of_length_le (by omega), List.take_of_length_le (by omega), getD_out (by omega)]; omega
theorem val_take_all (l : List Int) {n : Nat} (h : l.length ≤ n) : val (l.take n) = val l := by rw [List.take_of_length_le h]
theorem val_split (l : List Int) (n : Nat) (h : n ≤ l.length) : val l = val (l.take n) + bp n * val (l.drop n) := by
  conv => lhs; rw [← List.take_append_drop n l]
  rw [val_append, List.length_take, Nat.min_eq_left h]
theorem val_take_le {l : List Int} (h : Dig l) (n : Nat) : val (l.take n) ≤ val l := by
  by_cases hn : n ≤ l.length
  · rw [val_split l n hn]
    have := val_nonneg (h.drop n); have := bp_pos n
    have : 0 ≤ bp n * val (l.drop n) := Int.mul_nonneg (by omega) (by omega)
    omega
  · rw [List.take_of_length_le (by omega)]; omega
/-- One place set anew. -/
theorem val_set : ∀ (l : List Int) (i : Nat) (x : Int), i < l.length → val (l.set i x) = val l + bp i * (x - l.getD i 0)
  | [], i, x, h => by simp at h
  | y :: r, 0, x, h => by simp [val, bp]; omega
  | y :: r, i + 1, x, h => by
    simp only [List.set_cons_succ, val, bp, val_set r i x (by simpa using h), List.getD_cons_succ]; grind
theorem getD_set (l : List Int) (i j : Nat) (x : Int) (h : i < l.length) : (l.set i x).getD j 0 = if i = j then x else l.getD j 0 := by
  simp only [List.getD_eq_getElem?_getD, List.getElem?_set]
  by_cases hij : i = j
  · subst hij; simp [h]
  · simp [hij]
theorem take_set (l : List Int) (i : Nat) (x : Int) : (l.set i x).take i = l.take i := by
  rw [List.take_set]; exact List.set_eq_of_length_le (by simp; omega)
theorem getD_replicate (n i : Nat) : (List.replicate n (0 : Int)).getD i 0 = 0 := by
  simp only [List.getD_eq_getElem?_getD, List.getElem?_replicate]; split <;> rfl

/-! ### The limbs of a number -/
def lim (n : Nat) : List Int := if h : n = 0 then [] else ((n % 1000000000 : Nat) : Int) :: lim (n / 1000000000)
termination_by n
decreasing_by omega
theorem lim_zero : lim 0 = [] := by rw [lim]; simp
theorem lim_pos {n : Nat} (h : 0 < n) : lim n = ((n % 1000000000 : Nat) : Int) :: lim (n / 1000000000) := by
  conv => lhs; rw [lim]
  rw [dif_neg (by omega)]
theorem lim_dig (n : Nat) : Dig (lim n) := by
  induction n using Nat.strongRecOn with
  | ind n ih =>
    by_cases h : n = 0
    · subst h; rw [lim_zero]; exact Dig.nil
    · rw [lim_pos (by omega)]
      exact Dig.cons (by omega) (by omega) (ih _ (by omega))
theorem lim_val (n : Nat) : val (lim n) = n := by
  induction n using Nat.strongRecOn with
  | ind n ih =>
    by_cases h : n = 0
    · subst h; rw [lim_zero]; rfl
    · rw [lim_pos (by omega)]
      simp only [val]; rw [ih _ (by omega)]; omega
theorem lim_eq_nil {n : Nat} : lim n = [] ↔ n = 0 := by
  constructor
  · intro h; by_cases h0 : n = 0
    · exact h0
    · rw [lim_pos (by omega)] at h; cases h
  · rintro rfl; exact lim_zero
/-- Limbs without zeros at the end. -/
def Norm (l : List Int) : Prop := Dig l ∧ ∀ h : l ≠ [], l.getLast h ≠ 0
theorem Norm.eq_lim : ∀ {l : List Int}, Norm l → l = lim (val l).toNat
  | [], _ => by simp [val, lim_zero]
  | x :: r, h => by
    have hx := h.1.head
    have hr : Norm r := ⟨h.1.tail, fun hr => by have := h.2 (by simp); rwa [List.getLast_cons hr] at this⟩
    have ih := hr.eq_lim
    have hv := val_nonneg h.1.tail
    have hpos : 0 < (val (x :: r)).toNat := by
      simp only [val]
      by_cases h0 : val r = 0
      · rw [h0] at ih ⊢
        simp [lim_zero] at ih
        subst ih
        have := h.2 (by simp)
        simp at this; omega
      · omega
    rw [lim_pos hpos]
    have e1 : (val (x :: r)).toNat % 1000000000 = x.toNat := by simp only [val]; omega
    have e2 : (val (x :: r)).toNat / 1000000000 = (val r).toNat := by simp only [val]; omega
    rw [e1, e2, ← ih]
    congr 1; omega
theorem lim_norm (n : Nat) : Norm (lim n) := by
  refine ⟨lim_dig n, ?_⟩
  induction n using Nat.strongRecOn with
  | ind n ih =>
    intro h
    have h0 : 0 < n := by rcases Nat.eq_zero_or_pos n with rfl | h0; exact absurd lim_zero h; exact h0
    by_cases h1 : n / 1000000000 = 0
    · have : lim n = [((n % 1000000000 : Nat) : Int)] := by rw [lim_pos h0, h1, lim_zero]
      simp only [this, List.getLast_singleton]; omega
    · have hne : lim (n / 1000000000) ≠ [] := fun e => h1 (lim_eq_nil.1 e)
      have := ih (n / 1000000000) (by omega) hne
      have e := lim_pos h0
      simp only [e, List.getLast_cons hne]; exact this
theorem Norm.take {l : List Int} (h : Dig l) {n : Nat} (hn : n ≤ l.length) (h0 : n = 0 ∨ l.getD (n - 1) 0 ≠ 0) : Norm (l.take n) := by
  refine ⟨h.take n, fun hne => ?_⟩
  have hpos : 0 < n := by
    rcases Nat.eq_zero_or_pos n with rfl | h1
    · simp at hne
    · exact h1
  rcases h0 with h0 | h0
  · omega
  · rw [List.getLast_eq_getElem]
    simp only [List.length_take, Nat.min_eq_left hn, List.getElem_take]
    rw [getD_in (by omega)] at h0
    exact h0
theorem lim_len_le {n m : Nat} (h : (n : Int) < bp m) : (lim n).length ≤ m := by
  induction m generalizing n with
  | zero =>
    have : n = 0 := by simp only [bp] at h; omega
    subst this; simp [lim_zero]
  | succ m ih =>
    by_cases h0 : n = 0
    · subst h0; simp [lim_zero]
    · rw [lim_pos (by omega), List.length_cons]
      have := ih (n := n / 1000000000) (by simp only [bp] at h; omega)
      omega
theorem lim_lt (n : Nat) : (n : Int) < bp (lim n).length := by have := val_lt (lim_dig n); rwa [lim_val] at this
theorem lim_len_le_iff {n m : Nat} : (lim n).length ≤ m ↔ (n : Int) < bp m :=
  ⟨fun h => Int.lt_of_lt_of_le (lim_lt n) (bp_mono h), lim_len_le⟩
theorem lim_len_mono {m n : Nat} (h : m ≤ n) : (lim m).length ≤ (lim n).length := lim_len_le (by have := lim_lt n; omega)
theorem lim_ge {n : Nat} (h : 0 < n) : bp ((lim n).length - 1) ≤ n := by
  have : ¬ (lim n).length ≤ (lim n).length - 1 := by
    have : lim n ≠ [] := fun e => by have := lim_eq_nil.1 e; omega
    have := List.length_pos_iff.2 this; omega
  rw [lim_len_le_iff] at this; omega
theorem lim_inj {m n : Nat} (h : lim m = lim n) : m = n := by
  have := congrArg val h; rw [lim_val, lim_val] at this; omega

/-! ### Whole numbers -/
def I (z : Int) : IntD := ⟨decide (z < 0), lim z.natAbs⟩
/-- How many limbs a number has. -/
def len (z : Int) : Nat := (lim z.natAbs).length
theorem I_neg (z : Int) : (I z).neg = decide (z < 0) := rfl
theorem I_limbs (z : Int) : (I z).limbs = lim z.natAbs := rfl
theorem I_inj {x y : Int} (h : I x = I y) : x = y := by
  have h1 : decide (x < 0) = decide (y < 0) := congrArg IntD.neg h
  have h2 := lim_inj (congrArg IntD.limbs h : lim x.natAbs = lim y.natAbs)
  have : x < 0 ↔ y < 0 := by simpa using h1
  omega
theorem len_le {z : Int} {m : Nat} (h : z.natAbs < bp m) : len z ≤ m := lim_len_le h
theorem len_lt {z : Int} : (z.natAbs : Int) < bp (len z) := lim_lt _
theorem len_le_iff {z : Int} {m : Nat} : len z ≤ m ↔ (z.natAbs : Int) < bp m := lim_len_le_iff

/-! ### Bounds: how many limbs, how much fuel -/
/-- The greatest number of limbs that any number here has: kept closed. -/
def LM : Nat := 1000000000
/-- Enough fuel: more than any number of at most so many limbs. -/
class Fuel (k : Nat) : Prop where
  h : bp LM < k
theorem fuel_exists : ∃ k, Fuel k := ⟨(bp LM).toNat + 1, ⟨by have := bp_pos LM; omega⟩⟩
theorem Fuel.lt {k : Nat} (f : Fuel k) {n m : Nat} (h : (n : Int) ≤ bp m) (hm : m ≤ LM) : n < k := by
  have := f.h; have := bp_mono hm; omega
theorem Fuel.len {k : Nat} (f : Fuel k) {n : Nat} (h : n ≤ LM) : n < k := f.lt (m := n) (by have := bp_ge n; omega) h
end
/-! ## Plain laws: the program's limb arithmetic: trim, signed, compare, plus, minus, times, byWord. -/
section
open Go
set_option linter.unusedVariables false
set_option linter.unusedSimpArgs false

theorem LM_val : LM = 1000000000 := rfl

theorem trim_ok {k : Nat} [F : Fuel k] {l : List Int} (h : Dig l) (hl : l.length ≤ LM) : integer_trim k l = some (lim (val l).toNat) := by
  have hlm := LM_val
  unfold integer_trim
  refine Exists.elim (iter_ok (fun (x2 : (List Int × Unit)) => integer_trim_L0 k x2.1)
    (fun n s => n = s.1.length ∧ Dig s.1 ∧ val s.1 = val l ∧ s.1.length ≤ LM) (fun x => x.1 = lim (val l).toNat) ?_ k l.length (l, ()) (F.len hl) ⟨rfl, h, rfl, hl⟩) ?_
  rotate_left
  · rintro x ⟨hx, hp⟩
    rw [hx]; simp [hp]
  · rintro n ⟨t, u⟩ ⟨rfl, hd, hv, hl'⟩
    dsimp only at hd hv hl' ⊢
    unfold integer_trim_L0
    by_cases h0 : t.length = 0
    · right
      have : t = [] := List.length_eq_zero_iff.1 h0
      subst this
      exact ⟨([], ()), by simp, by simp [← hv, val, lim_zero]⟩
    · have e1 : IntKind.i64.wrap ((t.length : Int) - 1) = (t.length : Int) - 1 := wI64 (by omega) (by omega)
      have e2 : ((t.length : Int) - 1).toNat = t.length - 1 := by omega
      have e3 : ixOk ((t.length : Int) - 1) t.length = true := ixOk_of (by omega) (by omega)
      have e4 : decide ((t.length : Int) > 0) = true := by simp; omega
      simp only [e1, e2, e3, e4, cond_true]
      by_cases hz : t.getD (t.length - 1) 0 = 0
      · left
        refine ⟨(t.take (t.length - 1), ()), t.length - 1, ?_, by omega, by simp, hd.take _, ?_, ?_⟩
        · have e5 : sliceOk (t.length : Int) none (some ((t.length : Int) - 1)) none = true := by simp [sliceOk]; omega
          simp only [hz, e5, cond_true, beq_self_eq_true]
        · have := val_take_succ t (t.length - 1)
          rw [Nat.sub_add_cancel (by omega), List.take_length, hz] at this
          dsimp only; omega
        · simp; omega
      · right
        have e5 : (t.getD (t.length - 1) 0 == 0) = false := by simpa using hz
        refine ⟨(t, ()), by simp only [e5, cond_false], ?_⟩
        have hn : Norm (t.take t.length) := Norm.take hd (Nat.le_refl _) (.inr hz)
        rw [List.take_length] at hn
        rw [← hv]; exact hn.eq_lim

/-- What stands for a number with a sign. -/
theorem I_of (s : Bool) (n : Nat) : (⟨s && decide (0 < n), lim n⟩ : IntD) = I (if s then -(n : Int) else n) := by
  unfold I
  cases s
  · simp
  · simp only [Bool.true_and, if_true, Int.natAbs_neg, Int.natAbs_natCast]
    congr 1
    simp
theorem take_lim {l : List Int} (h : Dig l) {n : Nat} (hn : n ≤ l.length) (h0 : n = 0 ∨ l.getD (n - 1) 0 ≠ 0) (hv : val (l.take n) = val l) : l.take n = lim (val l).toNat := by
  rw [← hv]; exact (Norm.take h hn h0).eq_lim
theorem lim_length_pos {n : Nat} : 0 < (lim n).length ↔ 0 < n := by
  rw [List.length_pos_iff]
  have := @lim_eq_nil n
  constructor
  · intro h; rcases Nat.eq_zero_or_pos n with h0 | h0
    · exact absurd (this.2 h0) h
    · exact h0
  · intro h e; have := this.1 e; omega

theorem signed_ok {k : Nat} [F : Fuel k] (s : Bool) {l : List Int} (h : Dig l) (hl : l.length ≤ LM) : integer_signed k s l = some (I (if s then -(val l) else val l)) := by
  have hlm := LM_val
  unfold integer_signed
  refine Exists.elim (iter_ok (fun (x2 : (Bool × List Int × IntD × Int × Unit)) => integer_signed_L0 k x2.1 x2.2.1 x2.2.2.1 x2.2.2.2.1)
    (fun n s' => ∃ t4, s' = (s, l, t4, (n : Int), ()) ∧ n ≤ l.length ∧ val (l.take n) = val l)
    (fun x => ∃ t4, ∃ n : Nat, x = (s, l, t4, (n : Int), ()) ∧ n ≤ l.length ∧ l.take n = lim (val l).toNat) ?_ k l.length (s, l, ⟨false, []⟩, (l.length : Int), ()) (F.len hl) ⟨_, rfl, Nat.le_refl _, by simp⟩) ?_
  rotate_left
  · rintro x ⟨hx, t4, n, rfl, h4, h5⟩
    have hn : n = (lim (val l).toNat).length := by rw [← h5]; simp; omega
    have e1 : sliceOk (l.length : Int) none (some (n : Int)) (some (n : Int)) = true := by simp [sliceOk]; omega
    have e2 : decide ((n : Int) > 0) = decide (0 < (val l).toNat) := by
      have := @lim_length_pos (val l).toNat
      rw [← hn] at this; simp only [decide_eq_decide]; omega
    have e3 := I_of s (val l).toNat
    have e4 : ((val l).toNat : Int) = val l := by have := val_nonneg h; omega
    rw [e4] at e3
    rw [hx]
    simp only [Option.bind_some, e1, cond_true, Int.toNat_natCast, h5, e2]
    cases s <;> simpa using e3
  · rintro n s' ⟨t4, rfl, hn, hv⟩
    dsimp only at hn hv ⊢
    unfold integer_signed_L0
    by_cases h0 : n = 0
    · right
      subst h0
      exact ⟨_, by simp, t4, 0, rfl, by simp, take_lim h (by simp) (.inl rfl) hv⟩
    · have e1 : IntKind.i64.wrap ((n : Int) - 1) = (n : Int) - 1 := wI64 (by omega) (by omega)
      have e2 : ((n : Int) - 1).toNat = n - 1 := by omega
      have e3 : ixOk ((n : Int) - 1) l.length = true := ixOk_of (by omega) (by omega)
      have e4 : decide ((n : Int) > 0) = true := by simp; omega
      simp only [e1, e2, e3, e4, cond_true]
      by_cases hz : l.getD (n - 1) 0 = 0
      · left
        refine ⟨(s, l, t4, ((n - 1 : Nat) : Int), ()), n - 1, ?_, by omega, _, rfl, by omega, ?_⟩
        · simp only [hz, cond_true, beq_self_eq_true]
          have : (n : Int) - 1 = ((n - 1 : Nat) : Int) := by omega
          rw [this]
        · have := val_take_succ l (n - 1)
          rw [Nat.sub_add_cancel (by omega), hz] at this
          omega
      · right
        have e5 : (l.getD (n - 1) 0 == 0) = false := by simpa using hz
        exact ⟨_, by simp only [e5, cond_false], t4, n, rfl, hn, take_lim h hn (.inr hz) hv⟩

/-! ### Comparing -/
def cmpI (a b : Int) : Int := if a < b then -1 else if a > b then 1 else 0
theorem getD_drop (l : List Int) (i : Nat) (h : i < l.length) : l.drop i = l.getD i 0 :: l.drop (i + 1) := by
  rw [List.drop_eq_getElem_cons h]; simp [h]
theorem val_drop (l : List Int) (i : Nat) (h : i < l.length) : val (l.drop i) = l.getD i 0 + 1000000000 * val (l.drop (i + 1)) := by
  rw [getD_drop l i h]; rfl
theorem val_lt_of_top {a b : List Int} (ha : Dig a) (hb : Dig b) {i : Nat} (hl : a.length = b.length) (hi : i < a.length) (he : a.drop (i + 1) = b.drop (i + 1)) (hlt : a.getD i 0 < b.getD i 0) : val a < val b := by
  have h1 := val_split a i (by omega)
  have h2 := val_split b i (by omega)
  rw [val_drop a i hi] at h1
  rw [val_drop b i (by omega), ← he] at h2
  have h3 := val_lt (ha.take i)
  have h4 := val_nonneg (hb.take i)
  have h5 : (a.take i).length = i := by simp; omega
  rw [h5] at h3
  have := bp_pos i
  generalize val (a.drop (i + 1)) = d at h1 h2
  generalize a.getD i 0 = x at *
  generalize b.getD i 0 = y at *
  have : bp i * (x + 1) ≤ bp i * y := Int.mul_le_mul_of_nonneg_left (by omega) (by omega)
  grind

theorem cmp_loop {k : Nat} [F : Fuel k] {a b : List Int} (ha : Dig a) (hb : Dig b) (hl : a.length = b.length) (hm : a.length ≤ LM) :
    ∃ x, iter (fun (x4 : (List Int × List Int × Int × Unit)) => integer_compare_L0 k x4.1 x4.2.1 x4.2.2.1) k (a, b, IntKind.i64.wrap ((a.length : Int) - 1), ()) = some x ∧
      match x with
      | .inl _ => cmpI (val a) (val b) = 0 ∧ a = b
      | .inr y => y.1 = cmpI (val a) (val b) ∧ a ≠ b := by
  have hlm := LM_val
  refine iter_ok _ (fun n s => s = (a, b, (n : Int) - 1, ()) ∧ n ≤ a.length ∧ a.drop n = b.drop n) _ ?_ k a.length _ (F.len hm) ⟨by rw [wI64 (by omega) (by omega)], Nat.le_refl _, by rw [List.drop_length, hl, List.drop_length]⟩
  rintro n s ⟨rfl, hn, he⟩
  dsimp only at hn he ⊢
  unfold integer_compare_L0
  by_cases h0 : n = 0
  · right
    subst h0
    simp at he
    subst he
    exact ⟨.inl (), by simp, by simp [cmpI]⟩
  · obtain ⟨m, rfl⟩ : ∃ m, n = m + 1 := ⟨n - 1, by omega⟩
    have e1 : ((m + 1 : Nat) : Int) - 1 = m := by omega
    have e2 : decide ((m : Int) ≥ 0) = true := by simp
    have e3 : ixOk (m : Int) a.length = true := ixOk_of (by omega) (by omega)
    have e4 : ixOk (m : Int) b.length = true := ixOk_of (by omega) (by omega)
    simp only [e1, e2, e3, e4, cond_true, Int.toNat_natCast]
    by_cases h1 : a.getD m 0 < b.getD m 0
    · right
      have := val_lt_of_top ha hb hl (by omega) he h1
      refine ⟨.inr (-1, ()), by simp only [h1, decide_true, cond_true], by simp [cmpI, this], ?_⟩
      rintro rfl; omega
    · by_cases h2 : a.getD m 0 > b.getD m 0
      · right
        have := val_lt_of_top hb ha hl.symm (by omega) he.symm h2
        refine ⟨.inr (1, ()), by simp only [h1, h2, decide_true, decide_false, cond_true, cond_false], ?_, ?_⟩
        · simp [cmpI]; omega
        · rintro rfl; omega
      · left
        refine ⟨(a, b, (m : Int) - 1, ()), m, ?_, by omega, rfl, by omega, ?_⟩
        · simp only [h1, h2, decide_false, cond_false]
          rw [wI64 (by omega) (by omega)]
        · rw [getD_drop a m (by omega), getD_drop b m (by omega), he]
          have : a.getD m 0 = b.getD m 0 := by omega
          rw [this]

theorem cmpI_lt {a b : Int} (h : a < b) : cmpI a b = -1 := by simp [cmpI, h]
theorem cmpI_gt {a b : Int} (h : b < a) : cmpI a b = 1 := by simp [cmpI, h]; omega
theorem cmpI_self (a : Int) : cmpI a a = 0 := by simp [cmpI]
theorem cmpI_neg (a b : Int) : cmpI (-a) (-b) = cmpI b a := by unfold cmpI; split <;> split <;> (try split) <;> (try split) <;> omega
theorem cmpI_eq_zero {a b : Int} : cmpI a b = 0 ↔ a = b := by unfold cmpI; split <;> (try split) <;> omega
theorem cmpI_neg_iff {a b : Int} : cmpI a b < 0 ↔ a < b := by unfold cmpI; split <;> (try split) <;> omega
theorem cmpI_pos_iff {a b : Int} : cmpI a b > 0 ↔ b < a := by unfold cmpI; split <;> (try split) <;> omega

theorem cmp_lims {k : Nat} [F : Fuel k] {m n : Nat} (hm : (lim m).length ≤ LM) (hn : (lim n).length ≤ LM) :
    (bif ((lim m).length : Int) != ((lim n).length : Int) then
      bif decide (((lim m).length : Int) < ((lim n).length : Int)) then some (-1) else some 1
    else
      (iter (fun (x4 : (List Int × List Int × Int × Unit)) => integer_compare_L0 k x4.1 x4.2.1 x4.2.2.1) k (lim m, lim n, IntKind.i64.wrap (((lim m).length : Int) - 1), ())).bind fun x3 =>
      match x3 with
      | .inl x5 => some 0
      | .inr x6 => some x6.1) = some (cmpI m n) := by
  by_cases h : (lim m).length = (lim n).length
  · have e : (((lim m).length : Int) != ((lim n).length : Int)) = false := by simp [h]
    rw [e, cond_false]
    obtain ⟨x, hx, hp⟩ := cmp_loop (k := k) (lim_dig m) (lim_dig n) h hm
    rw [hx]
    rw [lim_val, lim_val] at hp
    cases x with
    | inl x => simp [hp.1]
    | inr x => simp [hp.1]
  · have e : (((lim m).length : Int) != ((lim n).length : Int)) = true := by simp; omega
    rw [e, cond_true]
    by_cases h1 : (lim m).length < (lim n).length
    · have : m < n := by
        rcases Nat.lt_or_ge m n with h2 | h2
        · exact h2
        · have := lim_len_mono h2; omega
      rw [cmpI_lt (by omega)]
      have e : decide (((lim m).length : Int) < ((lim n).length : Int)) = true := by simp; omega
      rw [e, cond_true]
    · have : n < m := by
        rcases Nat.lt_or_ge n m with h2 | h2
        · exact h2
        · have := lim_len_mono h2; omega
      rw [cmpI_gt (by omega)]
      have e : decide (((lim m).length : Int) < ((lim n).length : Int)) = false := by simp; omega
      rw [e, cond_false]
theorem compare_ok {k : Nat} [F : Fuel k] {a b : List Int} (ha : Dig a) (hb : Dig b) (hla : a.length ≤ LM) (hlb : b.length ≤ LM) :
    integer_compare k a b = some (cmpI (val a) (val b)) := by
  unfold integer_compare
  rw [trim_ok ha hla, trim_ok hb hlb]
  have h1 : (lim (val a).toNat).length ≤ LM := Nat.le_trans (lim_len_le (by have := val_lt ha; have := val_nonneg ha; omega)) hla
  have h2 : (lim (val b).toNat).length ≤ LM := Nat.le_trans (lim_len_le (by have := val_lt hb; have := val_nonneg hb; omega)) hlb
  have := cmp_lims (k := k) h1 h2
  have ea : ((val a).toNat : Int) = val a := by have := val_nonneg ha; omega
  have eb : ((val b).toNat : Int) = val b := by have := val_nonneg hb; omega
  rw [ea, eb] at this
  exact this
end
/-! ## Plain laws: the program's sums, differences, products and quotients of limbs. -/
section
open Go
set_option linter.unusedVariables false
set_option linter.unusedSimpArgs false

theorem cdec {p : Prop} [Decidable p] (h : p) : decide p = true := by simp [h]
theorem cdecF {p : Prop} [Decidable p] (h : ¬ p) : decide p = false := by simp [h]
theorem carry_zero {v c P : Int} (hv : v < P) (h0 : 0 ≤ v) (hc : 0 ≤ c) (h : v + c * P < P) : c = 0 := by
  rcases ilt_or_ge 0 c with h1 | h1
  · have : P ≤ c * P := by have := Int.mul_le_mul_of_nonneg_right (show (1 : Int) ≤ c by omega) (show (0 : Int) ≤ P by omega); omega
    omega
  · omega

/-! ### Sums -/
theorem plus_loop {k : Nat} [F : Fuel k] {a b : List Int} (ha : Dig a) (hb : Dig b) (hl : b.length ≤ a.length) (hm : a.length + 1 ≤ LM) :
    ∃ x, iter (fun (x2 : (List Int × List Int × Int × List Int × Int × Int × Unit)) => integer_plus_L0 k x2.1 x2.2.1 x2.2.2.1 x2.2.2.2.1 x2.2.2.2.2.1 x2.2.2.2.2.2.1) k (b, [], 0, a, (a.length : Int), 0, ()) = some x ∧
      Dig x.1 ∧ 0 ≤ x.2.1 ∧ x.2.1 ≤ 1 ∧ x.1.length = a.length ∧ val x.1 + bp a.length * x.2.1 = val a + val b := by
  have hlm := LM_val
  refine iter_ok _ (fun n s => ∃ (i : Nat) (o : List Int) (c : Int), n = a.length - i ∧ i ≤ a.length ∧ s = (b, o, c, a, (a.length : Int), (i : Int), ()) ∧ o.length = i ∧ Dig o ∧ 0 ≤ c ∧ c ≤ 1 ∧ val o + bp i * c = val (a.take i) + val (b.take i)) _ ?_ k a.length _ (F.len (by omega)) ⟨0, [], 0, by omega, by omega, rfl, rfl, Dig.nil, by simp, by simp, by simp [val]⟩
  rintro n s ⟨i, o, c, rfl, hi, rfl, hol, hod, hc0, hc1, hv⟩
  dsimp only
  unfold integer_plus_L0
  by_cases h0 : i = a.length
  · right
    subst h0
    refine ⟨(o, c, ()), by simp, hod, hc0, hc1, hol, ?_⟩
    rw [val_take_all a (Nat.le_refl _), val_take_all b hl] at hv; exact hv
  · left
    have hlt : i < a.length := by omega
    have hx := ha.getD i
    have hy := hb.getD i
    have ea := val_take_succ a i
    have eb := val_take_succ b i
    have e1 : ixOk (i : Int) a.length = true := ixOk_of (by omega) (by omega)
    have w1 : IntKind.u32.wrap (a.getD i 0 + c) = a.getD i 0 + c := wU32 (by omega) (by omega)
    have w2 : IntKind.u32.wrap (a.getD i 0 + c + b.getD i 0) = a.getD i 0 + c + b.getD i 0 := wU32 (by omega) (by omega)
    have w3 : IntKind.i64.wrap ((i : Int) + 1) = ((i + 1 : Nat) : Int) := by rw [wI64 (by omega) (by omega)]; omega
    have e2 : ∀ z : Int, decide ((o.length + ([z] : List Int).length) * 4 ≤ 140737488355328) = true := fun z => by simp; omega
    have key : ∀ y : Int, y = b.getD i 0 → ∃ s' m, (bif decide (a.getD i 0 + c + y ≥ 1000000000) then some (Sum.inl (b, o ++ [IntKind.u32.wrap (a.getD i 0 + c + y - 1000000000)], 1, a, (a.length : Int), ((i + 1 : Nat) : Int), ()))
        else some (Sum.inl (b, o ++ [a.getD i 0 + c + y], 0, a, (a.length : Int), ((i + 1 : Nat) : Int), ()))) = some (Sum.inl s' : (List Int × List Int × Int × List Int × Int × Int × Unit) ⊕ (List Int × Int × Unit)) ∧ m < a.length - i ∧
        ∃ (i_1 : Nat) (o : List Int) (c : Int), m = a.length - i_1 ∧ i_1 ≤ a.length ∧ s' = (b, o, c, a, (a.length : Int), (i_1 : Int), ()) ∧ o.length = i_1 ∧ Dig o ∧ 0 ≤ c ∧ c ≤ 1 ∧ val o + bp i_1 * c = val (a.take i_1) + val (b.take i_1) := by
      rintro y rfl
      by_cases hs : a.getD i 0 + c + b.getD i 0 ≥ 1000000000
      · rw [cdec hs, cond_true, wU32 (by omega) (by omega)]
        refine ⟨_, a.length - (i + 1), rfl, by omega, i + 1, _, _, rfl, by omega, rfl, by simp [hol], hod.append (Dig.cons (by omega) (by omega) Dig.nil), by simp, by simp, ?_⟩
        simp only [val_append, hol, val, bp]; rw [ea, eb]; grind
      · rw [cdecF hs, cond_false]
        refine ⟨_, a.length - (i + 1), rfl, by omega, i + 1, _, _, rfl, by omega, rfl, by simp [hol], hod.append (Dig.cons (by omega) (by omega) Dig.nil), by simp, by simp, ?_⟩
        simp only [val_append, hol, val, bp]; rw [ea, eb]; grind
    have e3 : decide ((i : Int) < (a.length : Int)) = true := by simp; omega
    simp only [e1, e3, cond_true, Int.toNat_natCast, w1]
    by_cases hib : (i : Int) < (b.length : Int)
    · have e4 : ixOk (i : Int) b.length = true := ixOk_of (by omega) (by omega)
      simp only [cdec hib, cond_true, e4, w2, w3, e2]
      exact key _ rfl
    · simp only [cdecF hib, cond_false, w3, e2, cond_true]
      have h0 : b.getD i 0 = 0 := getD_out (by omega)
      have := key 0 h0.symm
      simpa only [Int.add_zero] using this
theorem plus_ok {k : Nat} [F : Fuel k] {a b : List Int} (ha : Dig a) (hb : Dig b) (hla : a.length + 1 ≤ LM) (hlb : b.length + 1 ≤ LM) :
    ∃ r, integer_plus k a b = some r ∧ Dig r ∧ val r = val a + val b ∧ r.length = max a.length b.length + 1 := by
  have hlm := LM_val
  unfold integer_plus
  have fin : ∀ {a b : List Int}, Dig a → Dig b → b.length ≤ a.length → a.length + 1 ≤ LM → ∃ r, ((iter (fun (x2 : (List Int × List Int × Int × List Int × Int × Int × Unit)) => integer_plus_L0 k x2.1 x2.2.1 x2.2.2.1 x2.2.2.2.1 x2.2.2.2.2.1 x2.2.2.2.2.2.1) k (b, (List.replicate 0 (0 : Int)), 0, a, (a.length : Int), 0, ())).bind fun x1 =>
      bif decide ((x1.1.length + ([x1.2.1] : List Int).length) * 4 ≤ 140737488355328) then some (x1.1 ++ ([x1.2.1] : List Int)) else none) = some r ∧ Dig r ∧ val r = val a + val b ∧ r.length = a.length + 1 := by
    intro a b ha hb hl hm
    obtain ⟨x, hx, h1, h2, h3, h4, h5⟩ := plus_loop (k := k) ha hb hl hm
    refine ⟨x.1 ++ [x.2.1], ?_, h1.append (Dig.cons h2 (by omega) Dig.nil), ?_, by simp [h4]⟩
    · rw [List.replicate_zero, hx]
      clear hx
      have : decide ((x.1.length + ([x.2.1] : List Int).length) * 4 ≤ 140737488355328) = true := by rw [h4]; simp; omega
      simp only [Option.bind_some, this, cond_true]
    · rw [val_append]; simp only [val, Int.mul_zero, Int.add_zero]; rw [h4]; omega
  by_cases h : (a.length : Int) < (b.length : Int)
  · have e1 : IntKind.i64.wrap ((b.length : Int) + 1) = (b.length : Int) + 1 := wI64 (by omega) (by omega)
    have e2 : ((decide (0 ≤ 0)) && (decide (0 ≤ IntKind.i64.wrap ((b.length : Int) + 1)) && decide ((IntKind.i64.wrap ((b.length : Int) + 1)) * ((4 : Nat) : Int) ≤ 281474976710656))) = true := by
      rw [e1]; simp; omega
    rw [cdec h, cond_true, e2, cond_true]
    obtain ⟨r, h1, h2, h3, h4⟩ := fin hb ha (by omega) hlb
    exact ⟨r, h1, h2, by omega, by omega⟩
  · have e1 : IntKind.i64.wrap ((a.length : Int) + 1) = (a.length : Int) + 1 := wI64 (by omega) (by omega)
    have e2 : ((decide (0 ≤ 0)) && (decide (0 ≤ IntKind.i64.wrap ((a.length : Int) + 1)) && decide ((IntKind.i64.wrap ((a.length : Int) + 1)) * ((4 : Nat) : Int) ≤ 281474976710656))) = true := by
      rw [e1]; simp; omega
    rw [cdecF h, cond_false, e2, cond_true]
    obtain ⟨r, h1, h2, h3, h4⟩ := fin ha hb (by omega) hla
    exact ⟨r, h1, h2, h3, by omega⟩

/-! ### Differences -/
theorem make_ok {n : Nat} (h : n ≤ LM) : ((decide (0 ≤ (n : Int))) && (decide ((n : Int) ≤ (n : Int)) && decide ((n : Int) * ((4 : Nat) : Int) ≤ 281474976710656))) = true := by
  have := LM_val; simp; omega
theorem minus_ok {k : Nat} [F : Fuel k] {a b : List Int} (ha : Dig a) (hb : Dig b) (hl : b.length ≤ a.length) (hm : a.length ≤ LM) (hle : val b ≤ val a) :
    ∃ r, integer_minus k a b = some r ∧ Dig r ∧ val r = val a - val b ∧ r.length = a.length := by
  have hlm := LM_val
  unfold integer_minus
  rw [make_ok hm, cond_true]
  obtain ⟨x, hx, h1, h2, c, h3, h4, h5⟩ : ∃ x, iter (fun (x2 : (List Int × List Int × Int × List Int × Int × Int × Unit)) => integer_minus_L0 k x2.1 x2.2.1 x2.2.2.1 x2.2.2.2.1 x2.2.2.2.2.1 x2.2.2.2.2.2.1) k (b, (List.replicate (a.length : Int).toNat (0 : Int)), 0, a, (a.length : Int), 0, ()) = some x ∧
      Dig x.1 ∧ x.1.length = a.length ∧ ∃ c : Int, 0 ≤ c ∧ c ≤ 1 ∧ val x.1 - bp a.length * c = val a - val b := by
    refine iter_ok _ (fun n s => ∃ (i : Nat) (o : List Int) (c : Int), n = a.length - i ∧ i ≤ a.length ∧ s = (b, o, c, a, (a.length : Int), (i : Int), ()) ∧ o.length = a.length ∧ Dig o ∧ 0 ≤ c ∧ c ≤ 1 ∧ (∀ j, i ≤ j → o.getD j 0 = 0) ∧ val o - bp i * c = val (a.take i) - val (b.take i)) _ ?_ k a.length _ (F.len (by omega)) ⟨0, _, _, by omega, by omega, rfl, by simp, Dig.replicate _, by simp, by simp, fun j _ => getD_replicate _ _, by simp [val, val_replicate]⟩
    rintro n s ⟨i, o, c, rfl, hi, rfl, hol, hod, hc0, hc1, hz, hv⟩
    dsimp only
    unfold integer_minus_L0
    by_cases h0 : i = a.length
    · right
      subst h0
      refine ⟨(o, ()), by simp, hod, hol, c, hc0, hc1, ?_⟩
      rw [val_take_all a (Nat.le_refl _), val_take_all b hl] at hv; exact hv
    · left
      have hlt : i < a.length := by omega
      have hx := ha.getD i
      have hy := hb.getD i
      have ea := val_take_succ a i
      have eb := val_take_succ b i
      have e1 : ixOk (i : Int) a.length = true := ixOk_of (by omega) (by omega)
      have e2 : ixOk (i : Int) o.length = true := ixOk_of (by omega) (by omega)
      have w2 : IntKind.u32.wrap (c + b.getD i 0) = c + b.getD i 0 := wU32 (by omega) (by omega)
      have w3 : IntKind.i64.wrap ((i : Int) + 1) = ((i + 1 : Nat) : Int) := by rw [wI64 (by omega) (by omega)]; omega
      have w4 : IntKind.u32.wrap (a.getD i 0 + 1000000000) = a.getD i 0 + 1000000000 := wU32 (by omega) (by omega)
      have e3 : decide ((i : Int) < (a.length : Int)) = true := by simp; omega
      have key : ∀ y : Int, y = c + b.getD i 0 → ∃ s' m, (bif decide (a.getD i 0 < y) then some (Sum.inl (b, o.set i (IntKind.u32.wrap (a.getD i 0 + 1000000000 - y)), 1, a, (a.length : Int), ((i + 1 : Nat) : Int), ()))
          else some (Sum.inl (b, o.set i (IntKind.u32.wrap (a.getD i 0 - y)), 0, a, (a.length : Int), ((i + 1 : Nat) : Int), ()))) = some (Sum.inl s' : (List Int × List Int × Int × List Int × Int × Int × Unit) ⊕ (List Int × Unit)) ∧ m < a.length - i ∧
          ∃ (i_1 : Nat) (o : List Int) (c : Int), m = a.length - i_1 ∧ i_1 ≤ a.length ∧ s' = (b, o, c, a, (a.length : Int), (i_1 : Int), ()) ∧ o.length = a.length ∧ Dig o ∧ 0 ≤ c ∧ c ≤ 1 ∧ (∀ j, i_1 ≤ j → o.getD j 0 = 0) ∧ val o - bp i_1 * c = val (a.take i_1) - val (b.take i_1) := by
        rintro y rfl
        have hz' : ∀ x : Int, ∀ j, i + 1 ≤ j → (o.set i x).getD j 0 = 0 := fun x j hj => by
          rw [getD_set _ _ _ _ (by omega), if_neg (by omega)]; exact hz j (by omega)
        by_cases hs : a.getD i 0 < c + b.getD i 0
        · rw [cdec hs, cond_true, wU32 (by omega) (by omega)]
          refine ⟨_, a.length - (i + 1), rfl, by omega, i + 1, _, _, rfl, by omega, rfl, by simp [hol], hod.set _ (by omega) (by omega), by simp, by simp, hz' _, ?_⟩
          simp only [val_set _ _ _ (show i < o.length by omega), hz i (by omega), bp]; rw [ea, eb]; grind
        · rw [cdecF hs, cond_false, wU32 (by omega) (by omega)]
          refine ⟨_, a.length - (i + 1), rfl, by omega, i + 1, _, _, rfl, by omega, rfl, by simp [hol], hod.set _ (by omega) (by omega), by simp, by simp, hz' _, ?_⟩
          simp only [val_set _ _ _ (show i < o.length by omega), hz i (by omega), bp]; rw [ea, eb]; grind
      simp only [e1, e2, e3, cond_true, Int.toNat_natCast, w3, w4]
      by_cases hib : (i : Int) < (b.length : Int)
      · have e4 : ixOk (i : Int) b.length = true := ixOk_of (by omega) (by omega)
        simp only [cdec hib, cond_true, e4, w2]
        exact key _ rfl
      · simp only [cdecF hib, cond_false]
        have h0 : b.getD i 0 = 0 := getD_out (by omega)
        exact key c (by omega)
  have hc : c = 0 := by
    have := bp_pos a.length; have := val_lt h1
    rw [h2] at this
    by_cases hc : c = 0
    · exact hc
    · have : c = 1 := by omega
      subst this; omega
  subst hc
  exact ⟨x.1, by rw [hx]; rfl, h1, by omega, h2⟩

/-! ### Products -/
theorem Dig.prod {x y : Int} (hx : 0 ≤ x ∧ x < 1000000000) (hy : 0 ≤ y ∧ y < 1000000000) : 0 ≤ x * y ∧ x * y ≤ 999999998000000001 := by
  refine ⟨Int.mul_nonneg hx.1 hy.1, ?_⟩
  have h1 := Int.mul_le_mul_of_nonneg_right (show x ≤ 999999999 by omega) hy.1
  omega
theorem times_inner {k : Nat} [F : Fuel k] {a b o : List Int} {i : Nat} (ha : Dig a) (hb : Dig b) (ho : Dig o) (hi : i < a.length) (hol : o.length = a.length + b.length) (hm : a.length + b.length ≤ LM) :
    ∃ x, iter (fun (x2 : (List Int × List Int × Int × Int × Int × List Int × Int × Int × List Int × Int × Int × Unit)) => integer_times_L2 k x2.1 x2.2.1 x2.2.2.1 x2.2.2.2.1 x2.2.2.2.2.1 x2.2.2.2.2.2.1 x2.2.2.2.2.2.2.1 x2.2.2.2.2.2.2.2.1 x2.2.2.2.2.2.2.2.2.1 x2.2.2.2.2.2.2.2.2.2.1 x2.2.2.2.2.2.2.2.2.2.2.1) k (b, o, (i : Int), a.getD i 0, 0, a, (a.length : Int), (i : Int), b, (b.length : Int), 0, ()) = some x ∧
      ∃ o' c, x = (b, o', (i : Int), c, a, (a.length : Int), (i : Int), ()) ∧ Dig o' ∧ o'.length = o.length ∧ 0 ≤ c ∧ c < 1000000000 ∧ (∀ j, i + b.length ≤ j → o'.getD j 0 = o.getD j 0) ∧ val o' + bp (i + b.length) * c = val o + bp i * (a.getD i 0 * val b) := by
  have hlm := LM_val
  refine iter_ok _ (fun n s => ∃ (j : Nat) (o' : List Int) (c : Int), n = b.length - j ∧ j ≤ b.length ∧ s = (b, o', (i : Int), a.getD i 0, c, a, (a.length : Int), (i : Int), b, (b.length : Int), (j : Int), ()) ∧ Dig o' ∧ o'.length = o.length ∧ 0 ≤ c ∧ c < 1000000000 ∧ (∀ l, i + j ≤ l → o'.getD l 0 = o.getD l 0) ∧ val o' + bp (i + j) * c = val o + bp i * (a.getD i 0 * val (b.take j))) _ ?_ k b.length _ (F.len (by omega)) ⟨0, o, 0, by omega, by omega, rfl, ho, rfl, by simp, by simp, fun _ _ => rfl, by simp [val]⟩
  rintro n s ⟨j, o', c, rfl, hj, rfl, hod, hol', hc0, hc1, hsame, hv⟩
  dsimp only
  unfold integer_times_L2
  by_cases h0 : j = b.length
  · right
    subst h0
    refine ⟨_, by rw [cdecF (by omega), cond_false], o', c, rfl, hod, hol', hc0, hc1, hsame, ?_⟩
    rw [val_take_all b (Nat.le_refl _)] at hv; exact hv
  · left
    have hlt : j < b.length := by omega
    have hx := ha.getD i
    have hy := hb.getD j
    have hz := hod.getD (i + j)
    have hxy := Dig.prod hx hy
    have eb := val_take_succ b j
    have e1 : ixOk (j : Int) b.length = true := ixOk_of (by omega) (by omega)
    have w1 : IntKind.i64.wrap ((i : Int) + (j : Int)) = ((i + j : Nat) : Int) := by rw [wI64 (by omega) (by omega)]; omega
    have e2 : ixOk ((i + j : Nat) : Int) o'.length = true := ixOk_of (by omega) (by omega)
    have w3 : IntKind.i64.wrap ((j : Int) + 1) = ((j + 1 : Nat) : Int) := by rw [wI64 (by omega) (by omega)]; omega
    have e3 : decide ((j : Int) < (b.length : Int)) = true := by simp; omega
    have w4 : IntKind.u64.wrap (o'.getD (i + j) 0) = o'.getD (i + j) 0 := wU64 (by omega) (by omega)
    have w5 : IntKind.u64.wrap (a.getD i 0) = a.getD i 0 := wU64 (by omega) (by omega)
    have w6 : IntKind.u64.wrap (b.getD j 0) = b.getD j 0 := wU64 (by omega) (by omega)
    have w7 : IntKind.u64.wrap (a.getD i 0 * b.getD j 0) = a.getD i 0 * b.getD j 0 := wU64 (by omega) (by omega)
    have w8 : IntKind.u64.wrap (o'.getD (i + j) 0 + a.getD i 0 * b.getD j 0) = o'.getD (i + j) 0 + a.getD i 0 * b.getD j 0 := wU64 (by omega) (by omega)
    have w9 : IntKind.u64.wrap (o'.getD (i + j) 0 + a.getD i 0 * b.getD j 0 + c) = o'.getD (i + j) 0 + a.getD i 0 * b.getD j 0 + c := wU64 (by omega) (by omega)
    simp only [e1, e2, e3, cond_true, Int.toNat_natCast, w1, w3, w4, w5, w6, w7, w8, w9]
    generalize ht : o'.getD (i + j) 0 + a.getD i 0 * b.getD j 0 + c = t
    have t0 : 0 ≤ t := by omega
    have t1 : t < 1000000000 * 1000000000 := by omega
    rw [Int.tmod_eq_emod_of_nonneg t0, Int.tdiv_eq_ediv_of_nonneg t0, wU32 (by omega) (by omega), wU64 (by omega) (by omega)]
    refine ⟨_, b.length - (j + 1), rfl, by omega, j + 1, _, _, rfl, by omega, rfl, hod.set _ (by omega) (by omega), by simp [hol'], by omega, by omega, fun l hl => ?_, ?_⟩
    · rw [getD_set _ _ _ _ (by omega), if_neg (by omega)]; exact hsame l (by omega)
    · rw [val_set _ _ _ (by omega), eb, ← Nat.add_assoc]
      simp only [bp]
      have hb' := bp_add i j
      have hdm : t = 1000000000 * (t / 1000000000) + t % 1000000000 := by omega
      generalize t / 1000000000 = q at *
      generalize t % 1000000000 = r at *
      grind
theorem times_ok {k : Nat} [F : Fuel k] {a b : List Int} (ha : Dig a) (hb : Dig b) (hm : a.length + b.length ≤ LM) :
    ∃ r, integer_times k a b = some r ∧ Dig r ∧ val r = val a * val b ∧ r.length = a.length + b.length := by
  have hlm := LM_val
  unfold integer_times
  have w0 : IntKind.i64.wrap ((a.length : Int) + (b.length : Int)) = ((a.length + b.length : Nat) : Int) := by rw [wI64 (by omega) (by omega)]; omega
  simp only [w0, make_ok hm, cond_true]
  obtain ⟨x, hx, h1, h2, h3⟩ : ∃ x, iter (fun (x4 : (List Int × List Int × List Int × Int × Int × Unit)) => integer_times_L0 k x4.1 x4.2.1 x4.2.2.1 x4.2.2.2.1 x4.2.2.2.2.1) k (b, (List.replicate ((a.length + b.length : Nat) : Int).toNat (0 : Int)), a, (a.length : Int), 0, ()) = some x ∧
      Dig x.1 ∧ x.1.length = a.length + b.length ∧ val x.1 = val a * val b := by
    refine iter_ok _ (fun n s => ∃ (i : Nat) (o : List Int), n = a.length - i ∧ i ≤ a.length ∧ s = (b, o, a, (a.length : Int), (i : Int), ()) ∧ Dig o ∧ o.length = a.length + b.length ∧ (∀ j, i + b.length ≤ j → o.getD j 0 = 0) ∧ val o = val (a.take i) * val b) _ ?_ k a.length _ (F.len (by omega)) ⟨0, _, by omega, by omega, rfl, Dig.replicate _, by rw [List.length_replicate]; omega, fun j _ => getD_replicate _ _, by simp [val, val_replicate]⟩
    rintro n s ⟨i, o, rfl, hi, rfl, hod, hol, hz, hv⟩
    dsimp only
    unfold integer_times_L0
    by_cases h0 : i = a.length
    · right
      subst h0
      refine ⟨_, by rw [cdecF (by omega), cond_false], hod, hol, ?_⟩
      rw [val_take_all a (Nat.le_refl _)] at hv; exact hv
    · left
      have hlt : i < a.length := by omega
      have e1 : ixOk (i : Int) a.length = true := ixOk_of (by omega) (by omega)
      have e3 : decide ((i : Int) < (a.length : Int)) = true := by simp; omega
      have w1 : IntKind.i64.wrap ((i : Int) + (b.length : Int)) = ((i + b.length : Nat) : Int) := by rw [wI64 (by omega) (by omega)]; omega
      have w3 : IntKind.i64.wrap ((i : Int) + 1) = ((i + 1 : Nat) : Int) := by rw [wI64 (by omega) (by omega)]; omega
      obtain ⟨x, hx, o', c, rfl, ho', hol', hc0, hc1, hs, hv'⟩ := times_inner (k := k) ha hb hod hlt hol hm
      have e2 : ixOk ((i + b.length : Nat) : Int) o'.length = true := ixOk_of (by omega) (by omega)
      simp only [e1, e3, cond_true, Int.toNat_natCast, hx, Option.bind_some, w1, w3, e2]
      rw [wU32 (by omega) (by omega)]
      refine ⟨_, a.length - (i + 1), rfl, by omega, i + 1, _, rfl, by omega, rfl, ho'.set _ hc0 hc1, by simp; omega, fun j hj => ?_, ?_⟩
      · rw [getD_set _ _ _ _ (by omega), if_neg (by omega), hs j (by omega)]; exact hz j (by omega)
      · rw [val_set _ _ _ (by omega), hs _ (by omega), hz _ (by omega), val_take_succ]
        grind
  exact ⟨x.1, by rw [hx]; rfl, h1, h3, h2⟩

/-! ### Division by one limb -/
theorem byWord_ok {k : Nat} [F : Fuel k] {a : List Int} {w : Int} (ha : Dig a) (hw : 0 < w) (hw' : w < 1000000000) (hm : a.length ≤ LM) :
    ∃ q r, integer_byWord k a w = some (q, [r]) ∧ Dig q ∧ q.length = a.length ∧ 0 ≤ r ∧ r < w ∧ val a = w * val q + r := by
  have hlm := LM_val
  unfold integer_byWord
  simp only [make_ok hm, cond_true]
  obtain ⟨x, hx, q, r, rfl, h1, h2, h3, h4, h5⟩ : ∃ x, iter (fun (x2 : (List Int × Int × List Int × Int × Int × Unit)) => integer_byWord_L0 k x2.1 x2.2.1 x2.2.2.1 x2.2.2.2.1 x2.2.2.2.2.1) k (a, w, (List.replicate (a.length : Int).toNat (0 : Int)), 0, IntKind.i64.wrap ((a.length : Int) - 1), ()) = some x ∧
      ∃ q r, x = (q, r, ()) ∧ Dig q ∧ q.length = a.length ∧ 0 ≤ r ∧ r < w ∧ val a = w * val q + r := by
    refine iter_ok _ (fun n s => ∃ (q : List Int) (r : Int), n ≤ a.length ∧ s = (a, w, q, r, (n : Int) - 1, ()) ∧ Dig q ∧ q.length = a.length ∧ 0 ≤ r ∧ r < w ∧ val (a.drop n) = w * val (q.drop n) + r) _ ?_ k a.length _ (F.len (by omega)) ⟨_, 0, Nat.le_refl _, by rw [wI64 (by omega) (by omega)], Dig.replicate _, by simp, by simp, hw, by simp [val]⟩
    rintro n s ⟨q, r, hn, rfl, hq, hql, hr0, hr1, hv⟩
    dsimp only
    unfold integer_byWord_L0
    by_cases h0 : n = 0
    · right
      subst h0
      exact ⟨_, by rw [cdecF (by omega), cond_false], q, r, rfl, hq, hql, hr0, hr1, by simpa using hv⟩
    · left
      obtain ⟨m, rfl⟩ : ∃ m, n = m + 1 := ⟨n - 1, by omega⟩
      have e0 : ((m + 1 : Nat) : Int) - 1 = m := by omega
      have hx := ha.getD m
      have e1 : ixOk (m : Int) a.length = true := ixOk_of (by omega) (by omega)
      have e2 : ixOk (m : Int) q.length = true := ixOk_of (by omega) (by omega)
      have e3 : decide ((m : Int) ≥ 0) = true := by simp
      have w1 : IntKind.u64.wrap w = w := wU64 (by omega) (by omega)
      have w2 : (w == 0) = false := by simp; omega
      have w3 : IntKind.u64.wrap (r * 1000000000) = r * 1000000000 := wU64 (by omega) (by omega)
      have w4 : IntKind.u64.wrap (a.getD m 0) = a.getD m 0 := wU64 (by omega) (by omega)
      have w5 : IntKind.u64.wrap (r * 1000000000 + a.getD m 0) = r * 1000000000 + a.getD m 0 := wU64 (by omega) (by omega)
      have w6 : IntKind.i64.wrap ((m : Int) - 1) = (m : Int) - 1 := wI64 (by omega) (by omega)
      simp only [e0, e1, e2, e3, w1, w2, w3, w4, w5, w6, cond_true, cond_false, Int.toNat_natCast]
      generalize ht : r * 1000000000 + a.getD m 0 = t
      have t0 : 0 ≤ t := by omega
      have d1 := Int.mul_ediv_add_emod t w
      have d2 := Int.emod_nonneg t (show w ≠ 0 by omega)
      have d3 := Int.emod_lt_of_pos t hw
      have d4 : 0 ≤ t / w := Int.ediv_nonneg t0 (by omega)
      have d5 : t / w < 1000000000 := by
        apply Int.ediv_lt_of_lt_mul hw
        have : (r + 1) * 1000000000 ≤ w * 1000000000 := by omega
        rw [Int.mul_comm]; omega
      rw [Int.tmod_eq_emod_of_nonneg t0, Int.tdiv_eq_ediv_of_nonneg t0, wU64 d4 (by omega), wU32 d4 (by omega)]
      refine ⟨_, m, rfl, by omega, _, _, by omega, rfl, hq.set _ d4 d5, by simp [hql], d2, d3, ?_⟩
      rw [val_drop a m (by omega), hv, val_drop _ m (by simp; omega), getD_set _ _ _ _ (by omega), if_pos rfl]
      have : (q.set m (t / w)).drop (m + 1) = q.drop (m + 1) := by rw [List.drop_set]; simp
      rw [this]
      generalize t / w = d at *
      generalize t % w = e at *
      grind
  rw [hx]
  refine ⟨q, r, ?_, h1, h2, h3, h4, h5⟩
  simp only [Option.bind_some]
  rw [wU32 h3 (by omega)]
end
/-! ## Plain laws: the program's long division of limbs. -/
section
open Go
set_option linter.unusedVariables false
set_option linter.unusedSimpArgs false

/-! ### Subtracting a multiple, adding back -/
theorem subtract_ok {k : Nat} [F : Fuel k] {u v : List Int} {g : Int} (hu : Dig u) (hv : Dig v) (hg0 : 0 ≤ g) (hg1 : g < 1000000000) (hl : u.length = v.length + 1) (hm : u.length ≤ LM) :
    ∃ f r, integer_subtract k u v g = some (f, r) ∧ Dig r ∧ r.length = u.length ∧ ∃ c : Int, 0 ≤ c ∧ (f = true ↔ 0 < c) ∧ val r = val u - g * val v + c * bp u.length := by
  have hlm := LM_val
  unfold integer_subtract
  obtain ⟨x, hx, r, c, b, rfl, h1, h2, h3, h4, h5⟩ : ∃ x, iter (fun (x2 : (List Int × List Int × Int × Int × Int × Int × Int × Unit)) => integer_subtract_L0 k x2.1 x2.2.1 x2.2.2.1 x2.2.2.2.1 x2.2.2.2.2.1 x2.2.2.2.2.2.1 x2.2.2.2.2.2.2.1) k (u, v, g, 0, 0, (u.length : Int), 0, ()) = some x ∧
      ∃ r c b, x = (r, c, b, ()) ∧ Dig r ∧ r.length = u.length ∧ 0 ≤ c ∧ 0 ≤ b ∧ val r = val u - g * val v + (c + b) * bp u.length := by
    refine iter_ok _ (fun n s => ∃ (i : Nat) (r : List Int) (c b : Int), n = u.length - i ∧ i ≤ u.length ∧ s = (r, v, g, c, b, (u.length : Int), (i : Int), ()) ∧ Dig r ∧ r.length = u.length ∧ 0 ≤ c ∧ c < 1000000000 ∧ 0 ≤ b ∧ b ≤ 1 ∧ (∀ j, i ≤ j → r.getD j 0 = u.getD j 0) ∧ val r = val u - g * val (v.take i) + (c + b) * bp i) _ ?_ k u.length _ (F.len (by omega)) ⟨0, u, 0, 0, by omega, by omega, rfl, hu, rfl, by simp, by simp, by simp, by simp, fun _ _ => rfl, by simp [val]⟩
    rintro n s ⟨i, r, c, b, rfl, hi, rfl, hr, hrl, hc0, hc1, hb0, hb1, hs, hval⟩
    dsimp only
    unfold integer_subtract_L0
    by_cases h0 : i = u.length
    · right
      subst h0
      refine ⟨_, by rw [cdecF (by omega), cond_false], r, c, b, rfl, hr, hrl, hc0, hb0, ?_⟩
      rw [val_take_all v (by omega)] at hval; exact hval
    · left
      have hlt : i < u.length := by omega
      have hx := hr.getD i
      have hy := hv.getD i
      have hxy := Dig.prod hy ⟨hg0, hg1⟩
      have ev := val_take_succ v i
      have e1 : ixOk (i : Int) r.length = true := ixOk_of (by omega) (by omega)
      have e3 : decide ((i : Int) < (u.length : Int)) = true := by simp; omega
      have w3 : IntKind.i64.wrap ((i : Int) + 1) = ((i + 1 : Nat) : Int) := by rw [wI64 (by omega) (by omega)]; omega
      have w4 : IntKind.u64.wrap (v.getD i 0) = v.getD i 0 := wU64 (by omega) (by omega)
      have w5 : IntKind.u64.wrap (r.getD i 0) = r.getD i 0 := wU64 (by omega) (by omega)
      have w6 : IntKind.u64.wrap (v.getD i 0 * g) = v.getD i 0 * g := wU64 (by omega) (by omega)
      have w7 : IntKind.u64.wrap (c + v.getD i 0 * g) = c + v.getD i 0 * g := wU64 (by omega) (by omega)
      have w8 : IntKind.u64.wrap (r.getD i 0 + 1000000000) = r.getD i 0 + 1000000000 := wU64 (by omega) (by omega)
      have key : ∀ t : Int, t = c + v.getD i 0 * g → ∃ s' m, (bif decide (r.getD i 0 < IntKind.u64.wrap (t.tmod 1000000000 + b)) then some (Sum.inl (r.set i (IntKind.u32.wrap (IntKind.u64.wrap (r.getD i 0 + 1000000000 - IntKind.u64.wrap (t.tmod 1000000000 + b)))), v, g, IntKind.u64.wrap (t.tdiv 1000000000), 1, (u.length : Int), ((i + 1 : Nat) : Int), ()))
          else some (Sum.inl (r.set i (IntKind.u32.wrap (IntKind.u64.wrap (r.getD i 0 - IntKind.u64.wrap (t.tmod 1000000000 + b)))), v, g, IntKind.u64.wrap (t.tdiv 1000000000), 0, (u.length : Int), ((i + 1 : Nat) : Int), ()))) = some (Sum.inl s' : (List Int × List Int × Int × Int × Int × Int × Int × Unit) ⊕ (List Int × Int × Int × Unit)) ∧ m < u.length - i ∧
          ∃ (i_1 : Nat) (r : List Int) (c b : Int), m = u.length - i_1 ∧ i_1 ≤ u.length ∧ s' = (r, v, g, c, b, (u.length : Int), (i_1 : Int), ()) ∧ Dig r ∧ r.length = u.length ∧ 0 ≤ c ∧ c < 1000000000 ∧ 0 ≤ b ∧ b ≤ 1 ∧ (∀ j, i_1 ≤ j → r.getD j 0 = u.getD j 0) ∧ val r = val u - g * val (v.take i_1) + (c + b) * bp i_1 := by
        intro t ht
        have t0 : 0 ≤ t := by omega
        have hz' : ∀ x : Int, ∀ j, i + 1 ≤ j → (r.set i x).getD j 0 = u.getD j 0 := fun x j hj => by
          rw [getD_set _ _ _ _ (by omega), if_neg (by omega)]; exact hs j (by omega)
        have hdm : t = 1000000000 * (t / 1000000000) + t % 1000000000 := by omega
        rw [Int.tmod_eq_emod_of_nonneg t0, Int.tdiv_eq_ediv_of_nonneg t0, wU64 (x := t % 1000000000 + b) (by omega) (by omega), wU64 (x := t / 1000000000) (by omega) (by omega)]
        by_cases hlt' : r.getD i 0 < t % 1000000000 + b
        · rw [cdec hlt', cond_true, wU64 (by omega) (by omega), wU32 (by omega) (by omega)]
          refine ⟨_, u.length - (i + 1), rfl, by omega, i + 1, _, _, _, rfl, by omega, rfl, hr.set _ (by omega) (by omega), by simp [hrl], by omega, by omega, by simp, by simp, hz' _, ?_⟩
          rw [val_set _ _ _ (by omega), hval, ev]; simp only [bp]
          generalize t / 1000000000 = q at *
          generalize t % 1000000000 = e at *
          grind
        · rw [cdecF hlt', cond_false, wU64 (by omega) (by omega), wU32 (by omega) (by omega)]
          refine ⟨_, u.length - (i + 1), rfl, by omega, i + 1, _, _, _, rfl, by omega, rfl, hr.set _ (by omega) (by omega), by simp [hrl], by omega, by omega, by simp, by simp, hz' _, ?_⟩
          rw [val_set _ _ _ (by omega), hval, ev]; simp only [bp]
          generalize t / 1000000000 = q at *
          generalize t % 1000000000 = e at *
          grind
      simp only [e1, e3, cond_true, Int.toNat_natCast, w3, w4, w5, w6, w7, w8]
      by_cases hib : (i : Int) < (v.length : Int)
      · have e4 : ixOk (i : Int) v.length = true := ixOk_of (by omega) (by omega)
        simp only [cdec hib, cond_true, e4]
        exact key _ rfl
      · simp only [cdecF hib, cond_false]
        have h0 : v.getD i 0 = 0 := getD_out (by omega)
        exact key c (by rw [h0]; omega)
  rw [hx]
  have hbeq : Nat.beq r.length u.length = true := by rw [h2]; exact Nat.beq_refl _
  simp only [Option.bind_some, hbeq, cond_true]
  by_cases hb : b > 0
  · exact ⟨true, r, by simp only [cdec hb, cond_true], h1, h2, c + b, by omega, by simp; omega, h5⟩
  · refine ⟨decide (c > 0), r, by simp only [cdecF hb, cond_false], h1, h2, c + b, by omega, by simp; omega, h5⟩
theorem restore_ok {k : Nat} [F : Fuel k] {u v : List Int} (hu : Dig u) (hv : Dig v) (hl : v.length ≤ u.length) (hm : u.length ≤ LM) :
    ∃ r, integer_restore k u v = some ((), r) ∧ Dig r ∧ r.length = u.length ∧ ∃ c : Int, 0 ≤ c ∧ c ≤ 1 ∧ val r = val u + val v - c * bp u.length := by
  have hlm := LM_val
  unfold integer_restore
  obtain ⟨x, hx, r, rfl, h1, h2, c, h3, h4, h5⟩ : ∃ x, iter (fun (x2 : (List Int × List Int × Int × Int × Int × Unit)) => integer_restore_L0 k x2.1 x2.2.1 x2.2.2.1 x2.2.2.2.1 x2.2.2.2.2.1) k (u, v, 0, (u.length : Int), 0, ()) = some x ∧
      ∃ r, x = (r, ()) ∧ Dig r ∧ r.length = u.length ∧ ∃ c : Int, 0 ≤ c ∧ c ≤ 1 ∧ val r = val u + val v - c * bp u.length := by
    refine iter_ok _ (fun n s => ∃ (i : Nat) (r : List Int) (c : Int), n = u.length - i ∧ i ≤ u.length ∧ s = (r, v, c, (u.length : Int), (i : Int), ()) ∧ Dig r ∧ r.length = u.length ∧ 0 ≤ c ∧ c ≤ 1 ∧ val r = val u + val (v.take i) - c * bp i) _ ?_ k u.length _ (F.len (by omega)) ⟨0, u, 0, by omega, by omega, rfl, hu, rfl, by simp, by simp, by simp [val]⟩
    rintro n s ⟨i, r, c, rfl, hi, rfl, hr, hrl, hc0, hc1, hval⟩
    dsimp only
    unfold integer_restore_L0
    by_cases h0 : i = u.length
    · right
      subst h0
      refine ⟨_, by rw [cdecF (by omega), cond_false], r, rfl, hr, hrl, c, hc0, hc1, ?_⟩
      rw [val_take_all v (by omega)] at hval; exact hval
    · left
      have hlt : i < u.length := by omega
      have hx := hr.getD i
      have hy := hv.getD i
      have ev := val_take_succ v i
      have e1 : ixOk (i : Int) r.length = true := ixOk_of (by omega) (by omega)
      have e3 : decide ((i : Int) < (u.length : Int)) = true := by simp; omega
      have w3 : IntKind.i64.wrap ((i : Int) + 1) = ((i + 1 : Nat) : Int) := by rw [wI64 (by omega) (by omega)]; omega
      have w4 : IntKind.u32.wrap (r.getD i 0 + c) = r.getD i 0 + c := wU32 (by omega) (by omega)
      have w5 : IntKind.u32.wrap (r.getD i 0 + c + v.getD i 0) = r.getD i 0 + c + v.getD i 0 := wU32 (by omega) (by omega)
      have key : ∀ t : Int, t = r.getD i 0 + c + v.getD i 0 → ∃ s' m, (bif decide (t ≥ 1000000000) then some (Sum.inl (r.set i (IntKind.u32.wrap (t - 1000000000)), v, 1, (u.length : Int), ((i + 1 : Nat) : Int), ()))
          else some (Sum.inl (r.set i t, v, 0, (u.length : Int), ((i + 1 : Nat) : Int), ()))) = some (Sum.inl s' : (List Int × List Int × Int × Int × Int × Unit) ⊕ (List Int × Unit)) ∧ m < u.length - i ∧
          ∃ (i_1 : Nat) (r : List Int) (c : Int), m = u.length - i_1 ∧ i_1 ≤ u.length ∧ s' = (r, v, c, (u.length : Int), (i_1 : Int), ()) ∧ Dig r ∧ r.length = u.length ∧ 0 ≤ c ∧ c ≤ 1 ∧ val r = val u + val (v.take i_1) - c * bp i_1 := by
        intro t ht
        by_cases hlt' : t ≥ 1000000000
        · rw [cdec hlt', cond_true, wU32 (by omega) (by omega)]
          refine ⟨_, u.length - (i + 1), rfl, by omega, i + 1, _, _, rfl, by omega, rfl, hr.set _ (by omega) (by omega), by simp [hrl], by simp, by simp, ?_⟩
          rw [val_set _ _ _ (by omega), hval, ev]; simp only [bp]
          grind
        · rw [cdecF hlt', cond_false]
          refine ⟨_, u.length - (i + 1), rfl, by omega, i + 1, _, _, rfl, by omega, rfl, hr.set _ (by omega) (by omega), by simp [hrl], by simp, by simp, ?_⟩
          rw [val_set _ _ _ (by omega), hval, ev]; simp only [bp]
          grind
      simp only [e1, e3, cond_true, Int.toNat_natCast, w3, w4]
      by_cases hib : (i : Int) < (v.length : Int)
      · have e4 : ixOk (i : Int) v.length = true := ixOk_of (by omega) (by omega)
        simp only [cdec hib, cond_true, e4, w5]
        exact key _ rfl
      · simp only [cdecF hib, cond_false]
        have h0 : v.getD i 0 = 0 := getD_out (by omega)
        exact key _ (by rw [h0]; omega)
  rw [hx]
  have hbeq : Nat.beq r.length u.length = true := by rw [h2]; exact Nat.beq_refl _
  simp only [Option.bind_some, hbeq, cond_true]
  exact ⟨r, rfl, h1, h2, c, h3, h4, h5⟩

/-! ### The digit's estimate -/
theorem guess_step {g v1 v2 U2 rest u3 P v u q : Int} (hP : 0 < P) (hq : q * v ≤ u) (hv : v1 * 1000000000 * P + v2 * P ≤ v) (hu : u < (U2 * 1000000000 + u3 + 1) * P) (hg : g * v1 + rest = U2) (hq0 : 0 ≤ q) (hg0 : 0 ≤ g) (h4 : 0 ≤ v)
    (hc : g * v2 > rest * 1000000000 + u3) : q < g := by
  rcases ilt_or_ge q g with h | h
  · exact h
  · exfalso
    -- g V2 ≥ U3 + 1
    have h1 : U2 * 1000000000 + u3 + 1 ≤ g * (v1 * 1000000000 + v2) := by grind
    have h2 : (U2 * 1000000000 + u3 + 1) * P ≤ g * (v1 * 1000000000 + v2) * P := Int.mul_le_mul_of_nonneg_right h1 (by omega)
    have h3 : g * ((v1 * 1000000000 + v2) * P) ≤ g * v := Int.mul_le_mul_of_nonneg_left (by grind) hg0
    have h5 : g * v ≤ q * v := Int.mul_le_mul_of_nonneg_right h h4
    grind
theorem guess_start {v1 U2 PB v u q : Int} (hP : 0 < PB) (hv1 : 0 < v1) (hq : q * v ≤ u) (hv : v1 * PB ≤ v) (hu : u < (U2 + 1) * PB) (hq0 : 0 ≤ q) : q ≤ U2 / v1 := by
  apply Int.le_ediv_of_mul_le hv1
  have h1 : q * (v1 * PB) ≤ q * v := Int.mul_le_mul_of_nonneg_left hv hq0
  have h2 : (q * v1) * PB < (U2 + 1) * PB := by grind
  have := Int.lt_of_mul_lt_mul_right h2 (by omega)
  omega
theorem guess_end {g v1 v2 U2 u3 P v u q : Int} (hP : 0 < P) (hq : u < (q + 1) * v) (hv : v < (v1 * 1000000000 + v2 + 1) * P) (hvb : 1000000000 * P ≤ v) (hu : (U2 * 1000000000 + u3) * P ≤ u) (hg0 : 0 ≤ g) (hg1 : g < 1000000000)
    (hc : g * (v1 * 1000000000 + v2) ≤ U2 * 1000000000 + u3) : g ≤ q + 1 := by
  rcases ilt_or_ge (q + 1) g with h | h
  · exfalso
    have h1 : g * v ≤ g * ((v1 * 1000000000 + v2 + 1) * P) := Int.mul_le_mul_of_nonneg_left (by omega) hg0
    have h2 : g * (v1 * 1000000000 + v2) * P ≤ (U2 * 1000000000 + u3) * P := Int.mul_le_mul_of_nonneg_right hc (by omega)
    have h3 : g * P ≤ 999999999 * P := Int.mul_le_mul_of_nonneg_right (by omega) (by omega)
    have h4 : (q + 2) * v ≤ g * v := Int.mul_le_mul_of_nonneg_right (by omega) (by omega)
    grind
  · exact h
end
end Go.Proofs.YtbjkpogfgijmaaaGreat
