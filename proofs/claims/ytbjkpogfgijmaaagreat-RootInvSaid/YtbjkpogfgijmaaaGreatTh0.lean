/- Plain laws: loops, fixed-width numbers, limbs in base 10^9 and the numbers that they stand for. -/
import Derived.Test.YtbjkpogfgijmaaaGreatKit
namespace Go.Proofs.YtbjkpogfgijmaaaGreat
open Go
set_option linter.unusedVariables false
set_option linter.unusedSimpArgs false

/-! ### Loops -/
theorem iter_ok {S X : Type} (f : S → Option (S ⊕ X)) (Inv : Nat → S → Prop) (Post : X → Prop)
    (h : ∀ n s, Inv n s → (∃ s' m, f s = some (.inl s') ∧ m < n ∧ Inv m s') ∨ (∃ x, f s = some (.inr x) ∧ Post x)) :
    ∀ k n s, n < k → Inv n s → ∃ x, iter f k s = some x ∧ Post x := by
  intro k
  induction k with
  | zero => intro n s hn; omega
  | succ k ih =>
    intro n s hn hi
    rcases h n s hi with ⟨s', m, h1, h2, h3⟩ | ⟨x, h1, h2⟩
    · obtain ⟨x, hx, hp⟩ := ih m s' (by omega) h3
      exact ⟨x, by simp [iter, h1, hx], hp⟩
    · exact ⟨x, by simp [iter, h1], h2⟩

/-! ### Numbers of fixed width -/
theorem wI64 {x : Int} (h1 : -9223372036854775808 ≤ x) (h2 : x < 9223372036854775808) : IntKind.i64.wrap x = x := by
  have e : IntKind.i64.wrap x = if (9223372036854775808 : Int) ≤ x % 18446744073709551616 then x % 18446744073709551616 - 18446744073709551616 else x % 18446744073709551616 := by
    simp [IntKind.wrap, IntKind.bits, IntKind.signed]
  rw [e]; split <;> omega
theorem wU64_eq (x : Int) : IntKind.u64.wrap x = x % 18446744073709551616 := by simp [IntKind.wrap, IntKind.bits, IntKind.signed]
theorem wU32_eq (x : Int) : IntKind.u32.wrap x = x % 4294967296 := by simp [IntKind.wrap, IntKind.bits, IntKind.signed]
theorem wU64 {x : Int} (h1 : 0 ≤ x) (h2 : x < 18446744073709551616) : IntKind.u64.wrap x = x := by rw [wU64_eq]; omega
theorem wU32 {x : Int} (h1 : 0 ≤ x) (h2 : x < 4294967296) : IntKind.u32.wrap x = x := by rw [wU32_eq]; omega
theorem ilt_or_ge (a b : Int) : a < b ∨ a ≥ b := by omega
theorem ixOk_of {i : Int} {n : Nat} (h0 : 0 ≤ i) (h1 : i < n) : ixOk i n = true := by simp [ixOk]; exact ⟨h0, h1⟩
theorem getD_out {l : List Int} {n : Nat} (h : l.length ≤ n) : l.getD n 0 = 0 := by rw [List.getD_eq_getElem?_getD, List.getElem?_eq_none h]; rfl
theorem getD_in {l : List Int} {n : Nat} (h : n < l.length) : l.getD n 0 = l[n] := by rw [List.getD_eq_getElem?_getD, List.getElem?_eq_getElem h]; rfl

/-! ### Limbs -/
/-- The base, kept closed. -/
def val : List Int → Int
  | [] => 0
  | x :: r => x + 1000000000 * val r
def Dig (l : List Int) : Prop := ∀ x ∈ l, 0 ≤ x ∧ x < 1000000000
def bp : Nat → Int
  | 0 => 1
  | n + 1 => 1000000000 * bp n
theorem bp_pos : ∀ n, 0 < bp n
  | 0 => by simp [bp]
  | n + 1 => by have := bp_pos n; simp only [bp]; omega
theorem bp_add : ∀ m n, bp (m + n) = bp m * bp n
  | 0, n => by simp [bp]
  | m + 1, n => by rw [Nat.succ_add]; simp only [bp]; rw [bp_add m n]; grind
theorem bp_mono {m n : Nat} (h : m ≤ n) : bp m ≤ bp n := by
  obtain ⟨d, rfl⟩ := Nat.exists_eq_add_of_le h
  induction d with
  | zero => exact Int.le_refl _
  | succ d ih => have := bp_pos (m + d); have := ih (by omega); rw [← Nat.add_assoc]; simp only [bp]; omega
theorem bp_ge (n : Nat) : (n : Int) < bp n := by
  induction n with
  | zero => simp [bp]
  | succ n ih => simp only [bp]; omega
theorem Dig.nil : Dig [] := fun _ h => by cases h
theorem Dig.cons {x : Int} {l : List Int} (h0 : 0 ≤ x) (h1 : x < 1000000000) (h : Dig l) : Dig (x :: l) := by
  intro y hy; rcases List.mem_cons.1 hy with rfl | hy
  · exact ⟨h0, h1⟩
  · exact h y hy
theorem Dig.head {x : Int} {l : List Int} (h : Dig (x :: l)) : 0 ≤ x ∧ x < 1000000000 := h x (by simp)
theorem Dig.tail {x : Int} {l : List Int} (h : Dig (x :: l)) : Dig l := fun y hy => h y (by simp [hy])
theorem Dig.append {l m : List Int} (h : Dig l) (g : Dig m) : Dig (l ++ m) := fun x hx => (List.mem_append.1 hx).elim (h x) (g x)
theorem Dig.take {l : List Int} (h : Dig l) (n : Nat) : Dig (l.take n) := fun x hx => h x (List.mem_of_mem_take hx)
theorem Dig.drop {l : List Int} (h : Dig l) (n : Nat) : Dig (l.drop n) := fun x hx => h x (List.mem_of_mem_drop hx)
theorem Dig.getD {l : List Int} (h : Dig l) (n : Nat) : 0 ≤ l.getD n 0 ∧ l.getD n 0 < 1000000000 := by
  by_cases hn : n < l.length
  · rw [getD_in hn]; exact h _ (List.getElem_mem hn)
  · have : l.getD n 0 = 0 := getD_out (by omega)
    rw [this]; omega
theorem Dig.set {l : List Int} (h : Dig l) (n : Nat) {x : Int} (h0 : 0 ≤ x) (h1 : x < 1000000000) : Dig (l.set n x) := by
  intro y hy
  rcases List.mem_or_eq_of_mem_set hy with hy | rfl
  · exact h y hy
  · exact ⟨h0, h1⟩
theorem Dig.replicate (n : Nat) : Dig (List.replicate n 0) := fun x hx => by rw [(List.mem_replicate.1 hx).2]; omega
theorem val_nonneg : ∀ {l : List Int}, Dig l → 0 ≤ val l
  | [], _ => by simp [val]
  | x :: r, h => by have := val_nonneg h.tail; have := h.head; simp only [val]; omega
theorem val_lt : ∀ {l : List Int}, Dig l → val l < bp l.length
  | [], _ => by simp [val, bp]
  | x :: r, h => by have := val_lt h.tail; have := h.head; simp only [val, bp, List.length_cons]; omega
theorem val_append : ∀ l m : List Int, val (l ++ m) = val l + bp l.length * val m
  | [], m => by simp [val, bp]
  | x :: r, m => by simp only [List.cons_append, val, List.length_cons, bp, val_append r m]; grind
theorem val_replicate : ∀ n, val (List.replicate n 0) = 0
  | 0 => rfl
  | n + 1 => by simp [List.replicate_succ, val, val_replicate n]
theorem val_take_succ (l : List Int) (i : Nat) : val (l.take (i + 1)) = val (l.take i) + bp i * l.getD i 0 := by
  by_cases h : i < l.length
  · rw [List.take_succ_eq_append_getElem h, val_append]
    simp [val, List.length_take, Nat.min_eq_left (Nat.le_of_lt h), h]
  · rw [List.take_of_length_le (by omega), List.take_of_length_le (by omega), getD_out (by omega)]; omega
theorem val_take_all (l : List Int) {n : Nat} (h : l.length ≤ n) : val (l.take n) = val l := by rw [List.take_of_length_le h]
theorem val_split (l : List Int) (n : Nat) (h : n ≤ l.length) : val l = val (l.take n) + bp n * val (l.drop n) := by
  conv => lhs; rw [← List.take_append_drop n l]
  rw [val_append, List.length_take, Nat.min_eq_left h]
theorem val_take_le {l : List Int} (h : Dig l) (n : Nat) : val (l.take n) ≤ val l := by
  by_cases hn : n ≤ l.length
  · rw [val_split l n hn]
    have := val_nonneg (h.drop n); have := bp_pos n
    have : 0 ≤ bp n * val (l.drop n) := Int.mul_nonneg (by omega) (by omega)
    omega
  · rw [List.take_of_length_le (by omega)]; omega
/-- One place set anew. -/
theorem val_set : ∀ (l : List Int) (i : Nat) (x : Int), i < l.length → val (l.set i x) = val l + bp i * (x - l.getD i 0)
  | [], i, x, h => by simp at h
  | y :: r, 0, x, h => by simp [val, bp]; omega
  | y :: r, i + 1, x, h => by
    simp only [List.set_cons_succ, val, bp, val_set r i x (by simpa using h), List.getD_cons_succ]; grind
theorem getD_set (l : List Int) (i j : Nat) (x : Int) (h : i < l.length) : (l.set i x).getD j 0 = if i = j then x else l.getD j 0 := by
  simp only [List.getD_eq_getElem?_getD, List.getElem?_set]
  by_cases hij : i = j
  · subst hij; simp [h]
  · simp [hij]
theorem take_set (l : List Int) (i : Nat) (x : Int) : (l.set i x).take i = l.take i := by
  rw [List.take_set]; exact List.set_eq_of_length_le (by simp; omega)
theorem getD_replicate (n i : Nat) : (List.replicate n (0 : Int)).getD i 0 = 0 := by
  simp only [List.getD_eq_getElem?_getD, List.getElem?_replicate]; split <;> rfl

/-! ### The limbs of a number -/
def lim (n : Nat) : List Int := if h : n = 0 then [] else ((n % 1000000000 : Nat) : Int) :: lim (n / 1000000000)
termination_by n
decreasing_by omega
theorem lim_zero : lim 0 = [] := by rw [lim]; simp
theorem lim_pos {n : Nat} (h : 0 < n) : lim n = ((n % 1000000000 : Nat) : Int) :: lim (n / 1000000000) := by
  conv => lhs; rw [lim]
  rw [dif_neg (by omega)]
theorem lim_dig (n : Nat) : Dig (lim n) := by
  induction n using Nat.strongRecOn with
  | ind n ih =>
    by_cases h : n = 0
    · subst h; rw [lim_zero]; exact Dig.nil
    · rw [lim_pos (by omega)]
      exact Dig.cons (by omega) (by omega) (ih _ (by omega))
theorem lim_val (n : Nat) : val (lim n) = n := by
  induction n using Nat.strongRecOn with
  | ind n ih =>
    by_cases h : n = 0
    · subst h; rw [lim_zero]; rfl
    · rw [lim_pos (by omega)]
      simp only [val]; rw [ih _ (by omega)]; omega
theorem lim_eq_nil {n : Nat} : lim n = [] ↔ n = 0 := by
  constructor
  · intro h; by_cases h0 : n = 0
    · exact h0
    · rw [lim_pos (by omega)] at h; cases h
  · rintro rfl; exact lim_zero
/-- Limbs without zeros at the end. -/
def Norm (l : List Int) : Prop := Dig l ∧ ∀ h : l ≠ [], l.getLast h ≠ 0
theorem Norm.eq_lim : ∀ {l : List Int}, Norm l → l = lim (val l).toNat
  | [], _ => by simp [val, lim_zero]
  | x :: r, h => by
    have hx := h.1.head
    have hr : Norm r := ⟨h.1.tail, fun hr => by have := h.2 (by simp); rwa [List.getLast_cons hr] at this⟩
    have ih := hr.eq_lim
    have hv := val_nonneg h.1.tail
    have hpos : 0 < (val (x :: r)).toNat := by
      simp only [val]
      by_cases h0 : val r = 0
      · rw [h0] at ih ⊢
        simp [lim_zero] at ih
        subst ih
        have := h.2 (by simp)
        simp at this; omega
      · omega
    rw [lim_pos hpos]
    have e1 : (val (x :: r)).toNat % 1000000000 = x.toNat := by simp only [val]; omega
    have e2 : (val (x :: r)).toNat / 1000000000 = (val r).toNat := by simp only [val]; omega
    rw [e1, e2, ← ih]
    congr 1; omega
theorem lim_norm (n : Nat) : Norm (lim n) := by
  refine ⟨lim_dig n, ?_⟩
  induction n using Nat.strongRecOn with
  | ind n ih =>
    intro h
    have h0 : 0 < n := by rcases Nat.eq_zero_or_pos n with rfl | h0; exact absurd lim_zero h; exact h0
    by_cases h1 : n / 1000000000 = 0
    · have : lim n = [((n % 1000000000 : Nat) : Int)] := by rw [lim_pos h0, h1, lim_zero]
      simp only [this, List.getLast_singleton]; omega
    · have hne : lim (n / 1000000000) ≠ [] := fun e => h1 (lim_eq_nil.1 e)
      have := ih (n / 1000000000) (by omega) hne
      have e := lim_pos h0
      simp only [e, List.getLast_cons hne]; exact this
theorem Norm.take {l : List Int} (h : Dig l) {n : Nat} (hn : n ≤ l.length) (h0 : n = 0 ∨ l.getD (n - 1) 0 ≠ 0) : Norm (l.take n) := by
  refine ⟨h.take n, fun hne => ?_⟩
  have hpos : 0 < n := by
    rcases Nat.eq_zero_or_pos n with rfl | h1
    · simp at hne
    · exact h1
  rcases h0 with h0 | h0
  · omega
  · rw [List.getLast_eq_getElem]
    simp only [List.length_take, Nat.min_eq_left hn, List.getElem_take]
    rw [getD_in (by omega)] at h0
    exact h0
theorem lim_len_le {n m : Nat} (h : (n : Int) < bp m) : (lim n).length ≤ m := by
  induction m generalizing n with
  | zero =>
    have : n = 0 := by simp only [bp] at h; omega
    subst this; simp [lim_zero]
  | succ m ih =>
    by_cases h0 : n = 0
    · subst h0; simp [lim_zero]
    · rw [lim_pos (by omega), List.length_cons]
      have := ih (n := n / 1000000000) (by simp only [bp] at h; omega)
      omega
theorem lim_lt (n : Nat) : (n : Int) < bp (lim n).length := by have := val_lt (lim_dig n); rwa [lim_val] at this
theorem lim_len_le_iff {n m : Nat} : (lim n).length ≤ m ↔ (n : Int) < bp m :=
  ⟨fun h => Int.lt_of_lt_of_le (lim_lt n) (bp_mono h), lim_len_le⟩
theorem lim_len_mono {m n : Nat} (h : m ≤ n) : (lim m).length ≤ (lim n).length := lim_len_le (by have := lim_lt n; omega)
theorem lim_ge {n : Nat} (h : 0 < n) : bp ((lim n).length - 1) ≤ n := by
  have : ¬ (lim n).length ≤ (lim n).length - 1 := by
    have : lim n ≠ [] := fun e => by have := lim_eq_nil.1 e; omega
    have := List.length_pos_iff.2 this; omega
  rw [lim_len_le_iff] at this; omega
theorem lim_inj {m n : Nat} (h : lim m = lim n) : m = n := by
  have := congrArg val h; rw [lim_val, lim_val] at this; omega

/-! ### Whole numbers -/
def I (z : Int) : IntD := ⟨decide (z < 0), lim z.natAbs⟩
/-- How many limbs a number has. -/
def len (z : Int) : Nat := (lim z.natAbs).length
theorem I_neg (z : Int) : (I z).neg = decide (z < 0) := rfl
theorem I_limbs (z : Int) : (I z).limbs = lim z.natAbs := rfl
theorem I_inj {x y : Int} (h : I x = I y) : x = y := by
  have h1 : decide (x < 0) = decide (y < 0) := congrArg IntD.neg h
  have h2 := lim_inj (congrArg IntD.limbs h : lim x.natAbs = lim y.natAbs)
  have : x < 0 ↔ y < 0 := by simpa using h1
  omega
theorem len_le {z : Int} {m : Nat} (h : z.natAbs < bp m) : len z ≤ m := lim_len_le h
theorem len_lt {z : Int} : (z.natAbs : Int) < bp (len z) := lim_lt _
theorem len_le_iff {z : Int} {m : Nat} : len z ≤ m ↔ (z.natAbs : Int) < bp m := lim_len_le_iff

/-! ### Bounds: how many limbs, how much fuel -/
/-- The greatest number of limbs that any number here has: kept closed. -/
def LM : Nat := 100000000
/-- Enough fuel: more than any number of at most so many limbs. -/
class Fuel (k : Nat) : Prop where
  h : bp LM < k
theorem fuel_exists : ∃ k, Fuel k := ⟨(bp LM).toNat + 1, ⟨by have := bp_pos LM; omega⟩⟩
theorem Fuel.lt {k : Nat} (f : Fuel k) {n m : Nat} (h : (n : Int) ≤ bp m) (hm : m ≤ LM) : n < k := by
  have := f.h; have := bp_mono hm; omega
theorem Fuel.len {k : Nat} (f : Fuel k) {n : Nat} (h : n ≤ LM) : n < k := f.lt (m := n) (by have := bp_ge n; omega) h
end Go.Proofs.YtbjkpogfgijmaaaGreat
