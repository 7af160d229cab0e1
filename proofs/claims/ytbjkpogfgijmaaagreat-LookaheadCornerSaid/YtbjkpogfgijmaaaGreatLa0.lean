/- Plain laws: the parts of a path (chapter 48), their validity, and the feasibility of speeds. -/
import Derived.Test.YtbjkpogfgijmaaaGreatTh4
import Derived.Test.YtbjkpogfgijmaaaGreatPure1
import Derived.Test.YtbjkpogfgijmaaaGreatPure0
import Derived.Test.YtbjkpogfgijmaaaGreatRow1
namespace Go.Proofs.YtbjkpogfgijmaaaGreat
open Go
set_option linter.unusedVariables false
set_option linter.unusedSimpArgs false

/-- Whether a number lies within bounds. -/
def inB (n lo hi : Int) : Bool := decide (lo ≤ n) && decide (n ≤ hi)
theorem inB_iff {n lo hi : Int} : inB n lo hi = true ↔ lo ≤ n ∧ n ≤ hi := by simp [inB]
theorem within_ok (k : Nat) (n lo hi : Int) : lookahead_within k n lo hi = some (inB n lo hi) := by
  unfold lookahead_within inB
  by_cases h : lo ≤ n <;> simp [h]
theorem accel_ok (k : Nat) (n : Int) : swarfref48_Accel k n = some (inB n 1 100000000) := by
  unfold swarfref48_Accel inB
  by_cases h : 1 ≤ n <;> simp [h]
theorem long_ok (k : Nat) (n : Int) : swarfref48_Long k n = some (inB n 0 100000000) := by
  unfold swarfref48_Long inB
  by_cases h : 0 ≤ n <;> simp [h]
theorem speed_ok (k : Nat) (n : Int) : swarfref48_Speed k n = some (inB n 0 1000000) := by
  unfold swarfref48_Speed inB
  by_cases h : 0 ≤ n <;> simp [h]
/-- Whether a part is valid. -/
def vP (p : PartD) : Bool := inB p.Length 0 100000000 && (inB p.Speed 1 1000000 && inB p.Corner 0 1000000)
/-- The error of parts. -/
def vE (l : List PartD) (a : Int) : Int := if l.length > 2000 then 3 else if (inB a 1 100000000 && l.all vP) = true then 0 else 1
theorem all_take {α : Type} [Inhabited α] {l : List α} {p : α → Bool} {i : Nat} (h : i < l.length) : (l.take (i + 1)).all p = ((l.take i).all p && p (l.getD i default)) := by
  rw [List.take_succ_eq_append_getElem h, List.all_append]
  simp [List.getD_eq_getElem?_getD, List.getElem?_eq_getElem h]
theorem all_take_false {α : Type} {l : List α} {p : α → Bool} {i : Nat} (h : (l.take i).all p = false) : l.all p = false := by
  rw [← List.take_append_drop i l, List.all_append, h, Bool.false_and]
theorem valid_ok {k : Nat} [F : Fuel k] (l : List PartD) (a : Int) : lookahead_Valid k l a = some (vE l a) := by
  unfold lookahead_Valid vE
  by_cases hl : l.length > 2000
  · rw [cdec (show ((l.length : Int) > 2000) by omega), cond_true, if_pos hl]
  · rw [cdecF (show ¬ ((l.length : Int) > 2000) by omega), cond_false, if_neg hl, within_ok, Option.bind_some]
    cases ha : inB a 1 100000000 with
    | false => rfl
    | true =>
      rw [Bool.not_true, cond_false]
      refine Exists.elim (iter_ok (fun (x6 : (List PartD × Int × Int × Unit)) => lookahead_Valid_L0 k x6.1 x6.2.1 x6.2.2.1) (fun n (s : List PartD × Int × Int × Unit) => ∃ i : Nat, s = (l, (l.length : Int), (i : Int), ()) ∧ n + i = l.length ∧ (l.take i).all vP = true)
        (fun x => (x = .inl () ∧ l.all vP = true) ∨ (x = .inr (1, ()) ∧ l.all vP = false)) ?_ k l.length (l, (l.length : Int), 0, ()) (F.len (show l.length ≤ LM by rw [LM_val]; omega)) ⟨0, rfl, rfl, rfl⟩) ?_
      · rintro n s ⟨i, rfl, hn, ht⟩
        simp only []
        unfold lookahead_Valid_L0
        by_cases hi : i < l.length
        · rw [cdec (show ((i : Int) < (l.length : Int)) by omega), cond_true, ixOk_of (by omega) (by omega), cond_true, within_ok, Option.bind_some, Int.toNat_natCast]
          have hA := all_take (p := vP) hi
          rw [ht, Bool.true_and] at hA
          have out : vP (l.getD i default) = false → l.all vP = false := fun e => all_take_false (i := i + 1) (by rw [hA, e])
          cases e1 : inB (l.getD i default).Length 0 100000000 with
          | false => right; exact ⟨_, rfl, Or.inr ⟨rfl, out (by rw [vP, e1, Bool.false_and])⟩⟩
          | true =>
            rw [Bool.not_true, cond_false, within_ok, Option.bind_some]
            cases e2 : inB (l.getD i default).Speed 1 1000000 with
            | false => right; exact ⟨_, rfl, Or.inr ⟨rfl, out (by rw [vP, e1, e2]; rfl)⟩⟩
            | true =>
              rw [Bool.not_true, cond_false, within_ok, Option.bind_some]
              cases e3 : inB (l.getD i default).Corner 0 1000000 with
              | false => right; exact ⟨_, rfl, Or.inr ⟨rfl, out (by rw [vP, e1, e2, e3]; rfl)⟩⟩
              | true =>
                left
                refine ⟨_, n - 1, rfl, by omega, i + 1, ?_, by omega, by rw [hA, vP, e1, e2, e3]; rfl⟩
                rw [wI64 (by omega) (by omega)]; rfl
        · rw [cdecF (show ¬ ((i : Int) < (l.length : Int)) by omega), cond_false]
          right
          exact ⟨_, rfl, Or.inl ⟨rfl, by rw [← ht, List.take_of_length_le (by omega)]⟩⟩
      · rintro x ⟨hx, ⟨rfl, h⟩ | ⟨rfl, h⟩⟩
        · rw [hx, h]; rfl
        · rw [hx, h]; rfl
theorem rvalid_ok {k : Nat} [F : Fuel k] (l : List PartD) (a : Int) : swarfref48_Valid k l a = some (vE l a) := by
  unfold swarfref48_Valid vE
  by_cases hl : l.length > 2000
  · rw [cdec (show ((l.length : Int) > 2000) by omega), cond_true, if_pos hl]
  · rw [cdecF (show ¬ ((l.length : Int) > 2000) by omega), cond_false, if_neg hl, accel_ok, Option.bind_some]
    generalize inB a 1 100000000 = b
    refine Exists.elim (iter_ok (fun (x6 : (List PartD × Bool × Int × Unit)) => swarfref48_Valid_L0 k x6.1 x6.2.1 x6.2.2.1) (fun n (s : List PartD × Bool × Int × Unit) => ∃ i : Nat, s = (l, (b && (l.take i).all vP), (i : Int), ()) ∧ n + i = l.length)
      (fun x => x = ((b && l.all vP), ())) ?_ k l.length (l, b, 0, ()) (F.len (show l.length ≤ LM by rw [LM_val]; omega)) ⟨0, by simp, rfl⟩) ?_
    · rintro n s ⟨i, rfl, hn⟩
      simp only []
      unfold swarfref48_Valid_L0
      by_cases hi : i < l.length
      · rw [cdec (show ((i : Int) < (l.length : Int)) by omega), cond_true]
        left
        have hA := all_take (p := vP) hi
        have nx : IntKind.i64.wrap ((i : Int) + 1) = ((i + 1 : Nat) : Int) := by rw [wI64 (by omega) (by omega)]; rfl
        rw [nx, ixOk_of (by omega) (by omega), Int.toNat_natCast]
        have fin : ∀ t : Bool, t = (b && (l.take (i + 1)).all vP) → ∃ s' m, (some (Sum.inl (l, t, ((i + 1 : Nat) : Int), ())) : Option ((List PartD × Bool × Int × Unit) ⊕ (Bool × Unit))) = some (.inl s') ∧ m < n ∧ ∃ i : Nat, s' = (l, (b && (l.take i).all vP), (i : Int), ()) ∧ m + i = l.length := by
          rintro t rfl
          exact ⟨_, n - 1, rfl, by omega, i + 1, rfl, by omega⟩
        cases eb : (b && (l.take i).all vP) with
        | false => rw [cond_false]; exact fin _ (by rw [hA, ← Bool.and_assoc, eb, Bool.false_and])
        | true =>
          simp only [cond_true, long_ok, speed_ok, Option.bind_some]
          have hB : (b && (l.take (i + 1)).all vP) = vP (l.getD i default) := by rw [hA, ← Bool.and_assoc, eb, Bool.true_and]
          cases e1 : inB (l.getD i default).Length 0 100000000 with
          | false => rw [cond_false]; exact fin _ (by rw [hB, vP, e1, Bool.false_and])
          | true =>
            rw [cond_true]
            cases e2 : inB (l.getD i default).Speed 0 1000000 with
            | false =>
              rw [cond_false]
              refine fin _ ?_
              rw [hB, vP, e1]
              have : inB (l.getD i default).Speed 1 1000000 = false := by
                rw [Bool.eq_false_iff, Ne, inB_iff] at e2 ⊢; omega
              rw [this]; rfl
            | true =>
              rw [cond_true]
              rw [inB_iff] at e2
              by_cases e3 : (l.getD i default).Speed ≥ 1
              · rw [cdec e3, cond_true]
                refine fin _ ?_
                have : inB (l.getD i default).Speed 1 1000000 = true := by rw [inB_iff]; omega
                rw [hB, vP, e1, this]; rfl
              · rw [cdecF e3, cond_false]
                refine fin _ ?_
                have : inB (l.getD i default).Speed 1 1000000 = false := by rw [Bool.eq_false_iff, Ne, inB_iff]; omega
                rw [hB, vP, e1, this]; rfl
      · rw [cdecF (show ¬ ((i : Int) < (l.length : Int)) by omega), cond_false]
        right
        exact ⟨_, rfl, by rw [List.take_of_length_le (by omega)]⟩
    · rintro x ⟨hx, rfl⟩
      rw [hx, Option.bind_some]
      cases (b && l.all vP) <;> rfl
theorem vE_zero {l : List PartD} {a : Int} (h : vE l a = 0) : l.length ≤ 2000 ∧ (1 ≤ a ∧ a ≤ 100000000) ∧ l.all vP = true := by
  unfold vE at h
  by_cases hl : l.length > 2000
  · rw [if_pos hl] at h; omega
  · rw [if_neg hl] at h
    by_cases hb : (inB a 1 100000000 && l.all vP) = true
    · rw [Bool.and_eq_true, inB_iff] at hb
      exact ⟨by omega, hb.1, hb.2⟩
    · rw [if_neg hb] at h; omega
theorem all_getD {l : List PartD} (h : l.all vP = true) {i : Nat} (hi : i < l.length) : (0 ≤ (l.getD i default).Length ∧ (l.getD i default).Length ≤ 100000000) ∧ (1 ≤ (l.getD i default).Speed ∧ (l.getD i default).Speed ≤ 1000000) ∧ (0 ≤ (l.getD i default).Corner ∧ (l.getD i default).Corner ≤ 1000000) := by
  have h1 := List.all_eq_true.1 h _ (List.getElem_mem hi)
  rw [vP, Bool.and_eq_true, Bool.and_eq_true, inB_iff, inB_iff, inB_iff] at h1
  simpa [List.getD_eq_getElem?_getD, List.getElem?_eq_getElem hi] using h1
theorem of_ok {k : Nat} [F : Fuel k] (l : List PartD) (h : l.length * 24 ≤ 140737488355328) : swarflaw48_of k l = some l := by
  unfold swarflaw48_of
  have hb := bp_ge 14
  refine Exists.elim (iter_ok (fun (x2 : (List PartD × List PartD × Int × Int × Unit)) => swarflaw48_of_L0 k x2.1 x2.2.1 x2.2.2.1 x2.2.2.2.1) (fun n (s : List PartD × List PartD × Int × Int × Unit) => ∃ i : Nat, s = (l.take i, l, (l.length : Int), (i : Int), ()) ∧ n + i = l.length) (fun x => x = (l, ())) ?_ k l.length ([], l, (l.length : Int), 0, ()) (F.lt (m := 14) (by simp only [bp]; omega) (by rw [LM_val]; omega)) ⟨0, by simp, rfl⟩) ?_
  · rintro n s ⟨i, rfl, hn⟩
    simp only []
    unfold swarflaw48_of_L0
    by_cases hi : i < l.length
    · rw [cdec (show ((i : Int) < (l.length : Int)) by omega), cond_true, ixOk_of (by omega) (by omega), cond_true, Int.toNat_natCast]
      rw [cdec (by rw [List.length_take, List.length_singleton]; omega), cond_true]
      left
      refine ⟨_, n - 1, rfl, by omega, i + 1, ?_, by omega⟩
      rw [wI64 (by omega) (by omega), List.take_succ_eq_append_getElem hi]
      simp [List.getD_eq_getElem?_getD, List.getElem?_eq_getElem hi]
    · rw [cdecF (show ¬ ((i : Int) < (l.length : Int)) by omega), cond_false]
      right
      exact ⟨_, rfl, by rw [List.take_of_length_le (by omega)]⟩
  · rintro x ⟨hx, rfl⟩
    rw [hx]; rfl

/-! ### Feasible speeds -/
/-- What is asked of a part and the speeds at its ends. -/
def Fe (l : List PartD) (a : Int) (s : List Int) (i : Nat) : Prop :=
  (0 ≤ s.getD i 0 ∧ s.getD i 0 ≤ (l.getD i default).Speed) ∧ (0 ≤ s.getD (i + 1) 0 ∧ s.getD (i + 1) 0 ≤ (l.getD i default).Speed ∧ s.getD (i + 1) 0 ≤ (l.getD i default).Corner) ∧
  s.getD i 0 * s.getD i 0 - s.getD (i + 1) 0 * s.getD (i + 1) 0 ≤ 2 * a * (l.getD i default).Length ∧ s.getD (i + 1) 0 * s.getD (i + 1) 0 - s.getD i 0 * s.getD i 0 ≤ 2 * a * (l.getD i default).Length
instance (l a s i) : Decidable (Fe l a s i) := by unfold Fe; infer_instance
/-- Whether speeds are feasible. -/
def Feas (l : List PartD) (a : Int) (s : List Int) : Prop :=
  vE l a = 0 ∧ s.length = l.length + 1 ∧ s.getD 0 0 = 0 ∧ s.getD l.length 0 = 0 ∧ ∀ i, i < l.length → Fe l a s i
theorem sq_le {x c : Int} (h1 : 0 ≤ x) (h2 : x ≤ c) : 0 ≤ x * x ∧ x * x ≤ c * c := ⟨Int.mul_nonneg h1 h1, Int.mul_le_mul h2 h2 h1 (by omega)⟩
theorem al_le {a n : Int} (h1 : 1 ≤ a ∧ a ≤ 100000000) (h2 : 0 ≤ n ∧ n ≤ 100000000) : 0 ≤ 2 * a * n ∧ 2 * a * n ≤ 20000000000000000 := by
  have := Int.mul_nonneg (show 0 ≤ 2 * a by omega) h2.1
  have := Int.mul_le_mul (show 2 * a ≤ 200000000 by omega) h2.2 h2.1 (by omega)
  omega
/-- The loop of the program. -/
theorem feas_loop {k : Nat} [F : Fuel k] {l : List PartD} {a : Int} {s : List Int} (hv : vE l a = 0) (hs : s.length = l.length + 1) :
    ∃ x, iter (fun (x5 : (Int × List Int × List PartD × Int × Int × Unit)) => lookahead_Feasible_L0 k x5.1 x5.2.1 x5.2.2.1 x5.2.2.2.1 x5.2.2.2.2.1) k (a, s, l, (l.length : Int), 0, ()) = some x ∧
      ((x = .inl () ∧ ∀ i, i < l.length → Fe l a s i) ∨ (x = .inr (false, ()) ∧ ∃ i, i < l.length ∧ ¬ Fe l a s i)) := by
  obtain ⟨hl, ha, hp⟩ := vE_zero hv
  refine iter_ok _ (fun n (x : Int × List Int × List PartD × Int × Int × Unit) => ∃ i : Nat, x = (a, s, l, (l.length : Int), (i : Int), ()) ∧ n + i = l.length ∧ ∀ j, j < i → Fe l a s j) _ ?_ k l.length _ (F.len (show l.length ≤ LM by rw [LM_val]; omega)) ⟨0, rfl, rfl, by omega⟩
  rintro n x ⟨i, rfl, hn, ht⟩
  simp only []
  unfold lookahead_Feasible_L0
  by_cases hi : i < l.length
  · have nx : IntKind.i64.wrap ((i : Int) + 1) = ((i + 1 : Nat) : Int) := by rw [wI64 (by omega) (by omega)]; rfl
    rw [cdec (show ((i : Int) < (l.length : Int)) by omega), cond_true, ixOk_of (by omega) (by omega), cond_true, ixOk_of (by omega) (by omega), cond_true, nx, ixOk_of (by omega) (by omega), cond_true, Int.toNat_natCast, Int.toNat_natCast, within_ok, Option.bind_some, within_ok, Option.bind_some]
    obtain ⟨p1, p2, p3⟩ := all_getD hp hi
    have out : ¬ Fe l a s i → ∃ x : (Unit ⊕ (Bool × Unit)), (some (Sum.inr (Sum.inr (false, ()))) : Option ((Int × List Int × List PartD × Int × Int × Unit) ⊕ ((Unit) ⊕ (Bool × Unit)))) = some (.inr x) ∧ ((x = .inl () ∧ ∀ i, i < l.length → Fe l a s i) ∨ (x = .inr (false, ()) ∧ ∃ i, i < l.length ∧ ¬ Fe l a s i)) := fun e => ⟨_, rfl, Or.inr ⟨rfl, i, hi, e⟩⟩
    have hmin : ∀ x y : Int, (if x < y then x else y) ≤ y ∧ (if x < y then x else y) ≤ x ∧ ((if x < y then x else y) = x ∨ (if x < y then x else y) = y) := by intro x y; split <;> omega
    have hmax : ∀ x y : Int, (if y > x then y else x) ≥ y ∧ (if y > x then y else x) ≥ x ∧ ((if y > x then y else x) = x ∨ (if y > x then y else x) = y) := by intro x y; split <;> omega
    by_cases e1 : inB (s.getD i 0) 0 (l.getD i default).Speed = true
    · rw [e1, Bool.not_true, cond_false]
      rw [inB_iff] at e1
      obtain ⟨m1, m2, m3⟩ := hmin (l.getD i default).Corner (l.getD i default).Speed
      by_cases e2 : inB (s.getD (i + 1) 0) 0 (if (l.getD i default).Corner < (l.getD i default).Speed then (l.getD i default).Corner else (l.getD i default).Speed) = true
      · rw [e2, Bool.not_true, cond_false]
        rw [inB_iff] at e2
        have q1 := sq_le (c := 1000000) e1.1 (by omega)
        have q2 := sq_le (c := 1000000) e2.1 (by omega)
        have q3 := al_le ha p1
        rw [wI64 (x := s.getD i 0 * s.getD i 0) (by omega) (by omega), wI64 (x := s.getD (i + 1) 0 * s.getD (i + 1) 0) (by omega) (by omega), wI64 (x := 2 * a) (by omega) (by omega)]
        generalize eA : s.getD i 0 * s.getD i 0 = A at *
        generalize eB : s.getD (i + 1) 0 * s.getD (i + 1) 0 = B at *
        generalize eC : 2 * a * (l.getD i default).Length = C at *
        rw [wI64 (x := A - B) (by omega) (by omega), wI64 (x := 0 - (A - B)) (by omega) (by omega), wI64 (x := C) (by omega) (by omega)]
        obtain ⟨n1, n2, n3⟩ := hmax (A - B) (0 - (A - B))
        by_cases e3 : (if 0 - (A - B) > A - B then 0 - (A - B) else A - B) > C
        · rw [cdec e3, cond_true]
          right
          refine out ?_
          rintro ⟨_, _, h3, h4⟩
          rw [eA, eB, eC] at h3 h4
          omega
        · rw [cdecF e3, cond_false]
          left
          refine ⟨_, n - 1, rfl, by omega, i + 1, rfl, by omega, ?_⟩
          intro j hj
          by_cases hji : j = i
          · subst hji
            exact ⟨e1, ⟨e2.1, by omega, by omega⟩, by rw [eA, eB, eC]; omega, by rw [eA, eB, eC]; omega⟩
          · exact ht j (by omega)
      · rw [Bool.eq_false_iff.2 e2]
        right
        refine out ?_
        rintro ⟨_, h2, _⟩
        exact e2 (inB_iff.2 (by omega))
    · rw [Bool.eq_false_iff.2 e1]
      right
      refine out ?_
      rintro ⟨h1, _⟩
      exact e1 (inB_iff.2 h1)
  · rw [cdecF (show ¬ ((i : Int) < (l.length : Int)) by omega), cond_false]
    right
    exact ⟨_, rfl, Or.inl ⟨rfl, fun j hj => ht j (by omega)⟩⟩
/-- The loop of the reference: the speeds are not too great to be squared. -/
theorem rfeas_loop {k : Nat} [F : Fuel k] {l : List PartD} {a : Int} {s : List Int} (hv : vE l a = 0) (hs : s.length = l.length + 1) :
    ∃ x, iter (fun (x3 : (List PartD × Int × List Int × Int × Unit)) => swarfref48_Feasible_L0 k x3.1 x3.2.1 x3.2.2.1 x3.2.2.2.1) k (l, a, s, 0, ()) = some x ∧
      ((x = .inl () ∧ ∀ i, i < l.length → Fe l a s i) ∨ (x = .inr (false, ()) ∧ ∃ i, i < l.length ∧ ¬ Fe l a s i)) := by
  obtain ⟨hl, ha, hp⟩ := vE_zero hv
  refine iter_ok _ (fun n (x : List PartD × Int × List Int × Int × Unit) => ∃ i : Nat, x = (l, a, s, (i : Int), ()) ∧ n + i = l.length ∧ ∀ j, j < i → Fe l a s j) _ ?_ k l.length _ (F.len (show l.length ≤ LM by rw [LM_val]; omega)) ⟨0, rfl, rfl, by omega⟩
  rintro n x ⟨i, rfl, hn, ht⟩
  simp only []
  unfold swarfref48_Feasible_L0
  by_cases hi : i < l.length
  · have nx : IntKind.i64.wrap ((i : Int) + 1) = ((i + 1 : Nat) : Int) := by rw [wI64 (by omega) (by omega)]; rfl
    rw [cdec (show ((i : Int) < (l.length : Int)) by omega), cond_true, nx, ixOk_of (n := s.length) (by omega) (by omega), cond_true, ixOk_of (n := s.length) (by omega) (by omega), cond_true, ixOk_of (n := l.length) (by omega) (by omega), Int.toNat_natCast, Int.toNat_natCast]
    simp only [cond_true]
    obtain ⟨p1, p2, p3⟩ := all_getD hp hi
    have out : ¬ Fe l a s i → ∃ x : (Unit ⊕ (Bool × Unit)), (some (Sum.inr (Sum.inr (false, ()))) : Option ((List PartD × Int × List Int × Int × Unit) ⊕ ((Unit) ⊕ (Bool × Unit)))) = some (.inr x) ∧ ((x = .inl () ∧ ∀ i, i < l.length → Fe l a s i) ∨ (x = .inr (false, ()) ∧ ∃ i, i < l.length ∧ ¬ Fe l a s i)) := fun e => ⟨_, rfl, Or.inr ⟨rfl, i, hi, e⟩⟩
    by_cases e1 : s.getD i 0 < 0
    · rw [cdec e1, cond_true]; right; refine out ?_; rintro ⟨h1, _⟩; omega
    rw [cdecF e1, cond_false]
    by_cases e2 : s.getD (i + 1) 0 < 0
    · rw [cdec e2, cond_true]; right; refine out ?_; rintro ⟨h1, h2, _⟩; omega
    rw [cdecF e2, cond_false]
    by_cases e3 : s.getD i 0 > (l.getD i default).Speed
    · rw [cdec e3, cond_true]; right; refine out ?_; rintro ⟨h1, h2, _⟩; omega
    rw [cdecF e3, cond_false]
    by_cases e4 : s.getD (i + 1) 0 > (l.getD i default).Speed
    · rw [cdec e4, cond_true]; right; refine out ?_; rintro ⟨h1, h2, _⟩; omega
    rw [cdecF e4, cond_false]
    by_cases e5 : s.getD (i + 1) 0 > (l.getD i default).Corner
    · rw [cdec e5, cond_true]; right; refine out ?_; rintro ⟨h1, h2, _⟩; omega
    rw [cdecF e5, cond_false]
    have q1 := sq_le (x := s.getD i 0) (c := 1000000) (by omega) (by omega)
    have q2 := sq_le (x := s.getD (i + 1) 0) (c := 1000000) (by omega) (by omega)
    have q3 := al_le ha p1
    rw [wI64 (x := s.getD i 0 * s.getD i 0) (by omega) (by omega), wI64 (x := s.getD (i + 1) 0 * s.getD (i + 1) 0) (by omega) (by omega), wI64 (x := 2 * a) (by omega) (by omega)]
    generalize eA : s.getD i 0 * s.getD i 0 = A at *
    generalize eB : s.getD (i + 1) 0 * s.getD (i + 1) 0 = B at *
    generalize eC : 2 * a * (l.getD i default).Length = C at *
    rw [wI64 (x := A - B) (by omega) (by omega), wI64 (x := 0 - (A - B)) (by omega) (by omega), wI64 (x := C) (by omega) (by omega)]
    by_cases e6 : A - B > C
    · rw [cdec e6, cond_true]; right; refine out ?_; rintro ⟨_, _, h3, h4⟩; rw [eA, eB, eC] at h3; omega
    rw [cdecF e6, cond_false]
    by_cases e7 : 0 - (A - B) > C
    · rw [cdec e7, cond_true]; right; refine out ?_; rintro ⟨_, _, h3, h4⟩; rw [eA, eB, eC] at h4; omega
    rw [cdecF e7, cond_false]
    left
    refine ⟨_, n - 1, rfl, by omega, i + 1, rfl, by omega, ?_⟩
    intro j hj
    by_cases hji : j = i
    · subst hji
      exact ⟨⟨by omega, by omega⟩, ⟨by omega, by omega, by omega⟩, by rw [eA, eB, eC]; omega, by rw [eA, eB, eC]; omega⟩
    · exact ht j (by omega)
  · rw [cdecF (show ¬ ((i : Int) < (l.length : Int)) by omega), cond_false]
    right
    exact ⟨_, rfl, Or.inl ⟨rfl, fun j hj => ht j (by omega)⟩⟩
open Classical in
theorem feas_ok {k : Nat} [F : Fuel k] (l : List PartD) (a : Int) (s : List Int) : lookahead_Feasible k l a s = some (decide (Feas l a s)) := by
  unfold lookahead_Feasible
  rw [valid_ok, Option.bind_some]
  by_cases hv : vE l a = 0
  · obtain ⟨hl, _, _⟩ := vE_zero hv
    have hv' : (vE l a != 0) = false := by rw [hv]; rfl
    rw [hv', cond_false, wI64 (by omega) (by omega)]
    by_cases hs : s.length = l.length + 1
    · rw [show ((s.length : Int) != (l.length : Int) + 1) = false by rw [bne_eq_false_iff_eq]; omega, cond_false, ixOk_of (by omega) (by omega), cond_true]
      by_cases h0 : s.getD 0 0 = 0
      · rw [show (s.getD 0 0 != 0) = false by rw [bne_eq_false_iff_eq]; exact h0, cond_false, ixOk_of (by omega) (by omega), cond_true, Int.toNat_natCast]
        by_cases h1 : s.getD l.length 0 = 0
        · rw [show (s.getD l.length 0 != 0) = false by rw [bne_eq_false_iff_eq]; exact h1, cond_false]
          obtain ⟨x, hx, ⟨rfl, h⟩ | ⟨rfl, i, hi, h⟩⟩ := feas_loop (k := k) hv hs
          · rw [hx, Option.bind_some]; exact congrArg some (decide_eq_true (show Feas l a s from ⟨hv, hs, h0, h1, h⟩)).symm
          · rw [hx, Option.bind_some]; exact congrArg some (decide_eq_false (show ¬ Feas l a s from fun e => h (e.2.2.2.2 i hi))).symm
        · rw [show (s.getD l.length 0 != 0) = true by rw [bne_iff_ne]; exact h1, cond_true, decide_eq_false (show ¬ Feas l a s from fun e => h1 e.2.2.2.1)]
      · rw [show (s.getD 0 0 != 0) = true by rw [bne_iff_ne]; exact h0, cond_true, decide_eq_false (show ¬ Feas l a s from fun e => h0 e.2.2.1)]
    · rw [show ((s.length : Int) != (l.length : Int) + 1) = true by rw [bne_iff_ne]; omega, cond_true, decide_eq_false (show ¬ Feas l a s from fun e => hs e.2.1)]
  · rw [show (vE l a != 0) = true by rw [bne_iff_ne]; exact hv, cond_true, decide_eq_false (show ¬ Feas l a s from fun e => hv e.1)]
open Classical in
theorem rfeas_ok {k : Nat} [F : Fuel k] (l : List PartD) (a : Int) (s : List Int) : swarfref48_Feasible k l a s = some (decide (Feas l a s)) := by
  unfold swarfref48_Feasible
  rw [rvalid_ok, Option.bind_some]
  by_cases hv : vE l a = 0
  · obtain ⟨hl, _, _⟩ := vE_zero hv
    have hv' : (vE l a != 0) = false := by rw [hv]; rfl
    rw [hv', cond_false, wI64 (by omega) (by omega)]
    by_cases hs : s.length = l.length + 1
    · rw [show ((s.length : Int) != (l.length : Int) + 1) = false by rw [bne_eq_false_iff_eq]; omega, cond_false, ixOk_of (by omega) (by omega), cond_true]
      by_cases h0 : s.getD 0 0 = 0
      · rw [show (s.getD 0 0 != 0) = false by rw [bne_eq_false_iff_eq]; exact h0, cond_false, ixOk_of (by omega) (by omega), cond_true, Int.toNat_natCast]
        by_cases h1 : s.getD l.length 0 = 0
        · rw [show (s.getD l.length 0 != 0) = false by rw [bne_eq_false_iff_eq]; exact h1, cond_false]
          obtain ⟨x, hx, ⟨rfl, h⟩ | ⟨rfl, i, hi, h⟩⟩ := rfeas_loop (k := k) hv hs
          · rw [hx, Option.bind_some]; exact congrArg some (decide_eq_true (show Feas l a s from ⟨hv, hs, h0, h1, h⟩)).symm
          · rw [hx, Option.bind_some]; exact congrArg some (decide_eq_false (show ¬ Feas l a s from fun e => h (e.2.2.2.2 i hi))).symm
        · rw [show (s.getD l.length 0 != 0) = true by rw [bne_iff_ne]; exact h1, cond_true, decide_eq_false (show ¬ Feas l a s from fun e => h1 e.2.2.2.1)]
      · rw [show (s.getD 0 0 != 0) = true by rw [bne_iff_ne]; exact h0, cond_true, decide_eq_false (show ¬ Feas l a s from fun e => h0 e.2.2.1)]
    · rw [show ((s.length : Int) != (l.length : Int) + 1) = true by rw [bne_iff_ne]; omega, cond_true, decide_eq_false (show ¬ Feas l a s from fun e => hs e.2.1)]
  · rw [show (vE l a != 0) = true by rw [bne_iff_ne]; exact hv, cond_true, decide_eq_false (show ¬ Feas l a s from fun e => hv e.1)]
end Go.Proofs.YtbjkpogfgijmaaaGreat
