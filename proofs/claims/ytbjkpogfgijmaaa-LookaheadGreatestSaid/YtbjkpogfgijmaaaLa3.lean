/- Plain laws: the reference's fixed point of the speeds (chapter 48). -/
import Derived.Test.YtbjkpogfgijmaaaLa2
namespace Go.Proofs.Ytbjkpogfgijmaaa
open Go
set_option linter.unusedVariables false
set_option linter.unusedSimpArgs false

/-- The sum of a list. -/
def sm : List Int → Int
  | [] => 0
  | x :: r => x + sm r
theorem sm_set : ∀ (l : List Int) (i : Nat) (x : Int), i < l.length → sm (l.set i x) = sm l + (x - l.getD i 0)
  | [], i, x, h => by simp at h
  | y :: r, 0, x, h => by simp [sm]; omega
  | y :: r, i + 1, x, h => by
    simp only [List.set_cons_succ, sm, sm_set r i x (by simpa using h), List.getD_cons_succ]; omega
theorem sm_le : ∀ (l : List Int), (∀ i, 0 ≤ l.getD i 0 ∧ l.getD i 0 ≤ 1000000) → 0 ≤ sm l ∧ sm l ≤ 1000000 * (l.length : Int)
  | [], h => by simp [sm]
  | y :: r, h => by
    have h0 := h 0
    have := sm_le r (fun i => by have := h (i + 1); rwa [List.getD_cons_succ] at this)
    rw [List.getD_cons_zero] at h0
    simp only [sm, List.length_cons]
    omega
/-- Speeds on the way: above every closed list. -/
structure Wz (l : List PartD) (a : Int) (s : List Int) : Prop where
  len : s.length = l.length + 1
  lo : ∀ i, 0 ≤ s.getD i 0
  hi : ∀ i, s.getD i 0 ≤ cap l i
  top : ∀ t, Cl l a t → ∀ i, t.getD i 0 ≤ s.getD i 0
section
variable {l : List PartD} {a : Int}
theorem cap_loop {k : Nat} [F : Fuel k] (hv : vE l a = 0) :
    ∃ x, iter (fun (x3 : (List PartD × Int × List Int × Int × Unit)) => swarfref48_Speeds_L0 k x3.1 x3.2.1 x3.2.2.1 x3.2.2.2.1) k (l, a, List.replicate (l.length + 1) (0 : Int), 1, ()) = some x ∧ ∃ s, x = (l, a, s, ()) ∧ Wz l a s := by
  obtain ⟨hl, ha, hp⟩ := vE_zero hv
  refine iter_ok _ (fun n (x : List PartD × Int × List Int × Int × Unit) => ∃ (i : Nat) (s : List Int), x = (l, a, s, ((i + 1 : Nat) : Int), ()) ∧ n = l.length - i ∧ s.length = l.length + 1 ∧ (∀ j, j ≤ i → s.getD j 0 = cap l j) ∧ (∀ j, i < j → s.getD j 0 = 0)) _ ?_ k l.length _ (F.len (show l.length ≤ LM by rw [LM_val]; omega))
    ⟨0, _, rfl, by omega, List.length_replicate, fun j h => by rw [getD_replicate, show j = 0 by omega, cap_zero], fun j _ => getD_replicate _ _⟩
  rintro n x ⟨i, s, rfl, hn, hs, h1, h2⟩
  simp only []
  unfold swarfref48_Speeds_L0
  by_cases hi : i + 1 < l.length
  · left
    rw [cdec (show (((i + 1 : Nat) : Int) < (l.length : Int)) by omega), cond_true]
    have e1 : IntKind.i64.wrap (((i + 1 : Nat) : Int) - 1) = (i : Int) := by rw [wI64 (by omega) (by omega)]; omega
    have e2 : IntKind.i64.wrap (((i + 1 : Nat) : Int) + 1) = ((i + 1 + 1 : Nat) : Int) := by rw [wI64 (by omega) (by omega)]; omega
    rw [e1, e2, ixOk_of (i := (i : Int)) (n := l.length) (by omega) (by omega), ixOk_of (i := ((i + 1 : Nat) : Int)) (n := l.length) (by omega) (by omega), ixOk_of (i := ((i + 1 : Nat) : Int)) (n := s.length) (by omega) (by omega)]
    simp only [cond_true, Int.toNat_natCast]
    have hC := cap_succ hi
    have hval : (if (l.getD (i + 1) default).Speed < (if (l.getD i default).Speed < (l.getD i default).Corner then (l.getD i default).Speed else (l.getD i default).Corner) then (l.getD (i + 1) default).Speed else (if (l.getD i default).Speed < (l.getD i default).Corner then (l.getD i default).Speed else (l.getD i default).Corner)) = cap l (i + 1) := by
      rw [hC]
      by_cases c1 : (l.getD i default).Speed < (l.getD i default).Corner
      · rw [if_pos c1]
        by_cases c2 : (l.getD (i + 1) default).Speed < (l.getD i default).Speed
        · rw [if_pos c2]; omega
        · rw [if_neg c2]; omega
      · rw [if_neg c1]
        by_cases c2 : (l.getD (i + 1) default).Speed < (l.getD i default).Corner
        · rw [if_pos c2]; omega
        · rw [if_neg c2]; omega
    rw [hval]
    refine ⟨_, l.length - (i + 1), rfl, by omega, i + 1, _, rfl, rfl, by rw [List.length_set, hs], ?_, ?_⟩
    · intro j hj
      rw [getD_set _ _ _ _ (by omega)]
      split
      · rename_i e; rw [e]
      · exact h1 j (by omega)
    · intro j hj
      rw [getD_set _ _ _ _ (by omega), if_neg (by omega)]
      exact h2 j (by omega)
  · right
    rw [cdecF (show ¬ (((i + 1 : Nat) : Int) < (l.length : Int)) by omega), cond_false]
    have hc : ∀ j, s.getD j 0 = cap l j := by
      intro j
      by_cases c : j ≤ i
      · exact h1 j c
      · rw [h2 j (by omega), cap_out (by omega)]
    exact ⟨_, rfl, s, rfl, hs, fun j => by rw [hc]; exact (cap_ge hp j).1, fun j => by rw [hc]; exact Int.le_refl _, fun t c j => by rw [hc]; exact c.hi j⟩
/-- One pass. -/
theorem pass_loop {k : Nat} [F : Fuel k] (hv : vE l a = 0) {s : List Int} (w : Wz l a s) :
    ∃ x, iter (fun (x7 : (List PartD × Int × List Int × Bool × Int × Unit)) => swarfref48_Speeds_L4 k x7.1 x7.2.1 x7.2.2.1 x7.2.2.2.1 x7.2.2.2.2.1) k (l, a, s, false, 0, ()) = some x ∧
      ∃ s' b, x = (l, a, s', b, ()) ∧ Wz l a s' ∧ (b = true → sm s' < sm s) ∧ (b = false → s' = s ∧ Cl l a s) := by
  obtain ⟨hl, ha, hp⟩ := vE_zero hv
  refine iter_ok _ (fun n (x : List PartD × Int × List Int × Bool × Int × Unit) => ∃ (i : Nat) (s' : List Int) (b : Bool), x = (l, a, s', b, (i : Int), ()) ∧ n + i = l.length ∧ Wz l a s' ∧ (b = true → sm s' < sm s) ∧ (b = false → s' = s ∧ ∀ j, j < i → s.getD (j + 1) 0 ≤ to l a (s.getD j 0) j ∧ s.getD j 0 ≤ to l a (s.getD (j + 1) 0) j)) _ ?_ k l.length _ (F.len (show l.length ≤ LM by rw [LM_val]; omega))
    ⟨0, s, false, rfl, rfl, w, (fun h => by cases h), fun _ => ⟨rfl, fun j h => by omega⟩⟩
  rintro n x ⟨i, s', b, rfl, hn, w', hb1, hb0⟩
  simp only []
  unfold swarfref48_Speeds_L4
  have hs := w'.len
  by_cases hi : i < l.length
  · left
    have e2 : IntKind.i64.wrap ((i : Int) + 1) = ((i + 1 : Nat) : Int) := by rw [wI64 (by omega) (by omega)]; omega
    rw [cdec (show ((i : Int) < (l.length : Int)) by omega), cond_true, e2]
    simp only [List.length_set]
    rw [ixOk_of (i := (i : Int)) (n := l.length) (by omega) (by omega), ixOk_of (i := ((i + 1 : Nat) : Int)) (n := s'.length) (by omega) (by omega), ixOk_of (i := (i : Int)) (n := s'.length) (by omega) (by omega)]
    simp only [cond_true, Int.toNat_natCast]
    have p := all_getD hp hi
    have c0 := cap_ge hp i
    have c1 := cap_ge hp (i + 1)
    have l0 := w'.lo i
    have l1 := w'.lo (i + 1)
    have u0 := w'.hi i
    have u1 := w'.hi (i + 1)
    rw [rafter_ok ⟨l0, by omega⟩ p.1 ha, Option.bind_some]
    have hN0 : 0 ≤ to l a (s'.getD i 0) i := isq_nonneg _
    have hA : (if nxt (s'.getD i 0) (l.getD i default).Length a < s'.getD (i + 1) 0 then nxt (s'.getD i 0) (l.getD i default).Length a else s'.getD (i + 1) 0) = min (s'.getD (i + 1) 0) (to l a (s'.getD i 0) i) := by
      unfold to
      by_cases c1 : nxt (s'.getD i 0) (l.getD i default).Length a < s'.getD (i + 1) 0
      · rw [if_pos c1]; omega
      · rw [if_neg c1]; omega
    rw [hA]
    generalize hAe : min (s'.getD (i + 1) 0) (to l a (s'.getD i 0) i) = A
    have g1 : (s'.set (i + 1) A).getD (i + 1) 0 = A := by rw [getD_set _ _ _ _ (by omega), if_pos rfl]
    rw [g1, rafter_ok ⟨by omega, by omega⟩ p.1 ha, Option.bind_some]
    have hN1 : 0 ≤ to l a A i := isq_nonneg _
    have hB : (if nxt A (l.getD i default).Length a < s'.getD i 0 then nxt A (l.getD i default).Length a else s'.getD i 0) = min (s'.getD i 0) (to l a A i) := by
      unfold to
      by_cases c1 : nxt A (l.getD i default).Length a < s'.getD i 0
      · rw [if_pos c1]; omega
      · rw [if_neg c1]; omega
    rw [hB]
    generalize hBe : min (s'.getD i 0) (to l a A i) = B
    generalize hs2 : (s'.set (i + 1) A).set i B = s2
    have gs : ∀ j, s2.getD j 0 = if i = j then B else if i + 1 = j then A else s'.getD j 0 := by
      intro j
      rw [← hs2, getD_set _ _ _ _ (by rw [List.length_set]; omega), getD_set _ _ _ _ (by omega)]
    have gsi : s2.getD i 0 = B := by rw [gs, if_pos rfl]
    have gsi1 : s2.getD (i + 1) 0 = A := by rw [gs, if_neg (by omega), if_pos rfl]
    rw [gsi, gsi1]
    have len2 : s2.length = l.length + 1 := by rw [← hs2, List.length_set, List.length_set, hs]
    have w2 : Wz l a s2 := by
      refine ⟨len2, ?_, ?_, ?_⟩
      · intro j
        rw [gs]; split
        · omega
        · split
          · omega
          · exact w'.lo j
      · intro j
        rw [gs]; split
        · rename_i e; subst e; omega
        · split
          · rename_i e; subst e; omega
          · exact w'.hi j
      · intro t c j
        have k1 := c.up i hi
        have k2 := c.down i hi
        have k3 := to_mono ha hp hi (c.lo i) (w'.top t c i)
        have k4 := w'.top t c (i + 1)
        have k5 : t.getD (i + 1) 0 ≤ A := by omega
        have k6 := to_mono ha hp hi (c.lo (i + 1)) k5
        have k7 := w'.top t c i
        rw [gs]; split
        · rename_i e; subst e; omega
        · split
          · rename_i e; subst e; omega
          · exact w'.top t c j
    have sum2 : sm s2 = sm s' + (A - s'.getD (i + 1) 0) + (B - s'.getD i 0) := by
      rw [← hs2, sm_set _ _ _ (by rw [List.length_set]; omega), sm_set _ _ _ (by omega), getD_set _ _ _ _ (by omega), if_neg (by omega)]
    have same : B = s'.getD i 0 → A = s'.getD (i + 1) 0 → s2 = s' := by
      intro eB eA
      apply list_ext (by omega)
      intro j
      rw [gs]; split
      · rename_i e; subst e; exact eB
      · split
        · rename_i e; subst e; exact eA
        · rfl
    have fin : ∀ b' : Bool, b' = (b || (decide (B ≠ s'.getD i 0) || decide (A ≠ s'.getD (i + 1) 0))) →
        ∃ s'_1 m, (some (Sum.inl (l, a, s2, b', ((i + 1 : Nat) : Int), ())) : Option ((List PartD × Int × List Int × Bool × Int × Unit) ⊕ (List PartD × Int × List Int × Bool × Unit))) = some (Sum.inl s'_1) ∧ m < n ∧
          ∃ (i : Nat) (s' : List Int) (b : Bool), s'_1 = (l, a, s', b, (i : Int), ()) ∧ m + i = l.length ∧ Wz l a s' ∧ (b = true → sm s' < sm s) ∧ (b = false → s' = s ∧ ∀ j, j < i → s.getD (j + 1) 0 ≤ to l a (s.getD j 0) j ∧ s.getD j 0 ≤ to l a (s.getD (j + 1) 0) j) := by
      rintro b' hb'
      refine ⟨_, n - 1, rfl, by omega, i + 1, s2, b', rfl, by omega, w2, ?_, ?_⟩
      · intro e
        rw [e] at hb'
        have hb' := hb'.symm
        rw [Bool.or_eq_true, Bool.or_eq_true, decide_eq_true_iff, decide_eq_true_iff] at hb'
        cases b with
        | true => have := hb1 rfl; omega
        | false =>
          obtain ⟨e1, _⟩ := hb0 rfl
          rw [e1] at sum2 hb' hAe hBe
          rcases hb' with h | h | h
          · cases h
          · omega
          · omega
      · intro e
        rw [e] at hb'
        have hb' := hb'.symm
        rw [Bool.or_eq_false_iff, Bool.or_eq_false_iff, decide_eq_false_iff_not, decide_eq_false_iff_not, Decidable.not_not, Decidable.not_not] at hb'
        obtain ⟨hbf, eB, eA⟩ := hb'
        obtain ⟨e1, e3⟩ := hb0 hbf
        refine ⟨by rw [same eB eA, e1], ?_⟩
        intro j hj
        by_cases c : j < i
        · exact e3 j c
        · have : j = i := by omega
          subst this
          rw [← e1]
          rw [eA] at hBe
          constructor
          · omega
          · omega
    cases b with
    | true => rw [cond_true]; exact fin true rfl
    | false =>
      rw [cond_false]
      by_cases eB : B = s'.getD i 0
      · rw [show (B != s'.getD i 0) = false by rw [bne_eq_false_iff_eq]; exact eB, cond_false]
        refine fin _ ?_
        rw [decide_eq_false (show ¬ B ≠ s'.getD i 0 by rw [Decidable.not_not]; exact eB)]
        rw [Bool.false_or, Bool.false_or]
        by_cases eA : A = s'.getD (i + 1) 0
        · rw [decide_eq_false (show ¬ A ≠ s'.getD (i + 1) 0 by rw [Decidable.not_not]; exact eA), bne_eq_false_iff_eq]; exact eA
        · rw [decide_eq_true (show A ≠ s'.getD (i + 1) 0 from eA), bne_iff_ne]; exact eA
      · rw [show (B != s'.getD i 0) = true by rw [bne_iff_ne]; exact eB, cond_true]
        refine fin _ ?_
        rw [decide_eq_true (show B ≠ s'.getD i 0 from eB)]; rfl
  · right
    rw [cdecF (show ¬ ((i : Int) < (l.length : Int)) by omega), cond_false]
    refine ⟨_, rfl, s', b, rfl, w', hb1, ?_⟩
    intro hb
    obtain ⟨e1, e2⟩ := hb0 hb
    rw [e1] at w'
    exact ⟨e1, w'.len, w'.lo, w'.hi, fun j hj => (e2 j (by omega)).1, fun j hj => (e2 j (by omega)).2⟩
theorem fix_loop {k : Nat} [F : Fuel k] (hv : vE l a = 0) {s : List Int} (w : Wz l a s) :
    ∃ x, iter (fun (x9 : (List PartD × Int × List Int × Bool × Unit)) => swarfref48_Speeds_L2 k x9.1 x9.2.1 x9.2.2.1 x9.2.2.2.1) k (l, a, s, true, ()) = some x ∧ ∃ s, x = (s, ()) ∧ Top l a s := by
  obtain ⟨hl, ha, hp⟩ := vE_zero hv
  have sb : ∀ s, Wz l a s → 0 ≤ sm s ∧ sm s ≤ 2001000000 := by
    intro s w
    have := sm_le s (fun i => by have := w.lo i; have := w.hi i; have := cap_ge hp i; omega)
    have := w.len
    omega
  refine iter_ok _ (fun n (x : List PartD × Int × List Int × Bool × Unit) => ∃ (s : List Int) (b : Bool), x = (l, a, s, b, ()) ∧ n = (sm s).toNat + (if b = true then 1 else 0) ∧ Wz l a s ∧ (b = false → Cl l a s)) _ ?_ k ((sm s).toNat + 1) _ (F.lt (m := 2) (by have := sb s w; simp only [bp]; omega) (by rw [LM_val]; omega))
    ⟨s, true, rfl, rfl, w, fun h => by cases h⟩
  rintro n x ⟨s, b, rfl, hn, w, hc⟩
  simp only []
  unfold swarfref48_Speeds_L2
  cases b with
  | false =>
    right
    rw [cond_false]
    exact ⟨_, rfl, s, rfl, hc rfl, w.top⟩
  | true =>
    left
    rw [cond_true]
    obtain ⟨x, hx, s', b, rfl, w', h1, h0⟩ := pass_loop (k := k) hv w
    rw [hx, Option.bind_some]
    have g1 := sb s w
    have g2 := sb s' w'
    rw [if_pos rfl] at hn
    refine ⟨_, (sm s').toNat + (if b = true then 1 else 0), rfl, ?_, s', b, rfl, rfl, w', ?_⟩
    · cases b with
      | true => have := h1 rfl; rw [if_pos rfl]; omega
      | false => obtain ⟨e, _⟩ := h0 rfl; rw [e, if_neg (by decide)]; omega
    · intro e; obtain ⟨e1, e2⟩ := h0 e; rw [e1]; exact e2
/-- The speeds of the reference. -/
theorem rspeeds_ok {k : Nat} [F : Fuel k] (l : List PartD) (a : Int) : (vE l a ≠ 0 ∧ swarfref48_Speeds k l a = some ([], vE l a)) ∨ (vE l a = 0 ∧ ∃ s, swarfref48_Speeds k l a = some (s, 0) ∧ Top l a s) := by
  unfold swarfref48_Speeds
  rw [rvalid_ok, Option.bind_some]
  by_cases hv : vE l a = 0
  · right
    refine ⟨hv, ?_⟩
    obtain ⟨hl, ha, hp⟩ := vE_zero hv
    rw [hv]
    have e : ((0 : Int) != 0) = false := rfl
    rw [e, cond_false, wI64 (by omega) (by omega), cdec (by omega), cdec (by omega), cdec (by omega)]
    have e2 : ((l.length : Int) + 1).toNat = l.length + 1 := by omega
    rw [e2]
    obtain ⟨x, hx, s, rfl, w⟩ := cap_loop (k := k) hv
    simp only [Bool.and_self, cond_true]
    rw [hx, Option.bind_some]
    simp only []
    obtain ⟨y, hy, t, rfl, w⟩ := fix_loop (k := k) hv w
    rw [hy, Option.bind_some]
    exact ⟨t, rfl, w⟩
  · left
    refine ⟨hv, ?_⟩
    rw [show (vE l a != 0) = true by rw [bne_iff_ne]; exact hv, cond_true]
end
/-- The speeds of the program are those of the reference. -/
theorem speeds_same {k : Nat} [F : Fuel k] (l : List PartD) (a : Int) : ∃ s e, lookahead_Speeds k l a = some (s, e) ∧ swarfref48_Speeds k l a = some (s, e) ∧ ((e ≠ 0 ∧ s = []) ∨ (e = 0 ∧ vE l a = 0 ∧ Top l a s)) := by
  rcases speeds_ok (k := k) l a with ⟨h, e⟩ | ⟨h, s, e, w⟩
  · rcases rspeeds_ok (k := k) l a with ⟨_, e'⟩ | ⟨h', _⟩
    · exact ⟨_, _, e, e', Or.inl ⟨h, rfl⟩⟩
    · exact absurd h' h
  · rcases rspeeds_ok (k := k) l a with ⟨h', _⟩ | ⟨_, s', e', w'⟩
    · exact absurd h h'
    · rw [← w.eq w'] at e'
      exact ⟨s, 0, e, e', Or.inr ⟨rfl, h, w⟩⟩
/-- Equal lists are equal. -/
theorem equal_self {k : Nat} [F : Fuel k] (s : List Int) (h : s.length ≤ LM) : slices_Equal k s s = some true := by
  unfold slices_Equal
  rw [show ((s.length : Int) != (s.length : Int)) = false by rw [bne_eq_false_iff_eq], cond_false]
  rw [LM_val] at h
  refine Exists.elim (iter_ok (fun (x2 : (List Int × List Int × Int × Int × Unit)) => slices_Equal_L0 k x2.1 x2.2.1 x2.2.2.1 x2.2.2.2.1) (fun n (x : List Int × List Int × Int × Int × Unit) => ∃ i : Nat, x = (s, s, (s.length : Int), (i : Int), ()) ∧ n + i = s.length)
    (fun x => x = .inl ()) ?_ k s.length (s, s, (s.length : Int), 0, ()) (F.len (show s.length ≤ LM by rw [LM_val]; omega)) ⟨0, rfl, rfl⟩) ?_
  · rintro n x ⟨i, rfl, hn⟩
    simp only []
    unfold slices_Equal_L0
    by_cases hi : i < s.length
    · rw [cdec (show ((i : Int) < (s.length : Int)) by omega), cond_true, ixOk_of (by omega) (by omega), cond_true, cond_true]
      left
      rw [show (s.getD (i : Int).toNat 0 != s.getD (i : Int).toNat 0) = false by rw [bne_eq_false_iff_eq], cond_false]
      refine ⟨_, n - 1, rfl, by omega, i + 1, ?_, by omega⟩
      rw [wI64 (by omega) (by omega)]; rfl
    · rw [cdecF (show ¬ ((i : Int) < (s.length : Int)) by omega), cond_false]
      right
      exact ⟨_, rfl, rfl⟩
  · rintro x ⟨hx, rfl⟩
    rw [hx]; rfl
end Go.Proofs.Ytbjkpogfgijmaaa
