/- Plain laws: the greatest feasible speeds, by the program's two passes and by the reference's fixed point (chapter 48). -/
import Derived.Test.YtbjkpogfgijmaaaLa1
namespace Go.Proofs.Ytbjkpogfgijmaaa
open Go
set_option linter.unusedVariables false
set_option linter.unusedSimpArgs false

/-- The limit of the speed at a place. -/
def cap (l : List PartD) (i : Nat) : Int := if i = 0 ∨ l.length ≤ i then 0 else min (min (l.getD (i - 1) default).Speed (l.getD (i - 1) default).Corner) (l.getD i default).Speed
/-- The greatest speed at the other end of a part. -/
def to (l : List PartD) (a : Int) (v : Int) (i : Nat) : Int := nxt v (l.getD i default).Length a
/-- Closed speeds: feasible ones, said by the greatest speed at the other end. -/
structure Cl (l : List PartD) (a : Int) (t : List Int) : Prop where
  len : t.length = l.length + 1
  lo : ∀ i, 0 ≤ t.getD i 0
  hi : ∀ i, t.getD i 0 ≤ cap l i
  up : ∀ i, i < l.length → t.getD (i + 1) 0 ≤ to l a (t.getD i 0) i
  down : ∀ i, i < l.length → t.getD i 0 ≤ to l a (t.getD (i + 1) 0) i
/-- The greatest closed speeds. -/
structure Top (l : List PartD) (a : Int) (s : List Int) : Prop extends Cl l a s where
  top : ∀ t, Cl l a t → ∀ i, t.getD i 0 ≤ s.getD i 0
theorem list_ext {s t : List Int} (h : s.length = t.length) (g : ∀ i, s.getD i 0 = t.getD i 0) : s = t := by
  apply List.ext_getElem h
  intro i h1 h2
  have := g i
  rwa [getD_in h1, getD_in h2] at this
theorem Top.eq {l : List PartD} {a : Int} {s t : List Int} (x : Top l a s) (y : Top l a t) : s = t :=
  list_ext (by rw [x.len, y.len]) fun i => by have := x.top t y.toCl i; have := y.top s x.toCl i; omega
section
variable {l : List PartD} {a : Int}
theorem cap_ge (hp : l.all vP = true) (i : Nat) : 0 ≤ cap l i ∧ cap l i ≤ 1000000 := by
  unfold cap
  split
  · omega
  · rename_i h
    have := all_getD hp (show i < l.length by omega)
    have := all_getD hp (show i - 1 < l.length by omega)
    omega
theorem cap_out {i : Nat} (h : l.length ≤ i) : cap l i = 0 := by unfold cap; rw [if_pos (Or.inr h)]
theorem cap_zero : cap l 0 = 0 := by unfold cap; rw [if_pos (Or.inl rfl)]
theorem cap_succ {i : Nat} (h : i + 1 < l.length) : cap l (i + 1) = min (min (l.getD i default).Speed (l.getD i default).Corner) (l.getD (i + 1) default).Speed := by
  unfold cap; rw [if_neg (by omega)]; rfl
theorem to_mono (ha : 1 ≤ a ∧ a ≤ 100000000) (hp : l.all vP = true) {v w : Int} {i : Nat} (hi : i < l.length) (h0 : 0 ≤ v) (h : v ≤ w) : to l a v i ≤ to l a w i := by
  have := all_getD hp hi
  exact nxt_mono h0 h (by omega) (by omega)
theorem to_ge (ha : 1 ≤ a ∧ a ≤ 100000000) (hp : l.all vP = true) {v : Int} {i : Nat} (hi : i < l.length) (h0 : 0 ≤ v) : v ≤ to l a v i := by
  have := all_getD hp hi
  exact nxt_ge h0 (by omega) (by omega)
theorem Cl.le {t : List Int} (c : Cl l a t) (hp : l.all vP = true) (i : Nat) : 0 ≤ t.getD i 0 ∧ t.getD i 0 ≤ 1000000 := by
  have := c.lo i; have := c.hi i; have := cap_ge hp i; omega
/-- Feasible speeds are the closed ones. -/
theorem feas_iff {s : List Int} (hv : vE l a = 0) : Feas l a s ↔ Cl l a s := by
  obtain ⟨hl, ha, hp⟩ := vE_zero hv
  constructor
  · rintro ⟨_, hs, h0, h1, h⟩
    have lo : ∀ i, 0 ≤ s.getD i 0 := by
      intro i
      by_cases c : i < l.length
      · exact (h i c).1.1
      · by_cases d : i = l.length
        · rw [d, h1]; omega
        · rw [getD_out (by omega)]; omega
    refine ⟨hs, lo, ?_, ?_, ?_⟩
    · intro i
      by_cases c : i < l.length
      · cases i with
        | zero => rw [h0, cap_zero]; omega
        | succ i =>
          rw [cap_succ c]
          have g1 := (h i (by omega)).2.1
          have g2 := (h (i + 1) c).1
          omega
      · rw [cap_out (by omega)]
        by_cases d : i = l.length
        · rw [d, h1]; omega
        · rw [getD_out (by omega)]; omega
    · intro i hi
      have g := h i hi
      have := all_getD hp hi
      unfold to
      rw [le_nxt_iff g.1.1 g.2.1.1 (by omega) (by omega)]
      have := g.2.2.2
      omega
    · intro i hi
      have g := h i hi
      have := all_getD hp hi
      unfold to
      rw [le_nxt_iff g.2.1.1 g.1.1 (by omega) (by omega)]
      have := g.2.2.1
      omega
  · intro c
    have h0 := c.lo 0
    have h1 := c.hi 0
    rw [cap_zero] at h1
    have h2 := c.lo l.length
    have h3 := c.hi l.length
    rw [cap_out (Nat.le_refl _)] at h3
    refine ⟨hv, c.len, by omega, by omega, ?_⟩
    intro i hi
    have g1 := c.lo i
    have g2 := c.lo (i + 1)
    have g3 := c.hi i
    have g4 := c.hi (i + 1)
    have g5 := c.up i hi
    have g6 := c.down i hi
    have p := all_getD hp hi
    unfold to at g5 g6
    rw [le_nxt_iff g1 g2 (by omega) (by omega)] at g5
    rw [le_nxt_iff g2 g1 (by omega) (by omega)] at g6
    refine ⟨⟨g1, ?_⟩, ⟨g2, ?_, ?_⟩, by omega, by omega⟩
    · by_cases d : i = 0
      · subst d; omega
      · obtain ⟨j, rfl⟩ : ∃ j, i = j + 1 := ⟨i - 1, by omega⟩
        rw [cap_succ hi] at g3; omega
    · by_cases d : i + 1 < l.length
      · rw [cap_succ d] at g4; omega
      · rw [cap_out (by omega)] at g4; omega
    · by_cases d : i + 1 < l.length
      · rw [cap_succ d] at g4; omega
      · rw [cap_out (by omega)] at g4; omega

/-! ### The passes of the program -/
/-- What holds of speeds on the way: they are above every closed list, and the forward limits hold below a place. -/
structure Wy (l : List PartD) (a : Int) (s : List Int) : Prop where
  len : s.length = l.length + 1
  lo : ∀ i, 0 ≤ s.getD i 0
  hi : ∀ i, s.getD i 0 ≤ cap l i
  up : ∀ i, i < l.length → s.getD (i + 1) 0 ≤ to l a (s.getD i 0) i
  top : ∀ t, Cl l a t → ∀ i, t.getD i 0 ≤ s.getD i 0
theorem fwd_loop {k : Nat} [F : Fuel k] (hv : vE l a = 0) :
    ∃ x, iter (fun (x4 : (List PartD × Int × List Int × Int × Unit)) => lookahead_Speeds_L0 k x4.1 x4.2.1 x4.2.2.1 x4.2.2.2.1) k (l, a, List.replicate (l.length + 1) (0 : Int), 1, ()) = some x ∧ ∃ s, x = (l, a, s, ()) ∧ Wy l a s := by
  obtain ⟨hl, ha, hp⟩ := vE_zero hv
  refine iter_ok _ (fun n (x : List PartD × Int × List Int × Int × Unit) => ∃ (i : Nat) (s : List Int), x = (l, a, s, ((i + 1 : Nat) : Int), ()) ∧ n = l.length - i ∧ s.length = l.length + 1 ∧ (∀ j, 0 ≤ s.getD j 0) ∧ (∀ j, s.getD j 0 ≤ cap l j) ∧ (∀ j, i < j → s.getD j 0 = 0) ∧ (∀ j, j < i → s.getD (j + 1) 0 ≤ to l a (s.getD j 0) j) ∧ (∀ t, Cl l a t → ∀ j, j ≤ i → t.getD j 0 ≤ s.getD j 0)) _ ?_ k l.length _ (F.len (show l.length ≤ LM by rw [LM_val]; omega))
    ⟨0, _, rfl, by omega, List.length_replicate, fun j => by rw [getD_replicate]; omega, fun j => by rw [getD_replicate]; exact (cap_ge hp j).1, fun j _ => getD_replicate _ _, fun j h => by omega, fun t c j hj => by rw [getD_replicate, show j = 0 by omega]; have := c.hi 0; rwa [cap_zero] at this⟩
  rintro n x ⟨i, s, rfl, hn, hs, h0, h1, h2, h3, h4⟩
  simp only []
  unfold lookahead_Speeds_L0
  by_cases hi : i + 1 < l.length
  · left
    rw [cdec (show (((i + 1 : Nat) : Int) < (l.length : Int)) by omega), cond_true]
    have e1 : IntKind.i64.wrap (((i + 1 : Nat) : Int) - 1) = (i : Int) := by rw [wI64 (by omega) (by omega)]; omega
    have e2 : IntKind.i64.wrap (((i + 1 : Nat) : Int) + 1) = ((i + 1 + 1 : Nat) : Int) := by rw [wI64 (by omega) (by omega)]; omega
    rw [e1, e2, ixOk_of (i := (i : Int)) (n := l.length) (by omega) (by omega), ixOk_of (i := ((i + 1 : Nat) : Int)) (n := l.length) (by omega) (by omega), ixOk_of (i := (i : Int)) (n := s.length) (by omega) (by omega), ixOk_of (i := ((i + 1 : Nat) : Int)) (n := s.length) (by omega) (by omega)]
    simp only [cond_true, Int.toNat_natCast]
    have p := all_getD hp (show i < l.length by omega)
    have c := cap_ge hp i
    have b0 := h0 i
    have b1 := h1 i
    rw [lfaster_ok ⟨b0, by omega⟩ p.1 ha, Option.bind_some]
    have hC := cap_succ hi
    have hC0 := cap_ge hp (i + 1)
    have hN : 0 ≤ nxt (s.getD i 0) (l.getD i default).Length a := isq_nonneg _
    have hval : (if nxt (s.getD i 0) (l.getD i default).Length a < (if (l.getD (i + 1) default).Speed < (if (l.getD i default).Corner < (l.getD i default).Speed then (l.getD i default).Corner else (l.getD i default).Speed) then (l.getD (i + 1) default).Speed else (if (l.getD i default).Corner < (l.getD i default).Speed then (l.getD i default).Corner else (l.getD i default).Speed)) then nxt (s.getD i 0) (l.getD i default).Length a else (if (l.getD (i + 1) default).Speed < (if (l.getD i default).Corner < (l.getD i default).Speed then (l.getD i default).Corner else (l.getD i default).Speed) then (l.getD (i + 1) default).Speed else (if (l.getD i default).Corner < (l.getD i default).Speed then (l.getD i default).Corner else (l.getD i default).Speed))) = min (cap l (i + 1)) (to l a (s.getD i 0) i) := by
      have hm : (if (l.getD (i + 1) default).Speed < (if (l.getD i default).Corner < (l.getD i default).Speed then (l.getD i default).Corner else (l.getD i default).Speed) then (l.getD (i + 1) default).Speed else (if (l.getD i default).Corner < (l.getD i default).Speed then (l.getD i default).Corner else (l.getD i default).Speed)) = cap l (i + 1) := by
        rw [hC]
        by_cases c1 : (l.getD i default).Corner < (l.getD i default).Speed
        · rw [if_pos c1]
          by_cases c2 : (l.getD (i + 1) default).Speed < (l.getD i default).Corner
          · rw [if_pos c2]; omega
          · rw [if_neg c2]; omega
        · rw [if_neg c1]
          by_cases c2 : (l.getD (i + 1) default).Speed < (l.getD i default).Speed
          · rw [if_pos c2]; omega
          · rw [if_neg c2]; omega
      rw [hm]
      unfold to
      by_cases c1 : nxt (s.getD i 0) (l.getD i default).Length a < cap l (i + 1)
      · rw [if_pos c1]; omega
      · rw [if_neg c1]; omega
    rw [hval]
    have hN' : 0 ≤ to l a (s.getD i 0) i := hN
    refine ⟨_, l.length - (i + 1), rfl, by omega, i + 1, _, rfl, rfl, by rw [List.length_set, hs], ?_, ?_, ?_, ?_, ?_⟩
    · intro j
      rw [getD_set _ _ _ _ (by omega)]
      split
      · omega
      · exact h0 j
    · intro j
      rw [getD_set _ _ _ _ (by omega)]
      split
      · rename_i e; subst e; omega
      · exact h1 j
    · intro j hj
      rw [getD_set _ _ _ _ (by omega), if_neg (by omega)]
      exact h2 j (by omega)
    · intro j hj
      rw [getD_set _ _ _ _ (by omega), getD_set _ _ _ _ (by omega), if_neg (show ¬ i + 1 = j by omega)]
      split
      · rename_i e
        have : j = i := by omega
        subst this; omega
      · exact h3 j (by omega)
    · intro t c j hj
      rw [getD_set _ _ _ _ (by omega)]
      split
      · rename_i e
        subst e
        have g1 := c.hi (i + 1)
        have g2 := c.up i (by omega)
        have g3 := h4 t c i (Nat.le_refl _)
        have g4 := to_mono ha hp (show i < l.length by omega) (c.lo i) g3
        omega
      · exact h4 t c j (by omega)
  · right
    rw [cdecF (show ¬ (((i + 1 : Nat) : Int) < (l.length : Int)) by omega), cond_false]
    refine ⟨_, rfl, s, rfl, hs, h0, h1, ?_, ?_⟩
    · intro j hj
      by_cases c : j < i
      · exact h3 j c
      · rw [h2 (j + 1) (by omega)]; exact isq_nonneg _
    · intro t c j
      by_cases d : j ≤ i
      · exact h4 t c j d
      · have := c.hi j
        rw [cap_out (by omega)] at this
        rw [h2 j (by omega)]; exact this
theorem bwd_loop {k : Nat} [F : Fuel k] (hv : vE l a = 0) {s : List Int} (w : Wy l a s) :
    ∃ x, iter (fun (x7 : (List PartD × Int × List Int × Int × Unit)) => lookahead_Speeds_L2 k x7.1 x7.2.1 x7.2.2.1 x7.2.2.2.1) k (l, a, s, (l.length : Int) - 1, ()) = some x ∧ ∃ s, x = (s, ()) ∧ Top l a s := by
  obtain ⟨hl, ha, hp⟩ := vE_zero hv
  refine iter_ok _ (fun n (x : List PartD × Int × List Int × Int × Unit) => ∃ (s : List Int), x = (l, a, s, (n : Int) - 1, ()) ∧ n ≤ l.length ∧ Wy l a s ∧ (∀ j, n ≤ j → j < l.length → s.getD j 0 ≤ to l a (s.getD (j + 1) 0) j)) _ ?_ k l.length _ (F.len (show l.length ≤ LM by rw [LM_val]; omega))
    ⟨s, rfl, Nat.le_refl _, w, fun j h g => by omega⟩
  rintro n x ⟨s, rfl, hn, w, h⟩
  simp only []
  unfold lookahead_Speeds_L2
  have hs := w.len
  by_cases hi : 1 < n
  · left
    obtain ⟨i, rfl⟩ : ∃ i, n = i + 1 := ⟨n - 1, by omega⟩
    have e0 : ((i + 1 : Nat) : Int) - 1 = (i : Int) := by omega
    have e1 : IntKind.i64.wrap ((i : Int) + 1) = ((i + 1 : Nat) : Int) := by rw [wI64 (by omega) (by omega)]; omega
    have e2 : IntKind.i64.wrap ((i : Int) - 1) = (i : Int) - 1 := by rw [wI64 (by omega) (by omega)]
    rw [e0, cdec (show (i : Int) > 0 by omega), cond_true, e1, e2, ixOk_of (i := (i : Int)) (n := s.length) (by omega) (by omega), ixOk_of (i := ((i + 1 : Nat) : Int)) (n := s.length) (by omega) (by omega), ixOk_of (i := (i : Int)) (n := l.length) (by omega) (by omega)]
    simp only [cond_true, Int.toNat_natCast]
    have p := all_getD hp (show i < l.length by omega)
    have c := cap_ge hp (i + 1)
    have b0 := w.lo (i + 1)
    have b1 := w.hi (i + 1)
    rw [lfaster_ok ⟨b0, by omega⟩ p.1 ha, Option.bind_some]
    have hN : 0 ≤ to l a (s.getD (i + 1) 0) i := isq_nonneg _
    have hval : (if nxt (s.getD (i + 1) 0) (l.getD i default).Length a < s.getD i 0 then nxt (s.getD (i + 1) 0) (l.getD i default).Length a else s.getD i 0) = min (s.getD i 0) (to l a (s.getD (i + 1) 0) i) := by
      unfold to
      by_cases c1 : nxt (s.getD (i + 1) 0) (l.getD i default).Length a < s.getD i 0
      · rw [if_pos c1]; omega
      · rw [if_neg c1]; omega
    rw [hval]
    have g0 := w.lo i
    have g1 := w.hi i
    have g2 := w.up i (by omega)
    have g3 := to_ge ha hp (show i < l.length by omega) b0
    have g4 : s.getD (i + 1) 0 ≤ to l a (min (s.getD i 0) (to l a (s.getD (i + 1) 0) i)) i := by
      rcases (by omega : min (s.getD i 0) (to l a (s.getD (i + 1) 0) i) = s.getD i 0 ∨ min (s.getD i 0) (to l a (s.getD (i + 1) 0) i) = to l a (s.getD (i + 1) 0) i) with e | e
      · rw [e]; exact g2
      · rw [e]; have := to_ge ha hp (show i < l.length by omega) hN; omega
    refine ⟨_, i, rfl, by omega, _, rfl, by omega, ⟨by rw [List.length_set, hs], ?_, ?_, ?_, ?_⟩, ?_⟩
    · intro j
      rw [getD_set _ _ _ _ (by omega)]
      split
      · omega
      · exact w.lo j
    · intro j
      rw [getD_set _ _ _ _ (by omega)]
      split
      · rename_i e; subst e; omega
      · exact w.hi j
    · intro j hj
      rw [getD_set _ _ _ _ (by omega), getD_set _ _ _ _ (by omega)]
      by_cases c1 : i = j
      · subst c1
        rw [if_neg (by omega), if_pos rfl]
        exact g4
      · rw [if_neg c1]
        have := w.up j hj
        split
        · rename_i e; subst e; omega
        · exact this
    · intro t c j
      rw [getD_set _ _ _ _ (by omega)]
      have g5 := w.top t c j
      split
      · rename_i e
        subst e
        have g6 := c.down i (by omega)
        have g7 := to_mono ha hp (show i < l.length by omega) (c.lo (i + 1)) (w.top t c (i + 1))
        omega
      · exact g5
    · intro j hj hj2
      rw [getD_set _ _ _ _ (by omega), getD_set _ _ _ _ (by omega), if_neg (show ¬ i = j + 1 by omega)]
      split
      · rename_i e; subst e; omega
      · exact h j (by omega) hj2
  · right
    rw [cdecF (show ¬ ((n : Int) - 1 > 0) by omega), cond_false]
    refine ⟨_, rfl, s, rfl, ⟨hs, w.lo, w.hi, w.up, ?_⟩, w.top⟩
    intro j hj
    by_cases c : n ≤ j
    · exact h j c hj
    · have : j = 0 := by omega
      subst this
      have := w.hi 0
      rw [cap_zero] at this
      have : 0 ≤ to l a (s.getD (0 + 1) 0) 0 := isq_nonneg _
      omega
/-- The speeds of the program. -/
theorem speeds_ok {k : Nat} [F : Fuel k] (l : List PartD) (a : Int) : (vE l a ≠ 0 ∧ lookahead_Speeds k l a = some ([], vE l a)) ∨ (vE l a = 0 ∧ ∃ s, lookahead_Speeds k l a = some (s, 0) ∧ Top l a s) := by
  unfold lookahead_Speeds
  rw [valid_ok, Option.bind_some]
  by_cases hv : vE l a = 0
  · right
    refine ⟨hv, ?_⟩
    obtain ⟨hl, ha, hp⟩ := vE_zero hv
    rw [hv]
    have e : ((0 : Int) != 0) = false := rfl
    rw [e, cond_false, wI64 (by omega) (by omega), cdec (by omega), cdec (by omega), cdec (by omega)]
    have e2 : ((l.length : Int) + 1).toNat = l.length + 1 := by omega
    rw [e2]
    obtain ⟨x, hx, s, rfl, w⟩ := fwd_loop (k := k) hv
    simp only [Bool.and_self, cond_true]
    rw [hx, Option.bind_some]
    simp only []
    rw [wI64 (by omega) (by omega)]
    obtain ⟨y, hy, t, rfl, w⟩ := bwd_loop (k := k) hv w
    rw [hy, Option.bind_some]
    exact ⟨t, rfl, w⟩
  · left
    refine ⟨hv, ?_⟩
    rw [show (vE l a != 0) = true by rw [bne_iff_ne]; exact hv, cond_true]
end
end Go.Proofs.Ytbjkpogfgijmaaa
