/- Plain laws: the time of motions, each from rest to rest (chapter 48). -/
import Derived.Test.YtbjkpogfgijmaaaGreatLa5
namespace Go.Proofs.YtbjkpogfgijmaaaGreat
open Go
set_option linter.unusedVariables false
set_option linter.unusedSimpArgs false

theorem str_exists {d v a : Int} (h : okS d v a = true) : ∃ r, Str d v a r := by
  obtain ⟨k, F⟩ := fuel_exists
  rcases straight_ok (k := k) d v a with ⟨_, r, hr, _⟩ | ⟨o, _⟩
  · exact ⟨r, hr⟩
  · rw [h] at o; cases o
open Classical in
/-- The least time for a distance. -/
noncomputable def stF (d v a : Int) : Int := if h : okS d v a = true then Classical.choose (str_exists h) else 0
theorem stF_spec {d v a : Int} (h : okS d v a = true) : Str d v a (stF d v a) := by
  unfold stF; rw [dif_pos h]; exact Classical.choose_spec (str_exists h)
theorem lenP_range {a b : PosD} (h : (lenP a b).2 = 0) : 0 ≤ (lenP a b).1 ∧ (lenP a b).1 ≤ 100000000 := by
  unfold lenP at *
  by_cases c : nearP a = true ∧ nearP b = true
  · rw [if_pos c]
    obtain ⟨ha, hb⟩ := c
    rw [nearP_iff] at ha hb
    obtain ⟨_, h1, h2⟩ := sqP_wrap (p := ⟨b.X - a.X, b.Y - a.Y, b.Z - a.Z⟩) 20000000 (Or.inr rfl) (by simp only []; omega) (by simp only []; omega) (by simp only []; omega)
    have := isq_small h1 h2
    have := isq_nonneg (sqP ⟨b.X - a.X, b.Y - a.Y, b.Z - a.Z⟩)
    split <;> simp only [] <;> omega
  · rw [if_neg c] at h; exact absurd h (by decide)
/-- The time of a motion, or its error. -/
noncomputable def mt (v a : Int) (m : MotionD) : Int × Int :=
  if inB m.Rate 0 1000000 = true then (if (lenP m.From m.To).2 = 0 then (stF (lenP m.From m.To).1 (if m.Rate = 0 then v else m.Rate) a, 0) else (0, (lenP m.From m.To).2)) else (0, 1)
noncomputable def tot (v a : Int) : List MotionD → Int → Int ⊕ (Int × Int)
  | [], s => .inl s
  | m :: r, s => if (mt v a m).2 = 0 then tot v a r (s + (mt v a m).1) else .inr (0, (mt v a m).2)
theorem tot_drop {v a : Int} {l : List MotionD} {i : Nat} (h : i < l.length) (s : Int) : tot v a (l.drop i) s = if (mt v a (l.getD i default)).2 = 0 then tot v a (l.drop (i + 1)) (s + (mt v a (l.getD i default)).1) else .inr (0, (mt v a (l.getD i default)).2) := by
  have e : l.drop i = l.getD i default :: l.drop (i + 1) := by rw [List.drop_eq_getElem_cons h, List.getD_eq_getElem?_getD, List.getElem?_eq_getElem h]; rfl
  rw [e]; rfl
section
variable {k : Nat} [F : Fuel k] {v a : Int}
theorem stF_ok {d w : Int} (h : okS d w a = true) : lookahead_Straight k d w a = some (stF d w a, 0) ∧ swarfref48_Straight k d w a = some (stF d w a, 0) ∧ 0 ≤ stF d w a ∧ stF d w a ≤ 1000000000000 := by
  rcases straight_ok (k := k) d w a with ⟨_, r, hr, e1, e2⟩ | ⟨o, _⟩
  · have := hr.eq (stF_spec h)
    subst this
    exact ⟨e1, e2, hr.1⟩
  · rw [h] at o; cases o
theorem total_loop (o2 : 1 ≤ v ∧ v ≤ 1000000) (o3 : 1 ≤ a ∧ a ≤ 100000000) {l : List MotionD} (hl : l.length ≤ 20000) :
    ∃ x, iter (fun (x9 : (Int × Int × Int × List MotionD × Int × Int × Unit)) => lookahead_Total_L0 k x9.1 x9.2.1 x9.2.2.1 x9.2.2.2.1 x9.2.2.2.2.1 x9.2.2.2.2.2.1) k (v, a, 0, l, (l.length : Int), 0, ()) = some x ∧
      ((∃ s, x = .inl (s, ()) ∧ tot v a l 0 = .inl s) ∨ (∃ s e, x = .inr (s, e, ()) ∧ tot v a l 0 = .inr (s, e))) := by
  refine iter_ok _ (fun n (x : Int × Int × Int × List MotionD × Int × Int × Unit) => ∃ (i : Nat) (s : Int), x = (v, a, s, l, (l.length : Int), (i : Int), ()) ∧ n + i = l.length ∧ 0 ≤ s ∧ s ≤ 1000000000000 * (i : Int) ∧ tot v a l 0 = tot v a (l.drop i) s) _ ?_ k l.length _ (F.len (show l.length ≤ LM by rw [LM_val]; omega)) ⟨0, 0, rfl, rfl, by omega, by omega, rfl⟩
  rintro n x ⟨i, s, rfl, hn, h0, h1, ht⟩
  simp only []
  unfold lookahead_Total_L0
  by_cases hi : i < l.length
  · rw [cdec (show ((i : Int) < (l.length : Int)) by omega), cond_true, ixOk_of (by omega) (by omega), cond_true, within_ok, Option.bind_some, Int.toNat_natCast]
    have hd := tot_drop (v := v) (a := a) hi s
    by_cases c1 : inB (l.getD i default).Rate 0 1000000 = true
    · rw [c1, Bool.not_true, cond_false]
      simp only [length_ok, Option.bind_some]
      by_cases c2 : (lenP (l.getD i default).From (l.getD i default).To).2 = 0
      · have b := lenP_range c2
        have hm : mt v a (l.getD i default) = (stF (lenP (l.getD i default).From (l.getD i default).To).1 (if (l.getD i default).Rate = 0 then v else (l.getD i default).Rate) a, 0) := by
          unfold mt; rw [if_pos c1, if_pos c2]
        rw [hm, if_pos rfl] at hd
        rw [show ((lenP (l.getD i default).From (l.getD i default).To).2 != 0) = false by rw [bne_eq_false_iff_eq]; exact c2]
        simp only [cond_false]
        rw [inB_iff] at c1
        have e0 : ((0 : Int) != 0) = false := rfl
        left
        by_cases c3 : (l.getD i default).Rate = 0
        · rw [show ((l.getD i default).Rate == 0) = true by rw [beq_iff_eq]; exact c3, cond_true]
          rw [if_pos c3] at hd
          obtain ⟨e1, _, b1, b2⟩ := stF_ok (k := k) (d := (lenP (l.getD i default).From (l.getD i default).To).1) (w := v) (a := a) (okS_iff.2 ⟨b, o2, o3⟩)
          rw [e1, Option.bind_some]
          simp only [e0, cond_false]
          rw [wI64 (by omega) (by omega), wI64 (by omega) (by omega)]
          exact ⟨_, n - 1, rfl, by omega, i + 1, _, rfl, by omega, by omega, by omega, by rw [ht, hd]⟩
        · rw [show ((l.getD i default).Rate == 0) = false by rw [beq_eq_false_iff_ne]; exact c3, cond_false]
          rw [if_neg c3] at hd
          obtain ⟨e1, _, b1, b2⟩ := stF_ok (k := k) (d := (lenP (l.getD i default).From (l.getD i default).To).1) (w := (l.getD i default).Rate) (a := a) (okS_iff.2 ⟨b, by omega, o3⟩)
          rw [e1, Option.bind_some]
          simp only [e0, cond_false]
          rw [wI64 (by omega) (by omega), wI64 (by omega) (by omega)]
          exact ⟨_, n - 1, rfl, by omega, i + 1, _, rfl, by omega, by omega, by omega, by rw [ht, hd]⟩
      · have hm : mt v a (l.getD i default) = (0, (lenP (l.getD i default).From (l.getD i default).To).2) := by
          unfold mt; rw [if_pos c1, if_neg c2]
        rw [hm, if_neg c2] at hd
        rw [show ((lenP (l.getD i default).From (l.getD i default).To).2 != 0) = true by rw [bne_iff_ne]; exact c2]
        simp only [cond_true]
        right
        refine ⟨.inr (0, (lenP (l.getD i default).From (l.getD i default).To).2, ()), ?_, Or.inr ⟨_, _, rfl, by rw [ht, hd]⟩⟩
        cases ((l.getD i default).Rate == 0) <;> rfl
    · have hm : mt v a (l.getD i default) = (0, 1) := by unfold mt; rw [if_neg c1]
      rw [hm, if_neg (by decide)] at hd
      rw [Bool.eq_false_iff.2 c1]
      right
      exact ⟨_, rfl, Or.inr ⟨0, 1, rfl, by rw [ht, hd]⟩⟩
  · rw [cdecF (show ¬ ((i : Int) < (l.length : Int)) by omega), cond_false]
    right
    refine ⟨_, rfl, Or.inl ⟨s, rfl, ?_⟩⟩
    rw [ht, List.drop_of_length_le (by omega)]; rfl
theorem rtotal_loop (o2 : 1 ≤ v ∧ v ≤ 1000000) (o3 : 1 ≤ a ∧ a ≤ 100000000) {l : List MotionD} (hl : l.length ≤ 20000) :
    ∃ x, iter (fun (x8 : (List MotionD × Int × Int × Int × Int × Unit)) => swarfref48_Total_L0 k x8.1 x8.2.1 x8.2.2.1 x8.2.2.2.1 x8.2.2.2.2.1) k (l, v, a, 0, 0, ()) = some x ∧
      ((∃ s, x = .inl (s, ()) ∧ tot v a l 0 = .inl s) ∨ (∃ s e, x = .inr (s, e, ()) ∧ tot v a l 0 = .inr (s, e))) := by
  refine iter_ok _ (fun n (x : List MotionD × Int × Int × Int × Int × Unit) => ∃ (i : Nat) (s : Int), x = (l, v, a, s, (i : Int), ()) ∧ n + i = l.length ∧ 0 ≤ s ∧ s ≤ 1000000000000 * (i : Int) ∧ tot v a l 0 = tot v a (l.drop i) s) _ ?_ k l.length _ (F.len (show l.length ≤ LM by rw [LM_val]; omega)) ⟨0, 0, rfl, rfl, by omega, by omega, rfl⟩
  rintro n x ⟨i, s, rfl, hn, h0, h1, ht⟩
  simp only []
  unfold swarfref48_Total_L0
  by_cases hi : i < l.length
  · rw [cdec (show ((i : Int) < (l.length : Int)) by omega), cond_true, ixOk_of (by omega) (by omega), cond_true, speed_ok, Option.bind_some, Int.toNat_natCast]
    simp only [cond_true]
    have hd := tot_drop (v := v) (a := a) hi s
    by_cases c1 : inB (l.getD i default).Rate 0 1000000 = true
    · rw [c1, Bool.not_true, cond_false]
      rw [rlength_ok, Option.bind_some]
      by_cases c2 : (lenP (l.getD i default).From (l.getD i default).To).2 = 0
      · have b := lenP_range c2
        have hm : mt v a (l.getD i default) = (stF (lenP (l.getD i default).From (l.getD i default).To).1 (if (l.getD i default).Rate = 0 then v else (l.getD i default).Rate) a, 0) := by
          unfold mt; rw [if_pos c1, if_pos c2]
        rw [hm, if_pos rfl] at hd
        rw [show ((lenP (l.getD i default).From (l.getD i default).To).2 != 0) = false by rw [bne_eq_false_iff_eq]; exact c2, cond_false]
        rw [inB_iff] at c1
        left
        by_cases c3 : (l.getD i default).Rate = 0
        · rw [show ((l.getD i default).Rate == 0) = true by rw [beq_iff_eq]; exact c3, cond_true]
          rw [if_pos c3] at hd
          obtain ⟨_, e1, b1, b2⟩ := stF_ok (k := k) (d := (lenP (l.getD i default).From (l.getD i default).To).1) (w := v) (a := a) (okS_iff.2 ⟨b, o2, o3⟩)
          rw [e1, Option.bind_some]
          simp only []
          rw [wI64 (by omega) (by omega), wI64 (by omega) (by omega)]
          exact ⟨_, n - 1, rfl, by omega, i + 1, _, rfl, by omega, by omega, by omega, by rw [ht, hd]⟩
        · rw [show ((l.getD i default).Rate == 0) = false by rw [beq_eq_false_iff_ne]; exact c3, cond_false]
          rw [if_neg c3] at hd
          obtain ⟨_, e1, b1, b2⟩ := stF_ok (k := k) (d := (lenP (l.getD i default).From (l.getD i default).To).1) (w := (l.getD i default).Rate) (a := a) (okS_iff.2 ⟨b, by omega, o3⟩)
          rw [e1, Option.bind_some]
          simp only []
          rw [wI64 (by omega) (by omega), wI64 (by omega) (by omega)]
          exact ⟨_, n - 1, rfl, by omega, i + 1, _, rfl, by omega, by omega, by omega, by rw [ht, hd]⟩
      · have hm : mt v a (l.getD i default) = (0, (lenP (l.getD i default).From (l.getD i default).To).2) := by
          unfold mt; rw [if_pos c1, if_neg c2]
        rw [hm, if_neg c2] at hd
        rw [show ((lenP (l.getD i default).From (l.getD i default).To).2 != 0) = true by rw [bne_iff_ne]; exact c2, cond_true]
        right
        exact ⟨.inr (0, (lenP (l.getD i default).From (l.getD i default).To).2, ()), rfl, Or.inr ⟨_, _, rfl, by rw [ht, hd]⟩⟩
    · have hm : mt v a (l.getD i default) = (0, 1) := by unfold mt; rw [if_neg c1]
      rw [hm, if_neg (by decide)] at hd
      rw [Bool.eq_false_iff.2 c1]
      right
      exact ⟨_, rfl, Or.inr ⟨0, 1, rfl, by rw [ht, hd]⟩⟩
  · rw [cdecF (show ¬ ((i : Int) < (l.length : Int)) by omega), cond_false]
    right
    refine ⟨_, rfl, Or.inl ⟨s, rfl, ?_⟩⟩
    rw [ht, List.drop_of_length_le (by omega)]; rfl
theorem total_same (l : List MotionD) (v a : Int) : ∃ x, lookahead_Total k l v a = some x ∧ swarfref48_Total k l v a = some x := by
  unfold lookahead_Total swarfref48_Total
  by_cases hl : l.length > 20000
  · rw [cdec (show ((l.length : Int) > 20000) by omega)]; exact ⟨_, rfl, rfl⟩
  rw [cdecF (show ¬ ((l.length : Int) > 20000) by omega), cond_false, cond_false, within_ok, Option.bind_some, within_ok, Option.bind_some, speed_ok, Option.bind_some, accel_ok, Option.bind_some]
  by_cases c1 : inB v 1 1000000 = true
  · have o2 := inB_iff.1 c1
    rw [c1, show inB v 0 1000000 = true by rw [inB_iff]; omega, Bool.not_true, cond_false, cond_false, cdecF (show ¬ v < 1 by omega), cond_false]
    by_cases c2 : inB a 1 100000000 = true
    · have o3 := inB_iff.1 c2
      rw [c2, Bool.not_true, cond_false, cond_false]
      obtain ⟨x, hx, px⟩ := total_loop (k := k) o2 o3 (l := l) (by omega)
      obtain ⟨y, hy, py⟩ := rtotal_loop (k := k) o2 o3 (l := l) (by omega)
      rw [hx, hy, Option.bind_some, Option.bind_some]
      rcases px with ⟨s, rfl, e⟩ | ⟨s, t, rfl, e⟩
      · rcases py with ⟨s', rfl, e'⟩ | ⟨s', t', rfl, e'⟩
        · rw [e] at e'; cases e'; exact ⟨_, rfl, rfl⟩
        · rw [e] at e'; cases e'
      · rcases py with ⟨s', rfl, e'⟩ | ⟨s', t', rfl, e'⟩
        · rw [e] at e'; cases e'
        · rw [e] at e'; cases e'; exact ⟨_, rfl, rfl⟩
    · rw [Bool.eq_false_iff.2 c2]; exact ⟨_, rfl, rfl⟩
  · rw [Bool.eq_false_iff.2 c1]
    refine ⟨_, rfl, ?_⟩
    by_cases c2 : inB v 0 1000000 = true
    · rw [c2]
      rw [inB_iff] at c1 c2
      rw [cdec (show v < 1 by omega)]; rfl
    · rw [Bool.eq_false_iff.2 c2]; rfl
end
end Go.Proofs.YtbjkpogfgijmaaaGreat
