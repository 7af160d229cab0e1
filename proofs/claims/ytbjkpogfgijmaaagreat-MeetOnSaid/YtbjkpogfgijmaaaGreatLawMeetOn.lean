/- The plain law MeetOn: common points lie on both supports, and do not depend on the order and the form of these. -/
import Derived.Test.YtbjkpogfgijmaaaGreatMe4
namespace Go.Proofs.YtbjkpogfgijmaaaGreat
open Go
set_option linter.unusedVariables false
set_option linter.unusedSimpArgs false
/-- A point lies on the support of a curve. -/
def OnS (a : CurveD) (l : Ln) (c : Ci) (p : Pt) : Prop := (a.Line = l.d ∧ a.Circle = c.d) ∧ (if a.Arc = true then OnC c p else OnL l p)
section
variable {k : Nat} [F : Fuel k]
theorem on_loop {n e : Int} {a b : CurveD} {l l' : Ln} {c c' : Ci} {L : List PointD} {p : Pt} {M : List PointD} {m i : Int} (z1 : Zl 5 l) (z2 : Zc 2 c) (z3 : Zl 5 l') (z4 : Zc 2 c') (zp : Zp 5200 p) (hv : Vp p) (h1 : OnS a l c p) (h2 : OnS b l' c' p) :
    iter (fun (x19 : (Int × CurveD × CurveD × List PointD × Int × PointD × List PointD × Int × Int × List CurveD × Int × Int × Unit)) => swarflaw09_MeetOn_L2 k x19.1 x19.2.1 x19.2.2.1 x19.2.2.2.1 x19.2.2.2.2.1 x19.2.2.2.2.2.1 x19.2.2.2.2.2.2.1 x19.2.2.2.2.2.2.2.1 x19.2.2.2.2.2.2.2.2.1 x19.2.2.2.2.2.2.2.2.2.1 x19.2.2.2.2.2.2.2.2.2.2.1 x19.2.2.2.2.2.2.2.2.2.2.2.1) k (n, a, b, L, e, P p, M, m, i, [a, b], 2, 0, ()) = some (.inl (n, a, b, L, e, M, m, i, ())) := by
  have hlm := LM_val
  refine Exists.elim (iter_ok (fun (x19 : (Int × CurveD × CurveD × List PointD × Int × PointD × List PointD × Int × Int × List CurveD × Int × Int × Unit)) => swarflaw09_MeetOn_L2 k x19.1 x19.2.1 x19.2.2.1 x19.2.2.2.1 x19.2.2.2.2.1 x19.2.2.2.2.2.1 x19.2.2.2.2.2.2.1 x19.2.2.2.2.2.2.2.1 x19.2.2.2.2.2.2.2.2.1 x19.2.2.2.2.2.2.2.2.2.1 x19.2.2.2.2.2.2.2.2.2.2.1 x19.2.2.2.2.2.2.2.2.2.2.2.1)
    (fun q (s : Int × CurveD × CurveD × List PointD × Int × PointD × List PointD × Int × Int × List CurveD × Int × Int × Unit) => ∃ j : Nat, s = (n, a, b, L, e, P p, M, m, i, [a, b], 2, (j : Int), ()) ∧ q + j = 2) (fun x => x = .inl (n, a, b, L, e, M, m, i, ())) ?_ k 2 (n, a, b, L, e, P p, M, m, i, [a, b], 2, 0, ()) (F.len (by omega)) ⟨0, rfl, rfl⟩) ?_
  · rintro q s ⟨j, rfl, hq⟩
    simp only []
    unfold swarflaw09_MeetOn_L2
    by_cases hj : j < 2
    · left
      rw [cdec (show ((j : Int) < 2) by omega), cond_true, ixOk_of (n := [a, b].length) (by omega) (by rw [show [a, b].length = 2 from rfl]; omega), cond_true, Int.toNat_natCast]
      have key : ∀ (d : CurveD) (u : Ln) (v : Ci), Zl 5 u → Zc 2 v → OnS d u v p → [a, b].getD j default = d →
          ((d.Arc = true ∧ swarfref08_Inside k d.Circle (P p) = some 0) ∨ (d.Arc = false ∧ swarfref08_Side k d.Line (P p) = some 0)) := by
        rintro d u v y1 y2 ⟨⟨g1, g2⟩, g3⟩ _
        cases hd : d.Arc with
        | true =>
          left
          rw [if_pos hd] at g3
          exact ⟨rfl, by rw [g2, inside8_ok (z := y2) (w := zp) (by decide) (by decide) hv g3]⟩
        | false =>
          right
          rw [if_neg (by rw [hd]; decide)] at g3
          exact ⟨rfl, by rw [g1, side8_ok (z := y1) (w := zp) (by decide) g3]⟩
      have key2 : ∃ d : CurveD, [a, b].getD j default = d ∧ ((d.Arc = true ∧ swarfref08_Inside k d.Circle (P p) = some 0) ∨ (d.Arc = false ∧ swarfref08_Side k d.Line (P p) = some 0)) := by
        rcases (by omega : j = 0 ∨ j = 1) with rfl | rfl
        · exact ⟨a, rfl, key a l c z1 z2 h1 rfl⟩
        · exact ⟨b, rfl, key b l' c' z3 z4 h2 rfl⟩
      obtain ⟨d, ed, hd⟩ := key2
      rw [ed]
      have e0 : ((0 : Int) != 0) = false := rfl
      refine ⟨_, q - 1, ?_, by omega, j + 1, rfl, by omega⟩
      rw [wI64 (by omega) (by omega)]
      rcases hd with ⟨g1, g2⟩ | ⟨g1, g2⟩
      · rw [g1, cond_true]
        show ((swarfref08_Inside k d.Circle (P p)).bind _) = _
        rw [g2, Option.bind_some, e0, Bool.not_true, cond_false, cond_false]; rfl
      · rw [g1, cond_false, Bool.not_false, cond_true]
        show ((swarfref08_Side k d.Line (P p)).bind _) = _
        rw [g2, Option.bind_some, e0, cond_false]; rfl
    · right
      rw [cdecF (show ¬ ((j : Int) < 2) by omega), cond_false]
      exact ⟨_, rfl, rfl⟩
  · rintro x ⟨hx, rfl⟩
    exact hx
theorem all_loop {n e : Int} {a b : CurveD} {l l' : Ln} {c c' : Ci} {L : List Pt} (hl : L.length ≤ 100) (z1 : Zl 5 l) (z2 : Zc 2 c) (z3 : Zl 5 l') (z4 : Zc 2 c') (hz : ∀ p ∈ L, Zp 5200 p) (hv : ∀ p ∈ L, Vp p) (h1 : ∀ p ∈ L, OnS a l c p) (h2 : ∀ p ∈ L, OnS b l' c' p) :
    iter (fun (x23 : (Int × CurveD × CurveD × List PointD × Int × List PointD × Int × Int × Unit)) => swarflaw09_MeetOn_L0 k x23.1 x23.2.1 x23.2.2.1 x23.2.2.2.1 x23.2.2.2.2.1 x23.2.2.2.2.2.1 x23.2.2.2.2.2.2.1 x23.2.2.2.2.2.2.2.1) k (n, a, b, L.map P, e, L.map P, (L.length : Int), 0, ()) = some (.inl (n, a, b, L.map P, e, ())) := by
  have hlm := LM_val
  refine Exists.elim (iter_ok (fun (x23 : (Int × CurveD × CurveD × List PointD × Int × List PointD × Int × Int × Unit)) => swarflaw09_MeetOn_L0 k x23.1 x23.2.1 x23.2.2.1 x23.2.2.2.1 x23.2.2.2.2.1 x23.2.2.2.2.2.1 x23.2.2.2.2.2.2.1 x23.2.2.2.2.2.2.2.1)
    (fun q (s : Int × CurveD × CurveD × List PointD × Int × List PointD × Int × Int × Unit) => ∃ i : Nat, s = (n, a, b, L.map P, e, L.map P, (L.length : Int), (i : Int), ()) ∧ q + i = L.length) (fun x => x = .inl (n, a, b, L.map P, e, ())) ?_ k L.length (n, a, b, L.map P, e, L.map P, (L.length : Int), 0, ()) (F.len (by omega)) ⟨0, rfl, rfl⟩) ?_
  · rintro q s ⟨i, rfl, hq⟩
    simp only []
    unfold swarflaw09_MeetOn_L0
    by_cases hi : i < L.length
    · left
      rw [cdec (show ((i : Int) < (L.length : Int)) by omega), cond_true, ixOk_of (n := (L.map P).length) (by omega) (by rw [List.length_map]; omega), cond_true, Int.toNat_natCast, getD_map hi]
      have hm := List.getElem_mem hi
      have v := hv _ hm
      have zp := hz _ hm
      have g1 := h1 _ hm
      have g2 := h2 _ hm
      generalize L[i] = p at *
      refine ⟨_, q - 1, ?_, by omega, i + 1, rfl, by omega⟩
      have := on_loop (k := k) (n := n) (e := e) (L := L.map P) (M := L.map P) (m := (L.length : Int)) (i := (i : Int)) z1 z2 z3 z4 zp v g1 g2
      show ((iter _ k (n, a, b, L.map P, e, P p, L.map P, (L.length : Int), (i : Int), [a, b], 2, 0, ())).bind _) = _
      rw [this, Option.bind_some]
      dsimp only
      rw [wI64 (by omega) (by omega)]; rfl
    · right
      rw [cdecF (show ¬ ((i : Int) < (L.length : Int)) by omega), cond_false]
      exact ⟨_, rfl, rfl⟩
  · rintro x ⟨hx, rfl⟩
    exact hx
end
theorem law_MeetOn (a b : CurveD) (n : Int) (ha : WfCurve a) (hb : WfCurve b) (hn : -128 ≤ n ∧ n < 128) : ∃ k, swarflaw09_MeetOn k a b n = some true := by
  obtain ⟨k, F⟩ := fuel_exists
  refine ⟨k, ?_⟩
  unfold swarflaw09_MeetOn
  rw [awake09, Option.bind_some, Bool.not_true, cond_false]
  obtain ⟨t1, e1, f1⟩ := line_ok (k := k) ha.1
  rw [e1, Option.bind_some]
  cases t1 with
  | false => rfl
  | true =>
    obtain ⟨l, q1, z1, o1⟩ := f1 rfl
    rw [Bool.not_true, cond_false]
    obtain ⟨t2, e2, f2⟩ := circle_ok (k := k) ha.2
    rw [e2, Option.bind_some]
    cases t2 with
    | false => rfl
    | true =>
      obtain ⟨c, q2, z2, o2⟩ := f2 rfl
      rw [Bool.not_true, cond_false]
      obtain ⟨t3, e3, f3⟩ := line_ok (k := k) hb.1
      rw [e3, Option.bind_some]
      cases t3 with
      | false => rfl
      | true =>
        obtain ⟨l2, q3, z3, o3⟩ := f3 rfl
        rw [Bool.not_true, cond_false]
        obtain ⟨t4, e4, f4⟩ := circle_ok (k := k) hb.2
        rw [e4, Option.bind_some]
        cases t4 with
        | false => rfl
        | true =>
          obtain ⟨c2, q4, z4, o4⟩ := f4 rfl
          rw [Bool.not_true, cond_false]
          by_cases h0 : n = 0
          · rw [show (n == 0) = true by rw [beq_iff_eq]; exact h0]; rfl
          rw [show (n == 0) = false by rw [beq_eq_false_iff_ne]; exact h0, cond_false]
          have y1 := z1.mono (show 2 ≤ 5 by omega)
          have y3 := z3.mono (show 2 ≤ 5 by omega)
          rw [supports_ok q1 q2 q3 q4 y1 z2 y3 z4 o1 o3, Option.bind_some, supports_ok q3 q4 q1 q2 y3 z4 y1 z2 o3 o1, Option.bind_some, suP_swap a.Arc b.Arc]
          have hl := suP_len (s := a.Arc) (t := b.Arc) (l := l) (c := c) (l' := l2) (c' := c2)
          have hv := suP_vp (s := a.Arc) (t := b.Arc) (l := l) (c := c) (l' := l2) (c' := c2)
          have hz := suP_zp (s := a.Arc) (t := b.Arc) y1 z2 y3 z4
          have hon := suP_on (s := a.Arc) (t := b.Arc) (c := c) (c' := c2) o1 o3
          have hsc := fun n hn => su_scale (s := a.Arc) (t := b.Arc) (c := c) (l' := l2) (c' := c2) (n := n) o1 hn
          dsimp only
          rw [lawSame9 (n := 5200) (by omega) hv (PwEq.self hv) hz hz (by omega) (by omega), Option.bind_some, Bool.not_true, cond_false, List.length_map,
            all_loop (by omega) y1 z2 y3 z4 hz hv (fun p hp => ⟨⟨q1, q2⟩, (hon p hp).1⟩) (fun p hp => ⟨⟨q3, q4⟩, (hon p hp).2⟩), Option.bind_some]
          dsimp only
          have zn : Rz 3 ((n : Int) : Rat) := rzOfInt (Sz.of (by simp only [bp]; omega))
          have nz : ((n : Int) : Rat) ≠ 0 := fun e => h0 (Rat.intCast_inj.1 e)
          have zs : Zl 5 (scL l (n : Rat)) := ⟨rzMul zn z1.A, rzMul zn z1.B, rzMul zn z1.C⟩
          unfold swarflaw09_num
          rw [wI64 (by omega) (by omega), rQFrom (by omega) (by omega), Option.bind_some, Option.bind_some, q1]
          show ((swarfref02_Mul k (Q (n : Rat)) (Q l.A)).bind _) = _
          rw [rQMul (x := zn) (y := z1.A) (by decide), Option.bind_some]
          show ((swarfref02_Mul k (Q (n : Rat)) (Q l.B)).bind _) = _
          rw [rQMul (x := zn) (y := z1.B) (by decide), Option.bind_some]
          show ((swarfref02_Mul k (Q (n : Rat)) (Q l.C)).bind _) = _
          rw [rQMul (x := zn) (y := z1.C) (by decide), Option.bind_some]
          obtain ⟨g1, g2⟩ := hsc (n : Rat) nz
          have hl' := suP_len (s := a.Arc) (t := b.Arc) (l := scL l (n : Rat)) (c := c) (l' := l2) (c' := c2)
          have hz' := suP_zp (s := a.Arc) (t := b.Arc) zs z2 y3 z4
          show ((meet_Supports k (⟨a.Arc, (scL l (n : Rat)).d, a.Circle, a.Cw, a.From, a.To⟩ : CurveD) b).bind _) = _
          rw [supports_ok (a := ⟨a.Arc, (scL l (n : Rat)).d, a.Circle, a.Cw, a.From, a.To⟩) (b := b) rfl q2 q3 q4 zs z2 y3 z4 (scL_ok o1 nz) o3, Option.bind_some]
          dsimp only
          rw [g2, lawSame9 (n := 5200) (by omega) suP_vp g1 hz' hz (by omega) (by omega)]; rfl
end Go.Proofs.YtbjkpogfgijmaaaGreat
