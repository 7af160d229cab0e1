/- The plain law MeetMoved: the common points of a moved line and a moved circle are the moved points. -/
import Derived.Test.YtbjkpogfgijmaaaGreatMe4
namespace Go.Proofs.YtbjkpogfgijmaaaGreat
open Go
set_option linter.unusedVariables false
set_option linter.unusedSimpArgs false
theorem moved_loop {k : Nat} [F : Fuel k] {L : List Pt} {x y : Rat} (hl : L.length ≤ 100) (hv : ∀ p ∈ L, Vp p) (hz : ∀ p ∈ L, Zp 700 p) (zx : Rz 2 x) (zy : Rz 2 y) :
    ∃ z, iter (fun (x22 : (VecD × List PointD × List PointD × Int × Int × Unit)) => swarflaw09_MeetMoved_L0 k x22.1 x22.2.1 x22.2.2.1 x22.2.2.2.1 x22.2.2.2.2.1) k (⟨Q x, Q y⟩, L.map P, (L.map (mvP x y)).map P, (L.length : Int), 0, ()) = some z ∧ z = .inl () := by
  have hlm := LM_val
  refine iter_ok _ (fun n (s : VecD × List PointD × List PointD × Int × Int × Unit) => ∃ i : Nat, s = (⟨Q x, Q y⟩, L.map P, (L.map (mvP x y)).map P, (L.length : Int), (i : Int), ()) ∧ n + i = L.length) _ ?_ k L.length _ (F.len (by omega)) ⟨0, rfl, rfl⟩
  rintro n s ⟨i, rfl, hn⟩
  simp only []
  unfold swarflaw09_MeetMoved_L0
  by_cases hi : i < L.length
  · left
    rw [cdec (show ((i : Int) < (L.length : Int)) by omega), cond_true, ixOk_of (n := (L.map P).length) (by omega) (by rw [List.length_map]; omega), ixOk_of (n := ((L.map (mvP x y)).map P).length) (by omega) (by rw [List.length_map, List.length_map]; omega)]
    simp only [cond_true]
    rw [Int.toNat_natCast, getD_map hi, getD_map (l := L.map (mvP x y)) (by rw [List.length_map]; exact hi), List.getElem_map]
    have hm := List.getElem_mem hi
    have v := hv _ hm
    have z := hz _ hm
    generalize L[i] = p at *
    have zm : Zp 703 (mvP x y p) := ⟨(rzAdd z.AX zx).mono (by omega), z.BX.mono (by omega), (rzAdd z.AY zy).mono (by omega), z.BY.mono (by omega), z.C.mono (by omega)⟩
    have vm : Vp (mvP x y p) := v
    refine ⟨_, n - 1, ?_, by omega, i + 1, rfl, by omega⟩
    show ((swarfref07_Valid k (P p)).bind _) = _
    rw [rPValid (z := z) (by decide) v, Option.bind_some, Bool.not_true, cond_false]
    show ((swarfref07_Valid k (P (mvP x y p))).bind _) = _
    rw [rPValid (z := zm) (by decide) vm, Option.bind_some, Bool.not_true, cond_false]
    show ((swarfref07_Translate k (P p) ⟨Q x, Q y⟩).bind _) = _
    rw [translate_ok (w := z) (zx := zx) (zy := zy) (by decide), Option.bind_some]
    show ((swarfref07_Equal k (P (mvP x y p)) (P (mvP x y p))).bind _) = _
    rw [rEqual (z := zm) (w := zm) (by decide) (by decide), Option.bind_some, decide_eq_true (cmpP_self vm), Bool.not_true, cond_false, wI64 (by omega) (by omega)]
    rfl
  · right
    rw [cdecF (show ¬ ((i : Int) < (L.length : Int)) by omega), cond_false]
    exact ⟨_, rfl, rfl⟩
theorem law_MeetMoved (a : LineD) (b c : CircleD) (ha : WfLine a) (hb : WfCircle b) (hc : WfCircle c) : ∃ k, swarflaw09_MeetMoved k a b c = some true := by
  obtain ⟨k, F⟩ := fuel_exists
  refine ⟨k, ?_⟩
  unfold swarflaw09_MeetMoved
  rw [awake09, Option.bind_some, Bool.not_true, cond_false]
  obtain ⟨t1, e1, f1⟩ := line_ok (k := k) ha
  rw [e1, Option.bind_some]
  cases t1 with
  | false => rfl
  | true =>
    obtain ⟨l, rfl, z1, o1⟩ := f1 rfl
    rw [Bool.not_true, cond_false]
    obtain ⟨t2, e2, f2⟩ := circle_ok (k := k) hb
    rw [e2, Option.bind_some]
    cases t2 with
    | false => rfl
    | true =>
      obtain ⟨d, rfl, z2, o2⟩ := f2 rfl
      rw [Bool.not_true, cond_false]
      obtain ⟨t3, e3, f3⟩ := circle_ok (k := k) hc
      rw [e3, Option.bind_some]
      cases t3 with
      | false => rfl
      | true =>
        obtain ⟨v, rfl, z3, o3⟩ := f3 rfl
        rw [Bool.not_true, cond_false]
        have m1 := rzMul z1.A z3.X
        have m2 := rzMul z1.B z3.Y
        have m3 := rzAdd m1 m2
        have m4 := rzAdd z1.C m3
        have m5 := rzAdd z2.X z3.X
        have m6 := rzAdd z2.Y z3.Y
        have zl : Zl 12 (mvL l v.X v.Y) := ⟨z1.A.mono (by omega), z1.B.mono (by omega), m4.mono (by omega)⟩
        have zc : Zc 12 (mvC d v.X v.Y) := ⟨m5.mono (by omega), m6.mono (by omega), z2.Q.mono (by omega)⟩
        have ol : Lok (mvL l v.X v.Y) := o1
        show ((swarfref02_Mul k (Q l.A) (Q v.X)).bind _) = _
        rw [rQMul (x := z1.A) (y := z3.X) (by decide), Option.bind_some]
        show ((swarfref02_Mul k (Q l.B) (Q v.Y)).bind _) = _
        rw [rQMul (x := z1.B) (y := z3.Y) (by decide), Option.bind_some, rQAdd (x := m1) (y := m2) (by decide), Option.bind_some]
        show ((swarfref02_Add k (Q l.C) (Q (l.A * v.X + l.B * v.Y))).bind _) = _
        rw [rQAdd (x := z1.C) (y := m3) (by decide), Option.bind_some]
        show ((swarfref02_Add k (Q d.X) (Q v.X)).bind _) = _
        rw [rQAdd (x := z2.X) (y := z3.X) (by decide), Option.bind_some]
        show ((swarfref02_Add k (Q d.Y) (Q v.Y)).bind _) = _
        rw [rQAdd (x := z2.Y) (y := z3.Y) (by decide), Option.bind_some, lcP_ok (z := z1) (w := z2) (by decide) o1, Option.bind_some]
        show ((meet_LineCircle k (mvL l v.X v.Y).d (mvC d v.X v.Y).d).bind _) = _
        rw [lcP_ok (z := zl) (w := zc) (by decide) ol, Option.bind_some, mv_lcP]
        rw [show (((((lcP l d).map P).length : Nat) : Int) != ((((lcP l d).map (mvP v.X v.Y)).map P).length : Int)) = false by rw [bne_eq_false_iff_eq, List.length_map, List.length_map, List.length_map], cond_false]
        have hlen := lcP_len (l := l) (c := d)
        obtain ⟨x, hx, rfl⟩ := moved_loop (k := k) (L := lcP l d) (x := v.X) (y := v.Y) (by omega) lcP_vp (fun p hp => (lcP_zp z1 z2 p hp).mono (by omega)) z3.X z3.Y
        rw [List.length_map]
        show ((iter _ k ((⟨Q v.X, Q v.Y⟩ : VecD), (lcP l d).map P, ((lcP l d).map (mvP v.X v.Y)).map P, ((lcP l d).length : Int), 0, ())).bind _) = _
        rw [hx]; rfl
end Go.Proofs.YtbjkpogfgijmaaaGreat
