/- The plain law MeetRadical: the radical line: its points have equal powers, the common points lie on it. -/
import Derived.Test.YtbjkpogfgijmaaaGreatMe4
import Derived.Test.YtbjkpogfgijmaaaGreatLawMeetExtremes
namespace Go.Proofs.YtbjkpogfgijmaaaGreat
open Go
set_option linter.unusedVariables false
set_option linter.unusedSimpArgs false
section
variable {k : Nat} [F : Fuel k]
theorem power_ok {c : Ci} {x y : Rat} (z : Zc 2 c) (zx : Rz 2 x) (zy : Rz 2 y) : swarfref09_Power k c.d (Q x) (Q y) = some (Q ((x - c.X) * (x - c.X) + (y - c.Y) * (y - c.Y) - c.Q)) ∧ Rz 24 ((x - c.X) * (x - c.X) + (y - c.Y) * (y - c.Y) - c.Q) := by
  have s1 := rzSub zx z.X
  have s2 := rzSub zy z.Y
  have m1 := rzMul s1 s1
  have m2 := rzMul s2 s2
  refine ⟨?_, (rzSub (rzAdd m1 m2) z.Q).mono (by omega)⟩
  unfold swarfref09_Power Ci.d
  dsimp only
  rw [rSub9 (x := zx) (y := z.X) (by decide), Option.bind_some, rSub9 (x := zy) (y := z.Y) (by decide), Option.bind_some, rMul9 (x := s1) (y := s1) (by decide), Option.bind_some, rMul9 (x := s2) (y := s2) (by decide), Option.bind_some,
    rAdd9 (x := m1) (y := m2) (by decide), Option.bind_some, rSub9 (x := rzAdd m1 m2) (y := z.Q) (by decide)]; rfl
theorem sameLine8_ok {l : Ln} (z : Zl 25 l) : swarfref08_SameLine k l.d l.d = some true := by
  have a := z.A; have b := z.B; have c := z.C
  have e0 : ((0 : Int) == 0) = true := rfl
  unfold swarfref08_SameLine Ln.d
  dsimp only
  rw [rMul8 (x := a) (y := b) (by decide), Option.bind_some, rMul8 (x := b) (y := a) (by decide), Option.bind_some, rQCmp (x := rzMul a b) (y := rzMul b a) (by decide), Option.bind_some, cmpQ_zero.2 (Rat.mul_comm _ _), e0, cond_true,
    rMul8 (x := a) (y := c) (by decide), Option.bind_some, rMul8 (x := c) (y := a) (by decide), Option.bind_some, rQCmp (x := rzMul a c) (y := rzMul c a) (by decide), Option.bind_some, cmpQ_zero.2 (Rat.mul_comm _ _), e0, cond_true,
    rMul8 (x := b) (y := c) (by decide), Option.bind_some, rMul8 (x := c) (y := b) (by decide), Option.bind_some, rQCmp (x := rzMul b c) (y := rzMul c b) (by decide), Option.bind_some, cmpQ_zero.2 (Rat.mul_comm _ _), e0]
theorem rad_loop {l : Ln} {L : List Pt} (hl : L.length ≤ 100) (z : Zl 25 l) (hz : ∀ p ∈ L, Zp 5200 p) (ho : ∀ p ∈ L, OnL l p) :
    iter (fun (x28 : (LineD × LineD × List PointD × Int × Int × Unit)) => swarflaw09_MeetRadical_L0 k x28.1 x28.2.1 x28.2.2.1 x28.2.2.2.1 x28.2.2.2.2.1) k (l.d, l.d, L.map P, (L.length : Int), 0, ()) = some (.inl (l.d, l.d, ())) := by
  have hlm := LM_val
  refine Exists.elim (iter_ok (fun (x28 : (LineD × LineD × List PointD × Int × Int × Unit)) => swarflaw09_MeetRadical_L0 k x28.1 x28.2.1 x28.2.2.1 x28.2.2.2.1 x28.2.2.2.2.1) (fun n (s : LineD × LineD × List PointD × Int × Int × Unit) => ∃ i : Nat, s = (l.d, l.d, L.map P, (L.length : Int), (i : Int), ()) ∧ n + i = L.length) (fun x => x = .inl (l.d, l.d, ())) ?_ k L.length (l.d, l.d, L.map P, (L.length : Int), 0, ()) (F.len (by omega)) ⟨0, rfl, rfl⟩) ?_
  · rintro n s ⟨i, rfl, hn⟩
    simp only []
    unfold swarflaw09_MeetRadical_L0
    by_cases hi : i < L.length
    · left
      rw [cdec (show ((i : Int) < (L.length : Int)) by omega), cond_true, ixOk_of (n := (L.map P).length) (by omega) (by rw [List.length_map]; omega)]
      simp only [cond_true]
      rw [Int.toNat_natCast, getD_map hi]
      have hm := List.getElem_mem hi
      have v := ho _ hm
      have zp := hz _ hm
      generalize L[i] = p at *
      refine ⟨_, n - 1, ?_, by omega, i + 1, rfl, by omega⟩
      show ((swarfref08_Side k l.d (P p)).bind _) = _
      rw [side8_ok (z := z) (w := zp) (by decide) v, Option.bind_some, wI64 (by omega) (by omega)]
      rfl
    · right
      rw [cdecF (show ¬ ((i : Int) < (L.length : Int)) by omega), cond_false]
      exact ⟨_, rfl, rfl⟩
  · rintro x ⟨hx, rfl⟩
    exact hx
end
theorem lcR_len {l : Ln} {c : Ci} : (lcR l c).length ≤ 2 := by unfold lcR; split; simp; split; simp; split <;> simp
theorem law_MeetRadical (a b : CircleD) (v : VecD) (ha : WfCircle a) (hb : WfCircle b) (hv : WfVec v) : ∃ k, swarflaw09_MeetRadical k a b v = some true := by
  obtain ⟨k, F⟩ := fuel_exists
  refine ⟨k, ?_⟩
  unfold swarflaw09_MeetRadical
  rw [awake09, Option.bind_some, Bool.not_true, cond_false]
  obtain ⟨t1, e1, f1⟩ := circle_ok (k := k) ha
  rw [e1, Option.bind_some]
  cases t1 with
  | false => rfl
  | true =>
    obtain ⟨c, rfl, z1, o1⟩ := f1 rfl
    rw [Bool.not_true, cond_false]
    obtain ⟨t2, e2, f2⟩ := circle_ok (k := k) hb
    rw [e2, Option.bind_some]
    cases t2 with
    | false => rfl
    | true =>
      obtain ⟨d, rfl, z2, o2⟩ := f2 rfl
      rw [Bool.not_true, cond_false]
      obtain ⟨t3, e3, f3⟩ := small2 (k := k) hv.1
      rw [e3, Option.bind_some]
      cases t3 with
      | false => rfl
      | true =>
        obtain ⟨x, ex, zx⟩ := f3 rfl
        rw [Bool.not_true, cond_false]
        obtain ⟨t4, e4, f4⟩ := small2 (k := k) hv.2
        rw [e4, Option.bind_some]
        cases t4 with
        | false => rfl
        | true =>
          obtain ⟨y, ey, zy⟩ := f4 rfl
          rw [Bool.not_true, cond_false, ex, ey, radical_ok (z := z1) (w := z2) (by decide), Option.bind_some, rconcentric_ok (z := z1) (w := z2) (by decide), Option.bind_some, rradical_ok (z := z1) (w := z2) (by decide), rcircles_ok (z := z1) (w := z2) (by decide)]
          by_cases g : c.X = d.X ∧ c.Y = d.Y
          · rw [cdec g, cond_true, if_pos g]; rfl
          · have zl : Zl 25 (rad c d) := rad_zl z1 z2
            have ok := rad_ok g
            have zr := ccR_zp z1 z2
            unfold ccR at zr ⊢
            rw [if_neg g] at zr
            rw [cdecF g, cond_false, if_neg g, if_neg g]
            have e0 : ((0 : Int) != 0) = false := rfl
            simp only [e0, cond_false]
            obtain ⟨p1, y1⟩ := power_ok (k := k) z1 zx zy
            obtain ⟨p2, y2⟩ := power_ok (k := k) z2 zx zy
            have hval : (x - c.X) * (x - c.X) + (y - c.Y) * (y - c.Y) - c.Q - ((x - d.X) * (x - d.X) + (y - d.Y) * (y - d.Y) - d.Q) = vl (rad c d) x y := by unfold vl rad pw; dsimp only; grind
            have tail : ∀ g : (LineD × LineD × List PointD × Int × Int × Unit) → Option ((LineD × LineD × List PointD × Int × Int × Unit) ⊕ ((LineD × LineD × Unit) ⊕ (Bool × Unit))), g = (fun (x28 : (LineD × LineD × List PointD × Int × Int × Unit)) => swarflaw09_MeetRadical_L0 k x28.1 x28.2.1 x28.2.2.1 x28.2.2.2.1 x28.2.2.2.2.1) →
              ((swarfref09_Power k c.d (Q x) (Q y)).bind fun x18 =>
              (swarfref09_Power k d.d (Q x) (Q y)).bind fun x19 =>
              (swarfref02_Sub k x18 x19).bind fun x20 =>
              (swarfref02_Sign k x20).bind fun x21 =>
              (swarfref09_Value k (rad c d).d (Q x) (Q y)).bind fun x22 =>
              (swarfref02_Sign k x22).bind fun x23 =>
              bif !((x21 == 0) == (x23 == 0)) then
                some false
              else
                (some ((rad c d).d, (0 : Int))).bind fun x24 =>
                (some (((lcR (rad c d) c).map P), (0 : Int))).bind fun x25 =>
                (iter g k ((rad c d).d, x24.1, x25.1, (x25.1.length : Int), 0, ())).bind fun x27 =>
                match x27 with
                | .inl x29 =>
                  (swarfref08_SameLine k x29.1 x29.2.1).bind fun x31 =>
                  some x31
                | .inr x30 =>
                  some x30.1) = some true := by
              rintro g rfl
              have hl := lcR_len (l := rad c d) (c := c)
              rw [p1, Option.bind_some, p2, Option.bind_some, rQSub (x := y1) (y := y2) (by decide), Option.bind_some, hval, rQSign, Option.bind_some, rValue9 (z := zl) (zx := zx.mono (by omega)) (zy := zy.mono (by omega)) (by decide), Option.bind_some, rQSign, Option.bind_some, beq_self_eq_true, Bool.not_true, cond_false,
                Option.bind_some, Option.bind_some]
              dsimp only
              rw [List.length_map, rad_loop (L := lcR (rad c d) c) (by omega) zl zr (lcR_on ok), Option.bind_some]
              dsimp only
              rw [sameLine8_ok zl]; rfl
            show ((swarfref02_Valid k (Q (rad c d).A)).bind _) = _
            rw [rQValid_Q zl.A (by decide), Option.bind_some, Bool.not_true, cond_false]
            show ((swarfref02_Valid k (Q (rad c d).B)).bind _) = _
            rw [rQValid_Q zl.B (by decide), Option.bind_some, Bool.not_true, cond_false]
            show ((swarfref02_Valid k (Q (rad c d).C)).bind _) = _
            rw [rQValid_Q zl.C (by decide), Option.bind_some, Bool.not_true, cond_false]
            show ((swarfref02_Sign k (Q (rad c d).A)).bind _) = _
            rw [rQSign, Option.bind_some, beq0]
            by_cases h1 : (rad c d).A = 0
            · rw [cdec h1, cond_true]
              show ((swarfref02_Sign k (Q (rad c d).B)).bind _) = _
              rw [rQSign, Option.bind_some, beq0, cdecF (by rcases ok with h | h; exact absurd h1 h; exact h), cond_false]
              exact tail _ rfl
            · rw [cdecF h1, cond_false]
              exact tail _ rfl
end Go.Proofs.YtbjkpogfgijmaaaGreat
