/- Plain laws: common points of two lines, of two circles, of two supports; extreme points. -/
import Derived.Test.YtbjkpogfgijmaaaGreatMe2
namespace Go.Proofs.YtbjkpogfgijmaaaGreat
open Go
set_option linter.unusedVariables false
set_option linter.unusedSimpArgs false

/-! ### Two lines -/
def det (a b : Ln) : Rat := a.A * b.B - b.A * a.B
def lX (a b : Ln) : Rat := a.C * b.B - b.C * a.B
def lY (a b : Ln) : Rat := a.A * b.C - b.A * a.C
open Classical in
noncomputable def llF (a b : Ln) : List Pt × Int := if det a b = 0 then ([], if lX a b = 0 ∧ lY a b = 0 then 10 else 0) else ([atP (lX a b / det a b) (lY a b / det a b)], 0)
theorem det_rz {m : Nat} {a b : Ln} (z : Zl m a) (w : Zl m b) : Rz (4 * m + 1) (det a b) := (rzSub (rzMul z.A w.B) (rzMul w.A z.B)).mono (by omega)
theorem lX_rz {m : Nat} {a b : Ln} (z : Zl m a) (w : Zl m b) : Rz (4 * m + 1) (lX a b) := (rzSub (rzMul z.C w.B) (rzMul w.C z.B)).mono (by omega)
theorem lY_rz {m : Nat} {a b : Ln} (z : Zl m a) (w : Zl m b) : Rz (4 * m + 1) (lY a b) := (rzSub (rzMul z.A w.C) (rzMul w.A z.C)).mono (by omega)
theorem llF_zp {m : Nat} {a b : Ln} (z : Zl m a) (w : Zl m b) : ∀ p ∈ (llF a b).1, Zp (8 * m + 2) p := by
  intro p hp
  unfold llF at hp
  split at hp
  · cases hp
  · simp only [List.mem_singleton] at hp
    subst hp
    exact atP_zp ((rzQuo (lX_rz z w) (det_rz z w)).mono (by omega)) ((rzQuo (lY_rz z w) (det_rz z w)).mono (by omega)) (by omega)
theorem llF_vp {a b : Ln} : ∀ p ∈ (llF a b).1, Vp p := by
  intro p hp
  unfold llF at hp
  split at hp
  · cases hp
  · simp only [List.mem_singleton] at hp
    subst hp
    exact .inl ⟨rfl, rfl, rfl⟩
theorem llF_len {a b : Ln} : (llF a b).1.length ≤ 2 := by unfold llF; split <;> simp
section
variable {k : Nat} [F : Fuel k] {m : Nat}
theorem sameLine_ok {a b : Ln} [z : Zl m a] [w : Zl m b] (h : 1000 * m + 1000 ≤ LM) (hd : det a b = 0) : support_SameLine k a.d b.d = some (decide (lX a b = 0 ∧ lY a b = 0)) := by
  have a1 := z.A; have a2 := z.B; have a3 := z.C; have b1 := w.A; have b2 := w.B; have b3 := w.C
  have p1 := rzMul a1 b2; have p2 := rzMul b1 a2; have p3 := rzMul a1 b3; have p4 := rzMul b1 a3; have p5 := rzMul a2 b3; have p6 := rzMul b2 a3
  unfold support_SameLine Ln.d
  dsimp only
  unfold det at hd
  unfold lX lY
  rw [sMul (x := a1) (y := b2) (by omega), Option.bind_some, sMul (x := b1) (y := a2) (by omega), Option.bind_some, sEqual (x := p1) (y := p2) (by omega), Option.bind_some, cdec (by grind), cond_true,
    sMul (x := a1) (y := b3) (by omega), Option.bind_some, sMul (x := b1) (y := a3) (by omega), Option.bind_some, sEqual (x := p3) (y := p4) (by omega), Option.bind_some]
  by_cases h1 : a.A * b.C = b.A * a.C
  · rw [cdec h1, cond_true, sMul (x := a2) (y := b3) (by omega), Option.bind_some, sMul (x := b2) (y := a3) (by omega), Option.bind_some, sEqual (x := p5) (y := p6) (by omega), Option.bind_some]
    congr 1
    rw [decide_eq_decide]
    constructor
    · intro g; exact ⟨by grind, by grind⟩
    · intro g; have := g.1; grind
  · rw [cdecF h1, cond_false, decide_eq_false]
    intro g; have := g.2; grind
theorem lines_ok {a b : Ln} [z : Zl m a] [w : Zl m b] (h : 1000 * m + 1000 ≤ LM) : meet_Lines k a.d b.d = some ((llF a b).1.map P, (llF a b).2) := by
  have a1 := z.A; have a2 := z.B; have a3 := z.C; have b1 := w.A; have b2 := w.B; have b3 := w.C
  have p1 := rzMul a1 b2; have p2 := rzMul b1 a2; have p3 := rzMul a3 b2; have p4 := rzMul b3 a2; have p5 := rzMul a1 b3; have p6 := rzMul b1 a3
  have zd := det_rz z w
  have zx := lX_rz z w
  have zy := lY_rz z w
  have ed : a.A * b.B - b.A * a.B = det a b := rfl
  have ex : a.C * b.B - b.C * a.B = lX a b := rfl
  have ey : a.A * b.C - b.A * a.C = lY a b := rfl
  have hs := fun hd => sameLine_ok (k := k) (z := z) (w := w) h hd
  unfold meet_Lines
  unfold Ln.d at *
  dsimp only at *
  rw [mMul (x := a1) (y := b2) (by omega), Option.bind_some, mMul (x := b1) (y := a2) (by omega), Option.bind_some, mSub (x := p1) (y := p2) (by omega), Option.bind_some, ed, qSign, Option.bind_some, beq0]
  unfold llF
  by_cases hd : det a b = 0
  · rw [if_pos hd, cdec hd, cond_true, hs hd, Option.bind_some]
    by_cases g : lX a b = 0 ∧ lY a b = 0
    · rw [cdec g, if_pos g]; rfl
    · rw [cdecF g, if_neg g]; rfl
  · rw [if_neg hd, cdecF hd, cond_false, mMul (x := a3) (y := b2) (by omega), Option.bind_some, mMul (x := b3) (y := a2) (by omega), Option.bind_some, mSub (x := p3) (y := p4) (by omega), Option.bind_some, ex, mDiv (x := zx) (y := zd) (by omega) hd, Option.bind_some,
      mMul (x := a1) (y := b3) (by omega), Option.bind_some, mMul (x := b1) (y := a3) (by omega), Option.bind_some, mSub (x := p5) (y := p6) (by omega), Option.bind_some, ey, mDiv (x := zy) (y := zd) (by omega) hd, Option.bind_some, pAt]
    rfl
theorem rlines_ok {a b : Ln} [z : Zl m a] [w : Zl m b] (h : 1000 * m + 1000 ≤ LM) : swarfref09_Lines k a.d b.d = some ((llF a b).1.map P, (llF a b).2) := by
  have a1 := z.A; have a2 := z.B; have a3 := z.C; have b1 := w.A; have b2 := w.B; have b3 := w.C
  have p1 := rzMul a1 b2; have p2 := rzMul b1 a2; have p3 := rzMul a3 b2; have p4 := rzMul b3 a2; have p5 := rzMul a1 b3; have p6 := rzMul b1 a3
  have zd := det_rz z w
  have zx := lX_rz z w
  have zy := lY_rz z w
  have ed : a.A * b.B - b.A * a.B = det a b := rfl
  have ex : a.C * b.B - b.C * a.B = lX a b := rfl
  have ey : a.A * b.C - b.A * a.C = lY a b := rfl
  unfold swarfref09_Lines swarfref09_Cross Ln.d
  dsimp only
  rw [rMul9 (x := a1) (y := b2) (by omega), Option.bind_some, rMul9 (x := b1) (y := a2) (by omega), Option.bind_some, rSub9 (x := p1) (y := p2) (by omega), Option.bind_some, Option.bind_some,
    rMul9 (x := a3) (y := b2) (by omega), Option.bind_some, rMul9 (x := b3) (y := a2) (by omega), Option.bind_some, rSub9 (x := p3) (y := p4) (by omega), Option.bind_some,
    rMul9 (x := a1) (y := b3) (by omega), Option.bind_some, rMul9 (x := b1) (y := a3) (by omega), Option.bind_some, rSub9 (x := p5) (y := p6) (by omega), Option.bind_some, ed, ex, ey, rQSign, Option.bind_some, bne0]
  unfold llF
  by_cases hd : det a b = 0
  · rw [if_pos hd, cdecF (by simpa using hd), cond_false, rQSign, Option.bind_some, beq0]
    by_cases g : lX a b = 0
    · rw [cdec g, cond_true, rQSign, Option.bind_some, beq0]
      by_cases g2 : lY a b = 0
      · rw [cdec g2, if_pos ⟨g, g2⟩]; rfl
      · rw [cdecF g2, if_neg (fun e => g2 e.2)]; rfl
    · rw [cdecF g, if_neg (fun e => g e.1)]; rfl
  · rw [if_neg hd, cdec hd, cond_true, rOver9 (x := zx) (y := zd) (by omega) hd, Option.bind_some, rOver9 (x := zy) (y := zd) (by omega) hd, Option.bind_some, rAt]
    rfl

/-! ### Two circles -/
def pw (c : Ci) : Rat := c.X * c.X + c.Y * c.Y - c.Q
/-- The radical line. -/
def rad (c d : Ci) : Ln := ⟨2 * (d.X - c.X), 2 * (d.Y - c.Y), pw d - pw c⟩
def conc (c d : Ci) : Prop := c.X = d.X ∧ c.Y = d.Y
omit F in
theorem rad_ok {c d : Ci} (h : ¬ conc c d) : Lok (rad c d) := by
  unfold conc at h
  unfold Lok rad
  dsimp only
  by_cases h1 : c.X = d.X
  · right; intro e; exact h ⟨h1, by grind⟩
  · left; intro e; exact h1 (by grind)
omit F in
theorem two_rz : Rz 3 (2 : Rat) := rzInt (z := 2) (by decide) (by decide)
omit F in
theorem pw_rz {c : Ci} (z : Zc m c) : Rz (5 * m + 2) (pw c) := (rzSub (rzAdd (rzMul z.X z.X) (rzMul z.Y z.Y)) z.Q).mono (by omega)
omit F in
theorem rad_zl {c d : Ci} (z : Zc m c) (w : Zc m d) : Zl (10 * m + 5) (rad c d) :=
  ⟨(rzMul two_rz (rzSub w.X z.X)).mono (by omega), (rzMul two_rz (rzSub w.Y z.Y)).mono (by omega), (rzSub (pw_rz w) (pw_rz z)).mono (by omega)⟩
theorem concentric_ok {c d : Ci} [z : Zc m c] [w : Zc m d] (h : 1000 * m + 1000 ≤ LM) : meet_concentric k c.d d.d = some (decide (c.X = d.X ∧ c.Y = d.Y)) := by
  have a1 := z.X; have a2 := z.Y; have b1 := w.X; have b2 := w.Y
  unfold meet_concentric Ci.d
  dsimp only
  rw [qCmp (x := a1) (y := b1) (by omega), Option.bind_some]
  by_cases h1 : c.X = d.X
  · rw [show (cmpQ c.X d.X == 0) = true by rw [beq_iff_eq, cmpQ_zero]; exact h1, cond_true, qCmp (x := a2) (y := b2) (by omega), Option.bind_some]
    by_cases h2 : c.Y = d.Y
    · rw [show (cmpQ c.Y d.Y == 0) = true by rw [beq_iff_eq, cmpQ_zero]; exact h2, decide_eq_true ⟨h1, h2⟩]
    · rw [show (cmpQ c.Y d.Y == 0) = false by rw [beq_eq_false_iff_ne, Ne, cmpQ_zero]; exact h2, decide_eq_false (fun e => h2 e.2)]
  · rw [show (cmpQ c.X d.X == 0) = false by rw [beq_eq_false_iff_ne, Ne, cmpQ_zero]; exact h1, cond_false, decide_eq_false (fun e => h1 e.1)]
theorem rconcentric_ok {c d : Ci} [z : Zc m c] [w : Zc m d] (h : 1000 * m + 1000 ≤ LM) : swarfref09_Concentric k c.d d.d = some (decide (c.X = d.X ∧ c.Y = d.Y)) := by
  have a1 := z.X; have a2 := z.Y; have b1 := w.X; have b2 := w.Y
  unfold swarfref09_Concentric Ci.d
  dsimp only
  rw [rQCmp (x := a1) (y := b1) (by omega), Option.bind_some]
  by_cases h1 : c.X = d.X
  · rw [show (cmpQ c.X d.X == 0) = true by rw [beq_iff_eq, cmpQ_zero]; exact h1, cond_true, rQCmp (x := a2) (y := b2) (by omega), Option.bind_some]
    by_cases h2 : c.Y = d.Y
    · rw [show (cmpQ c.Y d.Y == 0) = true by rw [beq_iff_eq, cmpQ_zero]; exact h2, decide_eq_true ⟨h1, h2⟩]
    · rw [show (cmpQ c.Y d.Y == 0) = false by rw [beq_eq_false_iff_ne, Ne, cmpQ_zero]; exact h2, decide_eq_false (fun e => h2 e.2)]
  · rw [show (cmpQ c.X d.X == 0) = false by rw [beq_eq_false_iff_ne, Ne, cmpQ_zero]; exact h1, cond_false, decide_eq_false (fun e => h1 e.1)]
theorem pw_ok {c : Ci} [z : Zc m c] (h : 1000 * m + 1000 ≤ LM) : meet_Radical_1 k c.d = some (Q (pw c)) := by
  have a1 := z.X; have a2 := z.Y; have a3 := z.Q
  have p1 := rzMul a1 a1; have p2 := rzMul a2 a2
  unfold meet_Radical_1 Ci.d
  dsimp only
  rw [mMul (x := a1) (y := a1) (by omega), Option.bind_some, mMul (x := a2) (y := a2) (by omega), Option.bind_some, mAdd (x := p1) (y := p2) (by omega), Option.bind_some, mSub (x := rzAdd p1 p2) (y := a3) (by omega)]; rfl
theorem radical_ok {c d : Ci} [z : Zc m c] [w : Zc m d] (h : 1000 * m + 1000 ≤ LM) : meet_Radical k c.d d.d = some (if c.X = d.X ∧ c.Y = d.Y then (⟨zR, zR, zR⟩, 6) else ((rad c d).d, 0)) := by
  have a1 := z.X; have a2 := z.Y; have b1 := w.X; have b2 := w.Y
  unfold meet_Radical
  rw [concentric_ok h, Option.bind_some]
  by_cases g : c.X = d.X ∧ c.Y = d.Y
  · rw [cdec g, if_pos g]; rfl
  · rw [cdecF g, cond_false, if_neg g, pw_ok h, pw_ok h]
    unfold Ci.d
    dsimp only
    have e2 : ((2 : Int) : Rat) = (2 : Rat) := rfl
    rw [qFrom (by omega) (by omega), e2, Option.bind_some, mSub (x := b1) (y := a1) (by omega), Option.bind_some, mMul (x := two_rz) (y := rzSub b1 a1) (by omega), Option.bind_some, mSub (x := b2) (y := a2) (by omega), Option.bind_some, mMul (x := two_rz) (y := rzSub b2 a2) (by omega), Option.bind_some,
      Option.bind_some, Option.bind_some, mSub (x := pw_rz w) (y := pw_rz z) (by omega)]
    rfl
theorem rradical_ok {c d : Ci} [z : Zc m c] [w : Zc m d] (h : 1000 * m + 1000 ≤ LM) : swarfref09_Radical k c.d d.d = some (if c.X = d.X ∧ c.Y = d.Y then (⟨zR, zR, zR⟩, 6) else ((rad c d).d, 0)) := by
  have a1 := z.X; have a2 := z.Y; have a3 := z.Q; have b1 := w.X; have b2 := w.Y; have b3 := w.Q
  have p1 := rzMul a1 a1; have p2 := rzMul a2 a2; have q1 := rzMul b1 b1; have q2 := rzMul b2 b2
  unfold swarfref09_Radical
  rw [rconcentric_ok h, Option.bind_some]
  by_cases g : c.X = d.X ∧ c.Y = d.Y
  · rw [cdec g, if_pos g]; rfl
  · rw [cdecF g, cond_false, if_neg g]
    unfold Ci.d
    dsimp only
    have e2 : ((2 : Int) : Rat) = (2 : Rat) := rfl
    rw [rQFrom (by omega) (by omega), e2, Option.bind_some, rMul9 (x := a1) (y := a1) (by omega), Option.bind_some, rMul9 (x := a2) (y := a2) (by omega), Option.bind_some, rAdd9 (x := p1) (y := p2) (by omega), Option.bind_some, rSub9 (x := rzAdd p1 p2) (y := a3) (by omega), Option.bind_some,
      rMul9 (x := b1) (y := b1) (by omega), Option.bind_some, rMul9 (x := b2) (y := b2) (by omega), Option.bind_some, rAdd9 (x := q1) (y := q2) (by omega), Option.bind_some, rSub9 (x := rzAdd q1 q2) (y := b3) (by omega), Option.bind_some,
      rSub9 (x := b1) (y := a1) (by omega), Option.bind_some, rMul9 (x := two_rz) (y := rzSub b1 a1) (by omega), Option.bind_some, rSub9 (x := b2) (y := a2) (by omega), Option.bind_some, rMul9 (x := two_rz) (y := rzSub b2 a2) (by omega), Option.bind_some,
      show d.X * d.X + d.Y * d.Y - d.Q = pw d from rfl, show c.X * c.X + c.Y * c.Y - c.Q = pw c from rfl, rSub9 (x := pw_rz w) (y := pw_rz z) (by omega)]
    rfl
open Classical in
noncomputable def ccP (c d : Ci) : List Pt × Int := if c.X = d.X ∧ c.Y = d.Y then ([], if c.Q = d.Q then 10 else 0) else (lcP (rad c d) c, 0)
open Classical in
noncomputable def ccR (c d : Ci) : List Pt × Int := if c.X = d.X ∧ c.Y = d.Y then ([], if c.Q = d.Q then 10 else 0) else (lcR (rad c d) c, 0)
theorem sameCircle_ok {c d : Ci} [z : Zc m c] [w : Zc m d] (h : 1000 * m + 1000 ≤ LM) : support_SameCircle k c.d d.d = some (decide ((c.X = d.X ∧ c.Y = d.Y) ∧ c.Q = d.Q)) := by
  have a1 := z.X; have a2 := z.Y; have a3 := z.Q; have b1 := w.X; have b2 := w.Y; have b3 := w.Q
  unfold support_SameCircle Ci.d
  dsimp only
  rw [sEqual (x := a1) (y := b1) (by omega), Option.bind_some]
  by_cases h1 : c.X = d.X
  · rw [cdec h1, cond_true, sEqual (x := a2) (y := b2) (by omega), Option.bind_some]
    by_cases h2 : c.Y = d.Y
    · rw [cdec h2, cond_true, sEqual (x := a3) (y := b3) (by omega), Option.bind_some]
      congr 1
      rw [decide_eq_decide]
      exact ⟨fun g => ⟨⟨h1, h2⟩, g⟩, fun g => g.2⟩
    · rw [cdecF h2, cond_false, decide_eq_false (fun e => h2 e.1.2)]
  · rw [cdecF h1, cond_false, decide_eq_false (fun e => h1 e.1.1)]
theorem circles_ok {c d : Ci} [z : Zc m c] [w : Zc m d] (h : 1000000 * (10 * m + 5) + 1000000 ≤ LM) : meet_Circles k c.d d.d = some ((ccP c d).1.map P, (ccP c d).2) := by
  unfold meet_Circles ccP
  rw [sameCircle_ok (by omega), Option.bind_some, concentric_ok (by omega), radical_ok (by omega)]
  by_cases g : c.X = d.X ∧ c.Y = d.Y
  · rw [if_pos g, if_pos g]
    by_cases g2 : c.Q = d.Q
    · rw [cdec ⟨g, g2⟩, if_pos g2]; rfl
    · rw [cdecF (fun e => g2 e.2), cond_false, if_neg g2, Option.bind_some, cdec g]; rfl
  · rw [if_neg g, if_neg g, cdecF (fun e => g e.1), cond_false, Option.bind_some, cdecF g, cond_false, Option.bind_some]
    dsimp only
    rw [lcP_ok (z := rad_zl z w) (w := z.mono (by omega)) (by omega) (rad_ok g)]; rfl
theorem rcircles_ok {c d : Ci} [z : Zc m c] [w : Zc m d] (h : 10000000 * (10 * m + 5) + 10000000 ≤ LM) : swarfref09_Circles k c.d d.d = some ((ccR c d).1.map P, (ccR c d).2) := by
  have a3 := z.Q; have b3 := w.Q
  unfold swarfref09_Circles ccR
  rw [rconcentric_ok (by omega), Option.bind_some, rradical_ok (by omega)]
  by_cases g : c.X = d.X ∧ c.Y = d.Y
  · rw [if_pos g, if_pos g, cdec g, cond_true]
    show ((swarfref02_Cmp k (Q c.Q) (Q d.Q)).bind _) = _
    rw [rQCmp (x := a3) (y := b3) (by omega), Option.bind_some]
    by_cases g2 : c.Q = d.Q
    · rw [show (cmpQ c.Q d.Q == 0) = true by rw [beq_iff_eq, cmpQ_zero]; exact g2, if_pos g2]; rfl
    · rw [show (cmpQ c.Q d.Q == 0) = false by rw [beq_eq_false_iff_ne, Ne, cmpQ_zero]; exact g2, if_neg g2]; rfl
  · rw [if_neg g, if_neg g, cdecF g, cond_false, Option.bind_some]
    dsimp only
    rw [lcR_ok (z := rad_zl z w) (w := z.mono (by omega)) (by omega) (by omega) (rad_ok g)]; rfl
omit F in
theorem cc_same {c d : Ci} : PwEq (ccP c d).1 (ccR c d).1 ∧ (ccP c d).2 = (ccR c d).2 := by
  unfold ccP ccR
  by_cases g : c.X = d.X ∧ c.Y = d.Y
  · rw [if_pos g, if_pos g]; exact ⟨trivial, rfl⟩
  · rw [if_neg g, if_neg g]; exact ⟨lc_same (rad_ok g), rfl⟩
omit F in
theorem ccP_zp {c d : Ci} (z : Zc m c) (w : Zc m d) : ∀ p ∈ (ccP c d).1, Zp (200 * (10 * m + 5) + 200) p := by
  unfold ccP
  split
  · intro p hp; cases hp
  · exact lcP_zp (rad_zl z w) (z.mono (by omega))
omit F in
theorem ccR_zp {c d : Ci} (z : Zc m c) (w : Zc m d) : ∀ p ∈ (ccR c d).1, Zp (200 * (10 * m + 5) + 200) p := by
  unfold ccR
  split
  · intro p hp; cases hp
  · exact lcR_zp (rad_zl z w) (z.mono (by omega))
omit F in
theorem ccP_vp {c d : Ci} : ∀ p ∈ (ccP c d).1, Vp p := by
  unfold ccP
  split
  · intro p hp; cases hp
  · exact lcP_vp
omit F in
theorem lcP_len {l : Ln} {c : Ci} : (lcP l c).length ≤ 2 := by unfold lcP; split; simp; split <;> simp
omit F in
theorem ccP_len {c d : Ci} : (ccP c d).1.length ≤ 2 := by unfold ccP; split; simp; exact lcP_len

/-! ### Two supports -/
noncomputable def suP (s t : Bool) (l : Ln) (c : Ci) (l' : Ln) (c' : Ci) : List Pt × Int := match s, t with
  | true, true => ccP c c'
  | true, false => (lcP l' c, 0)
  | false, true => (lcP l c', 0)
  | false, false => llF l l'
noncomputable def suR (s t : Bool) (l : Ln) (c : Ci) (l' : Ln) (c' : Ci) : List Pt × Int := match s, t with
  | true, true => ccR c c'
  | true, false => (lcR l' c, 0)
  | false, true => (lcR l c', 0)
  | false, false => llF l l'
theorem supports_ok {a b : CurveD} {l l' : Ln} {c c' : Ci} (h1 : a.Line = l.d) (h2 : a.Circle = c.d) (h3 : b.Line = l'.d) (h4 : b.Circle = c'.d) (z1 : Zl 5 l) (z2 : Zc 2 c) (z3 : Zl 5 l') (z4 : Zc 2 c') (o1 : Lok l) (o2 : Lok l') :
    meet_Supports k a b = some ((suP a.Arc b.Arc l c l' c').1.map P, (suP a.Arc b.Arc l c l' c').2) := by
  unfold meet_Supports suP
  rw [h1, h2, h3, h4]
  cases ha : a.Arc <;> cases hb : b.Arc
  · simp only [cond_false]
    rw [lines_ok (z := z1) (w := z3) (by decide)]; rfl
  · simp only [cond_false, cond_true]
    rw [lcP_ok (z := z1) (w := z4.mono (by omega)) (by decide) o1]; rfl
  · simp only [cond_false, cond_true]
    rw [lcP_ok (z := z3) (w := z2.mono (by omega)) (by decide) o2]; rfl
  · simp only [cond_true]
    rw [circles_ok (z := z2) (w := z4) (by decide)]; rfl
theorem rsupports_ok {a b : CurveD} {l l' : Ln} {c c' : Ci} (h1 : a.Line = l.d) (h2 : a.Circle = c.d) (h3 : b.Line = l'.d) (h4 : b.Circle = c'.d) (z1 : Zl 5 l) (z2 : Zc 2 c) (z3 : Zl 5 l') (z4 : Zc 2 c') (o1 : Lok l) (o2 : Lok l') :
    swarfref09_Supports k a b = some ((suR a.Arc b.Arc l c l' c').1.map P, (suR a.Arc b.Arc l c l' c').2) := by
  unfold swarfref09_Supports suR
  rw [h1, h2, h3, h4]
  cases ha : a.Arc <;> cases hb : b.Arc
  · simp only [cond_false]
    rw [rlines_ok (z := z1) (w := z3) (by decide)]; rfl
  · simp only [cond_false, cond_true]
    rw [lcR_ok (z := z1) (w := z4.mono (by omega)) (by omega) (by decide) o1]; rfl
  · simp only [cond_false, cond_true]
    rw [lcR_ok (z := z3) (w := z2.mono (by omega)) (by omega) (by decide) o2]; rfl
  · simp only [cond_true]
    rw [rcircles_ok (z := z2) (w := z4) (by decide)]; rfl
omit F in
theorem su_same {s t : Bool} {l l' : Ln} {c c' : Ci} (o1 : Lok l) (o2 : Lok l') : PwEq (suP s t l c l' c').1 (suR s t l c l' c').1 ∧ (suP s t l c l' c').2 = (suR s t l c l' c').2 := by
  cases s <;> cases t
  · exact ⟨PwEq.self llF_vp, rfl⟩
  · exact ⟨lc_same o1, rfl⟩
  · exact ⟨lc_same o2, rfl⟩
  · exact cc_same
omit F in
theorem suP_vp {s t : Bool} {l l' : Ln} {c c' : Ci} : ∀ p ∈ (suP s t l c l' c').1, Vp p := by
  cases s <;> cases t
  · exact llF_vp
  · exact lcP_vp
  · exact lcP_vp
  · exact ccP_vp
omit F in
theorem suP_len {s t : Bool} {l l' : Ln} {c c' : Ci} : (suP s t l c l' c').1.length ≤ 2 := by
  cases s <;> cases t
  · exact llF_len
  · exact lcP_len
  · exact lcP_len
  · exact ccP_len
omit F in
theorem suP_zp {s t : Bool} {l l' : Ln} {c c' : Ci} (z1 : Zl 5 l) (z2 : Zc 2 c) (z3 : Zl 5 l') (z4 : Zc 2 c') : ∀ p ∈ (suP s t l c l' c').1, Zp 5200 p := by
  cases s <;> cases t
  · exact fun p hp => (llF_zp z1 z3 p hp).mono (by omega)
  · exact fun p hp => (lcP_zp z1 (z4.mono (by omega)) p hp).mono (by omega)
  · exact fun p hp => (lcP_zp z3 (z2.mono (by omega)) p hp).mono (by omega)
  · exact fun p hp => (ccP_zp z2 z4 p hp).mono (by omega)
omit F in
theorem suR_zp {s t : Bool} {l l' : Ln} {c c' : Ci} (z1 : Zl 5 l) (z2 : Zc 2 c) (z3 : Zl 5 l') (z4 : Zc 2 c') : ∀ p ∈ (suR s t l c l' c').1, Zp 5200 p := by
  cases s <;> cases t
  · exact fun p hp => (llF_zp z1 z3 p hp).mono (by omega)
  · exact fun p hp => (lcR_zp z1 (z4.mono (by omega)) p hp).mono (by omega)
  · exact fun p hp => (lcR_zp z3 (z2.mono (by omega)) p hp).mono (by omega)
  · exact fun p hp => (ccR_zp z2 z4 p hp).mono (by omega)

/-! ### Extreme points -/
omit F in
theorem one_rz3 : Rz 3 (1 : Rat) := rzInt (z := 1) (by decide) (by decide)
theorem extremes_ok {c : Ci} [z : Zc m c] (h : 1000 * m + 100000 ≤ LM) (hm : 3 ≤ m) (hq : 0 < c.Q) : meet_Extremes k c.d = some (P (surdP c.X (-1) c.Y 0 c.Q), P (surdP c.X 1 c.Y 0 c.Q)) := by
  have a1 := z.X; have a2 := z.Y; have a3 := z.Q
  have o : Rz m (1 : Rat) := one_rz3.mono hm
  have no := rzNeg o
  have zz : Rz m (0 : Rat) := zero_rz.mono (by omega)
  have e1 : ((1 : Int) : Rat) = (1 : Rat) := rfl
  have e0 : ((0 : Int) : Rat) = (0 : Rat) := rfl
  unfold meet_Extremes Ci.d
  dsimp only
  rw [qFrom (by omega) (by omega), Option.bind_some, qFrom (by omega) (by omega), Option.bind_some, e1, e0, qNeg (x := o) (by omega), Option.bind_some, surd_eq (zx := a1) (zu := no) (zy := a2) (zv := zz) (zq := a3) (by omega) (Rat.le_of_lt hq), Option.bind_some,
    surd_eq (zx := a1) (zu := o) (zy := a2) (zv := zz) (zq := a3) (by omega) (Rat.le_of_lt hq), Option.bind_some]
theorem rextremes_ok {c : Ci} [z : Zc m c] (h : 1000 * m + 100000 ≤ LM) (hm : 3 ≤ m) (hq : 0 < c.Q) : swarfref09_Extremes k c.d = some (P (surdP c.X (-1) c.Y 0 c.Q), P (surdP c.X 1 c.Y 0 c.Q)) := by
  have a1 := z.X; have a2 := z.Y; have a3 := z.Q
  have o : Rz m (1 : Rat) := one_rz3.mono hm
  have no := rzNeg o
  have zz : Rz m (0 : Rat) := zero_rz.mono (by omega)
  have e1 : ((1 : Int) : Rat) = (1 : Rat) := rfl
  have e0 : ((0 : Int) : Rat) = (0 : Rat) := rfl
  unfold swarfref09_Extremes Ci.d
  dsimp only
  rw [rQFrom (by omega) (by omega), Option.bind_some, rQFrom (by omega) (by omega), Option.bind_some, e1, e0, rNeg9 (x := o) (by omega), Option.bind_some, rReduced9 (zx := a1) (zu := no) (zy := a2) (zv := zz) (zq := a3) (by omega) (by grind), Option.bind_some,
    rReduced9 (zx := a1) (zu := o) (zy := a2) (zv := zz) (zq := a3) (by omega) (by grind), Option.bind_some]
end
end Go.Proofs.YtbjkpogfgijmaaaGreat
