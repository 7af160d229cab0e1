/- Plain laws: common points of a line and a circle: what the program and the reference answer. -/
import Derived.Test.YtbjkpogfgijmaaaGreatMe0
import Derived.Test.YtbjkpogfgijmaaaGreatAwake9
namespace Go.Proofs.YtbjkpogfgijmaaaGreat
open Go
set_option linter.unusedVariables false
set_option linter.unusedSimpArgs false

structure Ln where
  A : Rat
  B : Rat
  C : Rat
structure Ci where
  X : Rat
  Y : Rat
  Q : Rat
def Ln.d (l : Ln) : LineD := ⟨Q l.A, Q l.B, Q l.C⟩
def Ci.d (c : Ci) : CircleD := ⟨Go.Proofs.YtbjkpogfgijmaaaGreat.Q c.X, Go.Proofs.YtbjkpogfgijmaaaGreat.Q c.Y, Go.Proofs.YtbjkpogfgijmaaaGreat.Q c.Q⟩
class Zl (n : outParam Nat) (l : Ln) : Prop where
  A : Rz n l.A
  B : Rz n l.B
  C : Rz n l.C
class Zc (n : outParam Nat) (c : Ci) : Prop where
  X : Rz n c.X
  Y : Rz n c.Y
  Q : Rz n c.Q
theorem Zl.mono {m n : Nat} {p : Ln} (z : Zl m p) (h : m ≤ n) : Zl n p := ⟨z.A.mono h, z.B.mono h, z.C.mono h⟩
theorem Zc.mono {m n : Nat} {p : Ci} (z : Zc m p) (h : m ≤ n) : Zc n p := ⟨z.X.mono h, z.Y.mono h, z.Q.mono h⟩
/-- A line: not all its points, nor none. -/
def Lok (l : Ln) : Prop := l.A ≠ 0 ∨ l.B ≠ 0
def nrm (l : Ln) : Rat := l.A * l.A + l.B * l.B
def vl (l : Ln) (x y : Rat) : Rat := l.A * x + l.B * y - l.C
def tt (l : Ln) (c : Ci) : Rat := vl l c.X c.Y / nrm l
def ftX (l : Ln) (c : Ci) : Rat := c.X - tt l c * l.A
def ftY (l : Ln) (c : Ci) : Rat := c.Y - tt l c * l.B
def kk (l : Ln) (c : Ci) : Rat := (c.Q - ((ftX l c - c.X) * (ftX l c - c.X) + (ftY l c - c.Y) * (ftY l c - c.Y))) / nrm l
def room (l : Ln) (c : Ci) : Rat := nrm l * c.Q - vl l c.X c.Y * vl l c.X c.Y
def flipP (l : Ln) : Prop := l.B < 0 ∨ (l.B = 0 ∧ -l.A < 0)
instance (l : Ln) : Decidable (flipP l) := by unfold flipP; infer_instance
def dirU (l : Ln) : Rat := if flipP l then -l.B else l.B
def dirV (l : Ln) : Rat := if flipP l then - -l.A else -l.A
open Classical in
noncomputable def surdP (x u y v k : Rat) : Pt := if IsSq k then atP (x + u * rsq k) (y + v * rsq k) else if u = 0 ∧ v = 0 then atP x y else ⟨x, u, y, v, k⟩
noncomputable def lcP (l : Ln) (c : Ci) : List Pt := if kk l c < 0 then [] else if kk l c = 0 then [atP (ftX l c) (ftY l c)] else [surdP (ftX l c) (-dirU l) (ftY l c) (-dirV l) (kk l c), surdP (ftX l c) (dirU l) (ftY l c) (dirV l) (kk l c)]
noncomputable def lcQ (l : Ln) (c : Ci) : Pt × Pt := (surdP (ftX l c) (-(l.B / nrm l)) (ftY l c) (-(-l.A / nrm l)) (room l c), surdP (ftX l c) (l.B / nrm l) (ftY l c) (-l.A / nrm l) (room l c))
noncomputable def lcR (l : Ln) (c : Ci) : List Pt := if room l c < 0 then [] else if room l c = 0 then [atP (ftX l c) (ftY l c)] else if cmpP (lcQ l c).1 (lcQ l c).2 > 0 then [(lcQ l c).2, (lcQ l c).1] else [(lcQ l c).1, (lcQ l c).2]
theorem nrm_pos {l : Ln} (h : Lok l) : 0 < nrm l := by
  unfold nrm
  have h1 := sq_nonneg l.A; have h2 := sq_nonneg l.B
  rcases h with h | h
  · have := sq_pos h; grind
  · have := sq_pos h; grind

/-! ### Sizes -/
section
variable {m : Nat} {l : Ln} {c : Ci}
theorem nrm_rz (z : Zl m l) : Rz (4 * m + 1) (nrm l) := (rzAdd (rzMul z.A z.A) (rzMul z.B z.B)).mono (by omega)
theorem vl_rz {x y : Rat} (z : Zl m l) (hx : Rz m x) (hy : Rz m y) : Rz (5 * m + 2) (vl l x y) := (rzSub (rzAdd (rzMul z.A hx) (rzMul z.B hy)) z.C).mono (by omega)
theorem tt_rz (z : Zl m l) (w : Zc m c) : Rz (9 * m + 3) (tt l c) := (rzQuo (vl_rz z w.X w.Y) (nrm_rz z)).mono (by omega)
theorem ftX_rz (z : Zl m l) (w : Zc m c) : Rz (11 * m + 4) (ftX l c) := (rzSub w.X (rzMul (tt_rz z w) z.A)).mono (by omega)
theorem ftY_rz (z : Zl m l) (w : Zc m c) : Rz (11 * m + 4) (ftY l c) := (rzSub w.Y (rzMul (tt_rz z w) z.B)).mono (by omega)
theorem kk_rz (z : Zl m l) (w : Zc m c) : Rz (53 * m + 30) (kk l c) := by
  have h1 := rzSub (ftX_rz z w) w.X
  have h2 := rzSub (ftY_rz z w) w.Y
  exact (rzQuo (rzSub w.Q (rzAdd (rzMul h1 h1) (rzMul h2 h2))) (nrm_rz z)).mono (by omega)
theorem room_rz (z : Zl m l) (w : Zc m c) : Rz (15 * m + 6) (room l c) := (rzSub (rzMul (nrm_rz z) w.Q) (rzMul (vl_rz z w.X w.Y) (vl_rz z w.X w.Y))).mono (by omega)
theorem dirU_rz (z : Zl m l) : Rz m (dirU l) := by unfold dirU; split; exact rzNeg z.B; exact z.B
theorem dirV_rz (z : Zl m l) : Rz m (dirV l) := by unfold dirV; split; exact rzNeg (rzNeg z.A); exact rzNeg z.A
theorem atP_zp {n : Nat} {x y : Rat} (hx : Rz n x) (hy : Rz n y) (h : 2 ≤ n) : Zp n (atP x y) := ⟨hx, zero_rz.mono h, hy, zero_rz.mono h, zero_rz.mono h⟩
theorem surdP_zp {n : Nat} {x u y v q : Rat} (hx : Rz n x) (hu : Rz n u) (hy : Rz n y) (hv : Rz n v) (hq : Rz n q) (h : 2 ≤ n) : Zp (3 * n + 1) (surdP x u y v q) := by
  have hs := rzSqrt hq
  unfold surdP
  split
  · exact atP_zp ((rzAdd hx (rzMul hu hs)).mono (by omega)) ((rzAdd hy (rzMul hv hs)).mono (by omega)) (by omega)
  · split
    · exact (atP_zp hx hy h).mono (by omega)
    · exact Zp.mono ⟨hx, hu, hy, hv, hq⟩ (by omega)
theorem surdP_vp {x u y v q : Rat} (h : 0 ≤ q) : Vp (surdP x u y v q) := by
  unfold surdP
  split
  · exact .inl ⟨rfl, rfl, rfl⟩
  · rename_i hs
    have := not_sq_ne hs
    split
    · exact .inl ⟨rfl, rfl, rfl⟩
    · rename_i h2; exact .inr ⟨h2, by grind, hs⟩
end

/-! ### The program -/
section
variable {k : Nat} [F : Fuel k] {a b : Rat} {m n : Nat}
theorem mMul [x : Rz m a] [y : Rz n b] (h : 4 * (m + n) + 40 ≤ LM) : meet_mul k (Q a) (Q b) = some (Q (a * b)) := by unfold meet_mul; rw [qMul (by omega)]; rfl
theorem mAdd [x : Rz m a] [y : Rz n b] (h : 4 * (m + n) + 40 ≤ LM) : meet_add k (Q a) (Q b) = some (Q (a + b)) := by unfold meet_add; rw [qAdd h]; rfl
theorem mSub [x : Rz m a] [y : Rz n b] (h : 4 * (m + n) + 40 ≤ LM) : meet_sub k (Q a) (Q b) = some (Q (a - b)) := by unfold meet_sub; rw [qSub h]; rfl
theorem mDiv [x : Rz m a] [y : Rz n b] (h : 4 * (m + n) + 40 ≤ LM) (hb : b ≠ 0) : meet_div k (Q a) (Q b) = some (Q (a / b)) := by unfold meet_div; rw [qDiv h, if_neg hb]; rfl
theorem sMul [x : Rz m a] [y : Rz n b] (h : 4 * (m + n) + 40 ≤ LM) : support_mul k (Q a) (Q b) = some (Q (a * b)) := by unfold support_mul; rw [qMul (by omega)]; rfl
theorem sAdd [x : Rz m a] [y : Rz n b] (h : 4 * (m + n) + 40 ≤ LM) : support_add k (Q a) (Q b) = some (Q (a + b)) := by unfold support_add; rw [qAdd h]; rfl
theorem sSub [x : Rz m a] [y : Rz n b] (h : 4 * (m + n) + 40 ≤ LM) : support_sub k (Q a) (Q b) = some (Q (a - b)) := by unfold support_sub; rw [qSub h]; rfl
theorem sOver [x : Rz m a] [y : Rz n b] (h : 4 * (m + n) + 40 ≤ LM) (hb : b ≠ 0) : support_over k (Q a) (Q b) = some (Q (a / b)) := by unfold support_over; rw [qDiv h, if_neg hb]; rfl
theorem sEqual [x : Rz m a] [y : Rz n b] (h : m + n ≤ LM) : support_equal k (Q a) (Q b) = some (decide (a = b)) := by
  unfold support_equal
  rw [qCmp h, Option.bind_some]
  have : (cmpQ a b == 0) = decide (cmpQ a b = 0) := rfl
  rw [this]; congr 1; exact dec_congr cmpQ_zero
theorem pzero : point_zero k = some (Q 0) := by unfold point_zero; rw [qFrom (by omega) (by omega)]; rfl
theorem pAt {x y : Rat} : point_At k ⟨Q x, Q y⟩ = some (P (atP x y)) := by unfold point_At; rw [pzero]; rfl
theorem foot_ok {l : Ln} {c : Ci} [z : Zl m l] [w : Zc m c] (h : 1000 * m + 1000 ≤ LM) (hl : Lok l) : support_Foot k l.d ⟨Q c.X, Q c.Y⟩ = some ⟨Q (ftX l c), Q (ftY l c)⟩ := by
  have a := z.A; have b := z.B; have cc := z.C; have x := w.X; have y := w.Y
  have s1 := rzMul a x
  have s2 := rzMul b y
  have s3 := rzAdd s1 s2
  have s4 := rzSub s3 cc
  have s5 := rzMul a a
  have s6 := rzMul b b
  have s7 := rzAdd s5 s6
  have s8 := rzQuo s4 s7
  have s9 := rzMul s8 a
  have s10 := rzMul s8 b
  have hn : l.A * l.A + l.B * l.B ≠ 0 := by have := nrm_pos hl; unfold nrm at this; grind
  unfold support_Foot
  simp only [Ln.d]
  rw [sMul (by omega), Option.bind_some, sMul (by omega), Option.bind_some, sAdd (by omega), Option.bind_some, sSub (by omega), Option.bind_some, sMul (by omega), Option.bind_some, sMul (by omega), Option.bind_some, sAdd (by omega), Option.bind_some, sOver (by omega) hn, Option.bind_some,
    sMul (by omega), Option.bind_some, sSub (by omega), Option.bind_some, sMul (by omega), Option.bind_some, sSub (by omega), Option.bind_some]
  rfl
theorem depth_ok {l : Ln} {c : Ci} [z : Zl m l] [w : Zc m c] (h : 1000 * m + 1000 ≤ LM) (hl : Lok l) : meet_depth k l.d c.d = some (Q (kk l c), ⟨Q (ftX l c), Q (ftY l c)⟩) := by
  have a := z.A; have b := z.B; have x := w.X; have y := w.Y; have q := w.Q
  have fx := ftX_rz z w; have fy := ftY_rz z w
  have s1 := rzSub fx x
  have s2 := rzSub fy y
  have s3 := rzMul s1 s1
  have s4 := rzMul s2 s2
  have s5 := rzAdd s3 s4
  have s6 := rzSub q s5
  have s7 := rzMul a a
  have s8 := rzMul b b
  have s9 := rzAdd s7 s8
  have hn : l.A * l.A + l.B * l.B ≠ 0 := by have := nrm_pos hl; unfold nrm at this; grind
  unfold meet_depth
  show ((support_Foot k l.d ⟨Q c.X, Q c.Y⟩).bind _) = _
  rw [foot_ok h hl, Option.bind_some]
  simp only [Ln.d, Ci.d]
  rw [mSub (by omega), Option.bind_some, mSub (by omega), Option.bind_some, mMul (by omega), Option.bind_some, mMul (by omega), Option.bind_some, mAdd (by omega), Option.bind_some, mSub (by omega), Option.bind_some, mMul (by omega), Option.bind_some, mMul (by omega), Option.bind_some, mAdd (by omega), Option.bind_some, mDiv (by omega) hn, Option.bind_some]
  rfl
theorem pReduced {p : Pt} : point_reduced k (P p) = some (P (if p.BX = 0 ∧ p.BY = 0 then ⟨p.AX, p.BX, p.AY, p.BY, 0⟩ else p)) := by
  unfold point_reduced
  show ((rational_Sign k (Q p.BX)).bind _) = _
  rw [qSign, Option.bind_some, beq0]
  by_cases hx : p.BX = 0
  · rw [cdec hx, cond_true]
    show ((rational_Sign k (Q p.BY)).bind _) = _
    rw [qSign, Option.bind_some, beq0]
    by_cases hy : p.BY = 0
    · rw [cdec hy, cond_true, pzero, if_pos ⟨hx, hy⟩]; rfl
    · rw [cdecF hy, cond_false, if_neg (fun h => hy h.2)]
  · rw [cdecF hx, cond_false, if_neg (fun h => hx h.1)]
theorem bne0 {a : Rat} : (sg a != 0) = decide (a ≠ 0) := by
  have : (sg a != 0) = !(sg a == 0) := rfl
  rw [this, beq0]
  by_cases h : a = 0
  · rw [cdec h, cdecF (by simpa using h)]; rfl
  · rw [cdecF h, cdec h]; rfl
theorem surd_eq {x u y v q : Rat} [zx : Rz n x] [zu : Rz n u] [zy : Rz n y] [zv : Rz n v] [zq : Rz n q] (h : 1000 * n + 1000 ≤ LM) (hq : 0 ≤ q) : meet_surd k (Q x) (Q u) (Q y) (Q v) (Q q) = some (P (surdP x u y v q)) := by
  unfold meet_surd
  rw [make_eq (by omega), if_neg (mk_nonneg_lt.2 hq), Option.bind_some, make_eq (by omega), if_neg (mk_nonneg_lt.2 hq), Option.bind_some]
  dsimp only
  unfold mk surdP point_Make
  by_cases hs : IsSq q
  · simp only [if_pos hs]
    show ((((rational_Sign k (Q 0)).bind _)).bind _) = _
    rw [qSign, Option.bind_some, beq0, cdec rfl, cond_true]
    show ((((point_reduced k (P ⟨x + u * rsq q, 0, y + v * rsq q, 0, 0⟩)).bind _)).bind _) = _
    rw [pReduced]; simp [atP]
  · simp only [if_neg hs]
    by_cases hu : u = 0
    · simp only [if_pos hu]
      show ((((rational_Sign k (Q 0)).bind _)).bind _) = _
      rw [qSign, Option.bind_some, beq0, cdec rfl, cond_true]
      by_cases hv : v = 0
      · simp only [if_pos hv]
        show ((((point_reduced k (P ⟨x, 0, y, 0, 0⟩)).bind _)).bind _) = _
        rw [pReduced]; simp [atP, hu, hv]
      · simp only [if_neg hv]
        show ((((point_reduced k (P ⟨x, 0, y, v, q⟩)).bind _)).bind _) = _
        rw [pReduced]; simp [hu, hv]
    · simp only [if_neg hu]
      show ((((rational_Sign k (Q u)).bind _)).bind _) = _
      rw [qSign, Option.bind_some, beq0, cdecF hu, cond_false]
      by_cases hv : v = 0
      · simp only [if_pos hv]
        show ((((rational_Sign k (Q 0)).bind _)).bind _) = _
        rw [qSign, Option.bind_some, bne0, cdecF (by simp), cond_false]
        show ((((point_reduced k (P ⟨x, u, y, 0, q⟩)).bind _)).bind _) = _
        rw [pReduced]; simp [hu, hv]
      · simp only [if_neg hv]
        show ((((rational_Sign k (Q v)).bind _)).bind _) = _
        rw [qSign, Option.bind_some, bne0, cdec hv, cond_true]
        show ((((rational_Cmp k (Q q) (Q q)).bind _)).bind _) = _
        have hc : (cmpQ q q != 0) = false := by rw [cmpQ_zero.2 rfl]; rfl
        rw [qCmp (by omega), Option.bind_some, hc, cond_false]
        show ((((point_reduced k (P ⟨x, u, y, v, q⟩)).bind _)).bind _) = _
        rw [pReduced]; simp [hu]
theorem lcP_ok {l : Ln} {c : Ci} [z : Zl m l] [w : Zc m c] (h : 100000 * m + 100000 ≤ LM) (hl : Lok l) : meet_LineCircle k l.d c.d = some ((lcP l c).map P) := by
  have a := z.A; have b := z.B
  have na := rzNeg a
  have nna := rzNeg na
  have nb := rzNeg b
  have fx : Rz (60 * m + 60) (ftX l c) := (ftX_rz z w).mono (by omega)
  have fy : Rz (60 * m + 60) (ftY l c) := (ftY_rz z w).mono (by omega)
  have zk : Rz (60 * m + 60) (kk l c) := (kk_rz z w).mono (by omega)
  have zu : Rz (60 * m + 60) (dirU l) := (dirU_rz z).mono (by omega)
  have zv : Rz (60 * m + 60) (dirV l) := (dirV_rz z).mono (by omega)
  have nu := rzNeg zu
  have nv := rzNeg zv
  unfold meet_LineCircle
  rw [depth_ok (by omega) hl, Option.bind_some]
  dsimp only
  rw [qSign, Option.bind_some]
  unfold lcP
  rcases sg_eq_of (kk l c) with ⟨h1, e1⟩ | ⟨h1, e1⟩ | ⟨h1, e1⟩
  · rw [e1, if_pos h1]; rfl
  · rw [e1, if_neg (by rw [h1]; grind), if_pos h1]
    show ((point_At k ⟨Q (ftX l c), Q (ftY l c)⟩).bind _) = _
    rw [pAt]; rfl
  · rw [e1, if_neg (by grind), if_neg (by grind)]
    show ((rational_Neg k (Q l.A)).bind _) = _
    have two : ∀ u v : Rat, u = dirU l → v = dirV l → ((rational_Neg k (Q u)).bind fun x8 => (rational_Neg k (Q v)).bind fun x9 => (meet_surd k (Q (ftX l c)) x8 (Q (ftY l c)) x9 (Q (kk l c))).bind fun x10 => (meet_surd k (Q (ftX l c)) (Q u) (Q (ftY l c)) (Q v) (Q (kk l c))).bind fun x11 => some ([x10, x11] : List PointD)) = some ([surdP (ftX l c) (-dirU l) (ftY l c) (-dirV l) (kk l c), surdP (ftX l c) (dirU l) (ftY l c) (dirV l) (kk l c)].map P) := by
      rintro u v rfl rfl
      rw [qNeg (by omega), Option.bind_some, qNeg (by omega), Option.bind_some, surd_eq (by omega) (by grind), Option.bind_some, surd_eq (by omega) (by grind)]; rfl
    rw [qNeg (by omega), Option.bind_some]
    show ((rational_Sign k (Q l.B)).bind _) = _
    rw [qSign, Option.bind_some, lt0, beq0]
    by_cases hb : l.B < 0
    · have hf : flipP l := .inl hb
      rw [cdec hb, cond_true]
      show ((rational_Neg k (Q l.B)).bind _) = _
      rw [qNeg (by omega), Option.bind_some, qNeg (by omega), Option.bind_some]
      exact two _ _ (by unfold dirU; rw [if_pos hf]) (by unfold dirV; rw [if_pos hf])
    · rw [cdecF hb, cond_false]
      by_cases hb0 : l.B = 0
      · rw [cdec hb0, cond_true, qSign, Option.bind_some, lt0]
        by_cases ha : -l.A < 0
        · have hf : flipP l := .inr ⟨hb0, ha⟩
          rw [cdec ha, cond_true]
          show ((rational_Neg k (Q l.B)).bind _) = _
          rw [qNeg (by omega), Option.bind_some, qNeg (by omega), Option.bind_some]
          exact two _ _ (by unfold dirU; rw [if_pos hf]) (by unfold dirV; rw [if_pos hf])
        · have hf : ¬ flipP l := by unfold flipP; grind
          rw [cdecF ha, cond_false]
          exact two _ _ (by unfold dirU; rw [if_neg hf]) (by unfold dirV; rw [if_neg hf])
      · have hf : ¬ flipP l := by unfold flipP; grind
        rw [cdecF hb0, cond_false]
        exact two _ _ (by unfold dirU; rw [if_neg hf]) (by unfold dirV; rw [if_neg hf])
theorem touches_ok {l : Ln} {c : Ci} [z : Zl m l] [w : Zc m c] (h : 1000 * m + 1000 ≤ LM) (hl : Lok l) : meet_Touches k l.d c.d = some (decide (kk l c = 0)) := by
  unfold meet_Touches
  rw [depth_ok h hl, Option.bind_some]
  dsimp only
  rw [qSign, Option.bind_some, beq0]

/-! ### The reference -/
theorem rMul9 [x : Rz m a] [y : Rz n b] (h : 4 * (m + n) + 40 ≤ LM) : swarfref09_mul k (Q a) (Q b) = some (Q (a * b)) := by unfold swarfref09_mul; rw [rQMul (by omega)]; rfl
theorem rAdd9 [x : Rz m a] [y : Rz n b] (h : 4 * (m + n) + 40 ≤ LM) : swarfref09_add k (Q a) (Q b) = some (Q (a + b)) := by unfold swarfref09_add; rw [rQAdd h]; rfl
theorem rSub9 [x : Rz m a] [y : Rz n b] (h : 4 * (m + n) + 40 ≤ LM) : swarfref09_sub k (Q a) (Q b) = some (Q (a - b)) := by unfold swarfref09_sub; rw [rQSub h]; rfl
theorem rNeg9 [x : Rz m a] (h : m ≤ LM) : swarfref09_neg k (Q a) = some (Q (-a)) := by unfold swarfref09_neg; rw [rQNeg h]; rfl
theorem rOver9 [x : Rz m a] [y : Rz n b] (h : 4 * (m + n) + 40 ≤ LM) (hb : b ≠ 0) : swarfref09_over k (Q a) (Q b) = some (Q (a / b)) := by unfold swarfref09_over; rw [rQDiv h, if_neg hb]; rfl
theorem rValue9 {l : Ln} {x y : Rat} [z : Zl m l] [zx : Rz m x] [zy : Rz m y] (h : 100 * m + 1000 ≤ LM) : swarfref09_Value k l.d (Q x) (Q y) = some (Q (vl l x y)) := by
  have a := z.A; have b := z.B; have cc := z.C
  have s1 := rzMul a zx
  have s2 := rzMul b zy
  have s3 := rzAdd s1 s2
  unfold swarfref09_Value
  simp only [Ln.d]
  rw [rMul9 (by omega), Option.bind_some, rMul9 (by omega), Option.bind_some, rAdd9 (by omega), Option.bind_some, rSub9 (by omega)]; rfl
theorem rNorm9 {l : Ln} [z : Zl m l] (h : 100 * m + 1000 ≤ LM) : swarfref09_Norm k l.d = some (Q (nrm l)) := by
  have a := z.A; have b := z.B
  have s1 := rzMul a a
  have s2 := rzMul b b
  unfold swarfref09_Norm
  simp only [Ln.d]
  rw [rMul9 (by omega), Option.bind_some, rMul9 (by omega), Option.bind_some, rAdd9 (by omega)]; rfl
theorem rRoom9 {l : Ln} {c : Ci} [z : Zl m l] [w : Zc m c] (h : 1000 * m + 1000 ≤ LM) : swarfref09_Room k l.d c.d = some (Q (room l c)) := by
  have x := w.X; have y := w.Y; have q := w.Q
  have s1 := vl_rz z x y
  have s2 := nrm_rz z
  have s3 := rzMul s2 q
  have s4 := rzMul s1 s1
  unfold swarfref09_Room
  simp only [Ci.d]
  rw [rValue9 (by omega), Option.bind_some, rNorm9 (by omega), Option.bind_some, rMul9 (by omega), Option.bind_some, rMul9 (by omega), Option.bind_some, rSub9 (by omega)]; rfl
theorem rReduced9 {x u y v q : Rat} [zx : Rz n x] [zu : Rz n u] [zy : Rz n y] [zv : Rz n v] [zq : Rz n q] (h : 1000 * n + 1000 ≤ LM) (hn : ¬ (u = 0 ∧ v = 0)) : swarfref09_Reduced k (Q x) (Q u) (Q y) (Q v) (Q q) = some (P (surdP x u y v q)) := by
  have s := rzSqrt zq
  have s1 := rzMul zu s
  have s2 := rzMul zv s
  unfold swarfref09_Reduced surdP
  by_cases hs : IsSq q
  · rw [rQSqrt_pos (by omega) hs, Option.bind_some, cond_true, if_pos hs]
    dsimp only
    rw [rMul9 (by omega), Option.bind_some, rAdd9 (by omega), Option.bind_some, rMul9 (by omega), Option.bind_some, rAdd9 (by omega), Option.bind_some, rAt]; rfl
  · rw [rQSqrt_neg (by omega) hs, Option.bind_some, cond_false, if_neg hs, if_neg hn]; rfl
theorem lcR_ok {l : Ln} {c : Ci} [z : Zl m l] [w : Zc m c] (hm : 2 ≤ m) (h : 10000000 * m + 10000000 ≤ LM) (hl : Lok l) : swarfref09_LineCircle k l.d c.d = some ((lcR l c).map P) := by
  have a := z.A; have b := z.B; have x := w.X; have y := w.Y
  have na := rzNeg a
  have zn := nrm_rz z
  have fx : Rz (20 * m + 20) (ftX l c) := (ftX_rz z w).mono (by omega)
  have fy : Rz (20 * m + 20) (ftY l c) := (ftY_rz z w).mono (by omega)
  have zr : Rz (20 * m + 20) (room l c) := (room_rz z w).mono (by omega)
  have zu : Rz (20 * m + 20) (l.B / nrm l) := (rzQuo b zn).mono (by omega)
  have zv : Rz (20 * m + 20) (-l.A / nrm l) := (rzQuo na zn).mono (by omega)
  have nu := rzNeg zu
  have nv := rzNeg zv
  have zt := tt_rz z w
  have ta := rzMul zt a
  have tb := rzMul zt b
  have zvl := vl_rz z x y
  have hn : nrm l ≠ 0 := by have := nrm_pos hl; grind
  have hd : ¬ (l.B / nrm l = 0 ∧ -l.A / nrm l = 0) := by
    rintro ⟨h1, h2⟩
    have e1 : l.B = 0 := by have : l.B / nrm l * nrm l = l.B := by grind
                            rw [h1] at this; grind
    have e2 : l.A = 0 := by have : -l.A / nrm l * nrm l = -l.A := by grind
                            rw [h2] at this; grind
    rcases hl with h | h; exact h e2; exact h e1
  have hd' : ¬ (-(l.B / nrm l) = 0 ∧ -(-l.A / nrm l) = 0) := fun ⟨h1, h2⟩ => hd ⟨by grind, by grind⟩
  unfold swarfref09_LineCircle
  rw [rRoom9 (by omega), Option.bind_some, rNorm9 (by omega), Option.bind_some, rQSign, Option.bind_some, lt0]
  unfold lcR
  by_cases h0 : room l c < 0
  · rw [cdec h0, cond_true, if_pos h0]; rfl
  · rw [cdecF h0, cond_false, if_neg h0]
    show ((swarfref09_Value k l.d (Q c.X) (Q c.Y)).bind _) = _
    rw [rValue9 (by omega), Option.bind_some, rOver9 (by omega) hn, Option.bind_some]
    show ((swarfref09_mul k (Q (tt l c)) (Q l.A)).bind _) = _
    rw [rMul9 (by omega), Option.bind_some]
    show ((swarfref09_sub k (Q c.X) (Q (tt l c * l.A))).bind _) = _
    rw [rSub9 (by omega), Option.bind_some]
    show ((swarfref09_mul k (Q (tt l c)) (Q l.B)).bind _) = _
    rw [rMul9 (by omega), Option.bind_some]
    show ((swarfref09_sub k (Q c.Y) (Q (tt l c * l.B))).bind _) = _
    rw [rSub9 (by omega), Option.bind_some, Option.bind_some, beq0]
    by_cases h1 : room l c = 0
    · rw [cdec h1, cond_true, if_pos h1]
      show ((swarfref07_At k ⟨Q (ftX l c), Q (ftY l c)⟩).bind _) = _
      rw [rAt]; rfl
    · rw [cdecF h1, cond_false, if_neg h1]
      show ((swarfref09_over k (Q l.B) (Q (nrm l))).bind _) = _
      rw [rOver9 (by omega) hn, Option.bind_some]
      show ((swarfref09_neg k (Q l.A)).bind _) = _
      rw [rNeg9 (by omega), Option.bind_some, rOver9 (by omega) hn, Option.bind_some, rNeg9 (by omega), Option.bind_some, rNeg9 (by omega), Option.bind_some]
      show ((swarfref09_Reduced k (Q (ftX l c)) (Q (-(l.B / nrm l))) (Q (ftY l c)) (Q (-(-l.A / nrm l))) (Q (room l c))).bind _) = _
      rw [rReduced9 (by omega) hd', Option.bind_some]
      show ((swarfref09_Reduced k (Q (ftX l c)) (Q (l.B / nrm l)) (Q (ftY l c)) (Q (-l.A / nrm l)) (Q (room l c))).bind _) = _
      rw [rReduced9 (by omega) hd, Option.bind_some]
      have z1 := surdP_zp fx nu fy nv zr (by omega)
      have z2 := surdP_zp fx zu fy zv zr (by omega)
      rw [rCompare (by omega) (by omega), Option.bind_some]
      show (bif decide (cmpP (lcQ l c).1 (lcQ l c).2 > 0) then _ else _) = _
      by_cases h2 : cmpP (lcQ l c).1 (lcQ l c).2 > 0
      · rw [cdec h2, cond_true, if_pos h2]; rfl
      · rw [cdecF h2, cond_false, if_neg h2]; rfl
end
end Go.Proofs.YtbjkpogfgijmaaaGreat
