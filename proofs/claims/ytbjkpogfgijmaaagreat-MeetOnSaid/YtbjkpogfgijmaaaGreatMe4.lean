/- Plain laws: common points lie on their lines and circles; moved, swapped and scaled lines and circles. -/
import Derived.Test.YtbjkpogfgijmaaaGreatMe3
namespace Go.Proofs.YtbjkpogfgijmaaaGreat
open Go
set_option linter.unusedVariables false
set_option linter.unusedSimpArgs false

/-! ### Points on a line -/
structure OnL (l : Ln) (p : Pt) : Prop where
  a : l.A * p.AX + l.B * p.AY - l.C = 0
  b : l.A * p.BX + l.B * p.BY = 0
  c : 0 ≤ p.C
theorem onL_at {l : Ln} {x y : Rat} (h : l.A * x + l.B * y - l.C = 0) : OnL l (atP x y) := ⟨h, by unfold atP; dsimp only; grind, by unfold atP; dsimp only; grind⟩
theorem onL_surd {l : Ln} {x u y v q : Rat} (h : l.A * x + l.B * y - l.C = 0) (g : l.A * u + l.B * v = 0) (hq : 0 ≤ q) : OnL l (surdP x u y v q) := by
  unfold surdP
  split
  · apply onL_at
    generalize rsq q = r
    grind
  · split
    · exact onL_at h
    · exact ⟨h, g, hq⟩
theorem foot_on {l : Ln} {c : Ci} (hl : Lok l) : l.A * ftX l c + l.B * ftY l c - l.C = 0 := by
  have hn := nrm_pos hl
  have e3 : tt l c * nrm l = vl l c.X c.Y := by unfold tt; generalize nrm l = n at *; grind
  unfold ftX ftY
  generalize tt l c = t at *
  unfold nrm vl at e3
  grind
theorem dir_perp {l : Ln} : l.A * dirU l + l.B * dirV l = 0 := by unfold dirU dirV; split <;> grind
theorem dir_sq {l : Ln} : dirU l * dirU l + dirV l * dirV l = nrm l := by unfold dirU dirV nrm; split <;> grind
theorem lcP_on {l : Ln} {c : Ci} (hl : Lok l) : ∀ p ∈ lcP l c, OnL l p := by
  intro p hp
  have f := foot_on (c := c) hl
  have d := dir_perp (l := l)
  unfold lcP at hp
  split at hp
  · cases hp
  · rename_i h1
    split at hp
    · rw [List.mem_singleton] at hp; subst hp; exact onL_at f
    · have hq : 0 ≤ kk l c := Rat.not_lt.1 h1
      rcases List.mem_cons.1 hp with rfl | hp
      · exact onL_surd f (by grind) hq
      · rw [List.mem_singleton] at hp; subst hp; exact onL_surd f d hq
theorem lcR_on {l : Ln} {c : Ci} (hl : Lok l) : ∀ p ∈ lcR l c, OnL l p := by
  intro p hp
  have f := foot_on (c := c) hl
  have d := dir_perp (l := l)
  have hn := nrm_pos hl
  have hd : l.A * (dirU l / nrm l) + l.B * (dirV l / nrm l) = 0 := by
    have : l.A * (dirU l / nrm l) + l.B * (dirV l / nrm l) = (l.A * dirU l + l.B * dirV l) / nrm l := by grind
    rw [this, d, Rat.div_def, Rat.zero_mul]
  have hd' : l.A * (-dirU l / nrm l) + l.B * (-dirV l / nrm l) = 0 := by
    have : l.A * (-dirU l / nrm l) + l.B * (-dirV l / nrm l) = -(l.A * (dirU l / nrm l) + l.B * (dirV l / nrm l)) := by grind
    rw [this, hd]; grind
  rw [lcR_eq hl] at hp
  split at hp
  · cases hp
  · rename_i h1
    split at hp
    · rw [List.mem_singleton] at hp; subst hp; exact onL_at f
    · have hq : 0 ≤ kk l c := Rat.not_lt.1 h1
      have hq2 : 0 ≤ nrm l * nrm l * kk l c := Rat.mul_nonneg (Rat.mul_nonneg (Rat.le_of_lt hn) (Rat.le_of_lt hn)) hq
      rcases List.mem_cons.1 hp with rfl | hp
      · exact onL_surd f hd' hq2
      · rw [List.mem_singleton] at hp; subst hp; exact onL_surd f hd hq2
theorem llF_on {a b : Ln} : ∀ p ∈ (llF a b).1, OnL a p ∧ OnL b p := by
  intro p hp
  unfold llF at hp
  split at hp
  · cases hp
  · rename_i h
    simp only [List.mem_singleton] at hp
    subst hp
    constructor
    · apply onL_at
      have e : a.A * (lX a b / det a b) + a.B * (lY a b / det a b) - a.C = (a.A * lX a b + a.B * lY a b - a.C * det a b) / det a b := by generalize det a b = d at *; grind
      rw [e]
      have : a.A * lX a b + a.B * lY a b - a.C * det a b = 0 := by unfold lX lY det; grind
      rw [this, Rat.div_def, Rat.zero_mul]
    · apply onL_at
      have e : b.A * (lX a b / det a b) + b.B * (lY a b / det a b) - b.C = (b.A * lX a b + b.B * lY a b - b.C * det a b) / det a b := by generalize det a b = d at *; grind
      rw [e]
      have : b.A * lX a b + b.B * lY a b - b.C * det a b = 0 := by unfold lX lY det; grind
      rw [this, Rat.div_def, Rat.zero_mul]

/-! ### Points on a circle -/
structure OnC (c : Ci) (p : Pt) : Prop where
  a : (p.AX - c.X) * (p.AX - c.X) + (p.AY - c.Y) * (p.AY - c.Y) + (p.BX * p.BX + p.BY * p.BY) * p.C - c.Q = 0
  b : (p.AX - c.X) * p.BX + (p.AY - c.Y) * p.BY = 0
theorem onC_at {c : Ci} {x y : Rat} (h : (x - c.X) * (x - c.X) + (y - c.Y) * (y - c.Y) - c.Q = 0) : OnC c (atP x y) := ⟨by unfold atP; dsimp only; grind, by unfold atP; dsimp only; grind⟩
theorem onC_surd {c : Ci} {x u y v q : Rat} (h : (x - c.X) * (x - c.X) + (y - c.Y) * (y - c.Y) + (u * u + v * v) * q - c.Q = 0) (g : (x - c.X) * u + (y - c.Y) * v = 0) : OnC c (surdP x u y v q) := by
  unfold surdP
  split
  · rename_i hs
    apply onC_at
    have := rsq_sq hs
    generalize rsq q = r at *
    grind
  · split
    · rename_i hu; apply onC_at; obtain ⟨rfl, rfl⟩ := hu; grind
    · exact ⟨h, g⟩
theorem lcP_onC {l : Ln} {c : Ci} (hl : Lok l) : ∀ p ∈ lcP l c, OnC c p := by
  intro p hp
  have hn := nrm_pos hl
  have hk : kk l c * nrm l = c.Q - ((ftX l c - c.X) * (ftX l c - c.X) + (ftY l c - c.Y) * (ftY l c - c.Y)) := by unfold kk; generalize nrm l = n at *; grind
  have hs := dir_sq (l := l)
  have hd : (ftX l c - c.X) * dirU l + (ftY l c - c.Y) * dirV l = 0 := by
    have d := dir_perp (l := l)
    unfold ftX ftY
    generalize tt l c = t
    grind
  rw [← hs] at hk
  unfold lcP at hp
  split at hp
  · cases hp
  · rename_i h1
    split at hp
    · rename_i h2
      rw [List.mem_singleton] at hp; subst hp
      rw [h2] at hk
      exact onC_at (by grind)
    · rcases List.mem_cons.1 hp with rfl | hp
      · exact onC_surd (by grind) (by grind)
      · rw [List.mem_singleton] at hp; subst hp; exact onC_surd (by grind) hd
theorem onC_rad {c d : Ci} {p : Pt} (h1 : OnL (rad c d) p) (h2 : OnC c p) : OnC d p := by
  obtain ⟨a1, b1, _⟩ := h1
  obtain ⟨a2, b2⟩ := h2
  unfold rad pw at a1 b1
  dsimp only at a1 b1
  exact ⟨by grind, by grind⟩
theorem ccP_on {c d : Ci} : ∀ p ∈ (ccP c d).1, OnC c p ∧ OnC d p := by
  intro p hp
  unfold ccP at hp
  split at hp
  · cases hp
  · rename_i h
    have h1 := lcP_on (rad_ok h) p hp
    have h2 := lcP_onC (rad_ok h) p hp
    exact ⟨h2, onC_rad h1 h2⟩
theorem suP_on {s t : Bool} {l l' : Ln} {c c' : Ci} (o1 : Lok l) (o2 : Lok l') : ∀ p ∈ (suP s t l c l' c').1, (if s = true then OnC c p else OnL l p) ∧ (if t = true then OnC c' p else OnL l' p) := by
  intro p hp
  cases s <;> cases t
  · exact ⟨(llF_on p hp).1, (llF_on p hp).2⟩
  · exact ⟨lcP_on o1 p hp, lcP_onC o1 p hp⟩
  · exact ⟨lcP_onC o2 p hp, lcP_on o2 p hp⟩
  · exact ⟨(ccP_on p hp).1, (ccP_on p hp).2⟩
section
variable {k : Nat} [F : Fuel k] {m n : Nat}
omit F in
theorem rMul8 {a b : Rat} [x : Rz m a] [y : Rz n b] [F : Fuel k] (h : 4 * (m + n) + 40 ≤ LM) : swarfref08_mul k (Q a) (Q b) = some (Q (a * b)) := by unfold swarfref08_mul; rw [rQMul (by omega)]; rfl
omit F in
theorem rAdd8 {a b : Rat} [x : Rz m a] [y : Rz n b] [F : Fuel k] (h : 4 * (m + n) + 40 ≤ LM) : swarfref08_add k (Q a) (Q b) = some (Q (a + b)) := by unfold swarfref08_add; rw [rQAdd h]; rfl
omit F in
theorem rSub8 {a b : Rat} [x : Rz m a] [y : Rz n b] [F : Fuel k] (h : 4 * (m + n) + 40 ≤ LM) : swarfref08_sub k (Q a) (Q b) = some (Q (a - b)) := by unfold swarfref08_sub; rw [rQSub h]; rfl
omit F in
theorem mk_zero (c : Rat) : mk 0 0 c = rat 0 := by
  unfold mk
  split
  · rw [Rat.zero_mul, Rat.add_zero]
  · rw [if_pos rfl]
theorem rat_zt0 : Zt 2 (rat 0) := rat_zt zero_rz (by omega)
/-- The reference says that a point on a line lies on it. -/
theorem side8_ok {l : Ln} {p : Pt} [z : Zl m l] [w : Zp n p] (h : 1000 * (m + n) + 10000 ≤ LM) (ho : OnL l p) : swarfref08_Side k l.d (P p) = some 0 := by
  have a1 := z.A; have a2 := z.B; have a3 := z.C
  have p1 := w.AX; have p2 := w.AY; have p3 := w.BX; have p4 := w.BY; have p5 := w.C
  have m1 := rzMul a1 p1; have m2 := rzMul a2 p2; have m3 := rzMul a1 p3; have m4 := rzMul a2 p4
  unfold swarfref08_Side swarfref08_Value Ln.d P
  dsimp only
  rw [rMul8 (x := a1) (y := p1) (by omega), Option.bind_some, rMul8 (x := a2) (y := p2) (by omega), Option.bind_some, rAdd8 (x := m1) (y := m2) (by omega), Option.bind_some, rSub8 (x := rzAdd m1 m2) (y := a3) (by omega), Option.bind_some,
    rMul8 (x := a1) (y := p3) (by omega), Option.bind_some, rMul8 (x := a2) (y := p4) (by omega), Option.bind_some, rAdd8 (x := m3) (y := m4) (by omega), Option.bind_some, ho.a, ho.b]
  have hc : ¬ p.C < 0 := Rat.not_lt.2 ho.c
  have z0 : Rz (n + 2) (0 : Rat) := zero_rz.mono (by omega)
  rw [rmake_eq (x := z0) (y := z0) (z := p5.mono (by omega)) (by omega), if_neg hc, Option.bind_some, Option.bind_some, mk_zero]
  dsimp only
  rw [rsign_ok (z := rat_zt0) (by decide) (fun h => absurd rfl h)]
  rfl
omit F in
theorem mulR_red (a b c : Rat) : mulR (red a b c) (red a b c) = red (a * a + b * b * c) (2 * (a * b)) c := by
  unfold mulR com
  by_cases hb : b = 0
  · subst hb
    have e : red a 0 c = rat a := by unfold red; rw [if_pos rfl]
    rw [e]
    unfold rat
    dsimp only
    rw [if_pos rfl]
    unfold red rat
    rw [if_pos (by grind), if_pos (by grind)]
    congr 1
    grind
  · have e : red a b c = ⟨a, b, c⟩ := by unfold red; rw [if_neg hb]
    rw [e]
    dsimp only
    rw [if_neg hb]
    congr 1
    grind
omit F in
theorem addR_red (a b a' b' c : Rat) : addR (red a b c) (red a' b' c) = red (a + a') (b + b') c := by
  unfold addR com
  by_cases hb : b = 0
  · subst hb
    have e : red a 0 c = rat a := by unfold red; rw [if_pos rfl]
    rw [e]
    unfold rat
    dsimp only
    rw [if_pos rfl]
    by_cases hb' : b' = 0
    · subst hb'
      unfold red rat
      rw [if_pos rfl]
      dsimp only
      rw [if_pos (by grind), if_pos (by grind)]
    · have e : red a' b' c = ⟨a', b', c⟩ := by unfold red; rw [if_neg hb']
      rw [e]
  · have e : red a b c = ⟨a, b, c⟩ := by unfold red; rw [if_neg hb]
    rw [e]
    dsimp only
    rw [if_neg hb]
    by_cases hb' : b' = 0
    · subst hb'
      have e : red a' 0 c = rat a' := by unfold red; rw [if_pos rfl]
      rw [e]; rfl
    · have e : red a' b' c = ⟨a', b', c⟩ := by unfold red; rw [if_neg hb']
      rw [e]
omit F in
theorem comOk_red (a b a' b' c : Rat) : comOk (red a b c) (red a' b' c) := by
  unfold comOk red rat
  by_cases hb : b = 0
  · left; rw [if_pos hb]
  · by_cases hb' : b' = 0
    · right; left; rw [if_pos hb']
    · right; right; rw [if_neg hb, if_neg hb']
theorem translate_ok {p : Pt} {x y : Rat} [w : Zp n p] [zx : Rz m x] [zy : Rz m y] (h : 1000 * (m + n) + 10000 ≤ LM) : swarfref07_Translate k (P p) ⟨Q x, Q y⟩ = some (P ⟨p.AX + x, p.BX, p.AY + y, p.BY, p.C⟩) := by
  have p1 := w.AX; have p2 := w.AY
  unfold swarfref07_Translate P
  dsimp only
  rw [rQAdd (x := p1) (y := zx) (by omega), Option.bind_some, rQAdd (x := p2) (y := zy) (by omega)]; rfl
omit F in
theorem sgR_red_zero (c : Rat) {a b : Rat} (ha : a = 0) (hb : b = 0) : sgR ⟨a, b, c⟩ = 0 := by
  subst ha; subst hb; exact sgR_rat
/-- The reference says that a point on a circle lies on it. -/
theorem inside8_ok {c : Ci} {p : Pt} [z : Zc m c] [w : Zp n p] (h : 100000 * (m + n) + 100000 ≤ LM) (h2 : 2 ≤ n) (hv : Vp p) (ho : OnC c p) : swarfref08_Inside k c.d (P p) = some 0 := by
  have a1 := z.X; have a2 := z.Y; have a3 := z.Q
  have p1 := w.AX; have p2 := w.AY; have p3 := w.BX; have p4 := w.BY; have p5 := w.C
  have n1 := rzNeg a1; have n2 := rzNeg a2; have n3 := rzNeg a3
  have s1 : Rz (m + n + 1) (p.AX + -c.X) := (rzAdd p1 n1).mono (by omega)
  have s2 : Rz (m + n + 1) (p.AY + -c.Y) := (rzAdd p2 n2).mono (by omega)
  have z1 : Zt (m + n + 1) (red (p.AX + -c.X) p.BX p.C) := red_zt s1 (p3.mono (by omega)) (p5.mono (by omega)) (by omega)
  have z2 : Zt (m + n + 1) (red (p.AY + -c.Y) p.BY p.C) := red_zt s2 (p4.mono (by omega)) (p5.mono (by omega)) (by omega)
  have pc : ∀ b : Rat, (b ≠ 0 → p.BX ≠ 0 ∨ p.BY ≠ 0) → b ≠ 0 → 0 < p.C ∧ ¬ IsSq p.C := by
    intro b hb h
    rcases hv with ⟨e1, e2, _⟩ | ⟨_, e⟩
    · rcases hb h with g | g
      · exact absurd e1 g
      · exact absurd e2 g
    · exact e
  have v1 : Vr (red (p.AX + -c.X) p.BX p.C) := red_vr (pc _ fun h => .inl h)
  have v2 : Vr (red (p.AY + -c.Y) p.BY p.C) := red_vr (pc _ fun h => .inr h)
  have y1 := mulR_zt z1 z1 (by omega)
  have y2 := mulR_zt z2 z2 (by omega)
  have u1 := mulR_vr v1 v1
  have u2 := mulR_vr v2 v2
  rw [mulR_red] at y1 y2 u1 u2
  have x1 := addR_zt y1 y2 (by omega)
  have t1 := addR_vr u1 u2
  rw [addR_red] at x1 t1
  have cc : ∀ a b : Rat, comOk (red a b p.C) (red a b p.C) := fun a b => comOk_red _ _ _ _ _
  unfold swarfref08_Inside swarfref08_Power swarfref07_Square swarfref07_Back Ci.d
  dsimp only
  rw [rQNeg (by omega), Option.bind_some, rQNeg (by omega), Option.bind_some, Option.bind_some, translate_ok (w := w) (zx := n1) (zy := n2) (by omega), Option.bind_some, rX, Option.bind_some]
  unfold swarfref03_Square
  dsimp only
  rw [rmul_ok (z := z1) (w := z1) (by omega) v1 v1, if_pos (cc _ _), Option.bind_some, Option.bind_some, rY, Option.bind_some]
  dsimp only
  rw [rmul_ok (z := z2) (w := z2) (by omega) v2 v2, if_pos (cc _ _), Option.bind_some, Option.bind_some, mulR_red, mulR_red]
  dsimp only
  rw [radd_ok (z := y1) (w := y2) (by omega) u1 u2, if_pos (comOk_red _ _ _ _ _), Option.bind_some, Option.bind_some, addR_red]
  dsimp only
  rw [rQNeg (by omega), Option.bind_some, raddRat_ok (z := x1) (y := n3) (by omega), Option.bind_some, Option.bind_some]
  have ea : (p.AX + -c.X) * (p.AX + -c.X) + p.BX * p.BX * p.C + ((p.AY + -c.Y) * (p.AY + -c.Y) + p.BY * p.BY * p.C) = c.Q := by
    have := ho.a; grind
  have eb : 2 * ((p.AX + -c.X) * p.BX) + 2 * ((p.AY + -c.Y) * p.BY) = 0 := by
    have := ho.b; grind
  rw [ea, eb]
  have er : red c.Q 0 p.C = rat c.Q := by unfold red; rw [if_pos rfl]
  rw [er]
  unfold rat
  dsimp only
  have e0 : c.Q + -c.Q = 0 := by grind
  rw [e0]
  have hz : Zt 2 (⟨0, 0, 0⟩ : Rt) := rat_zt0
  rw [rsign_ok (z := hz) (by decide) (fun h => absurd rfl h)]
  rfl
end

/-! ### Moved -/
def mvL (l : Ln) (x y : Rat) : Ln := ⟨l.A, l.B, l.C + (l.A * x + l.B * y)⟩
def mvC (c : Ci) (x y : Rat) : Ci := ⟨c.X + x, c.Y + y, c.Q⟩
def mvP (x y : Rat) (p : Pt) : Pt := ⟨p.AX + x, p.BX, p.AY + y, p.BY, p.C⟩
theorem mv_surd (x y a u b v q : Rat) : surdP (a + x) u (b + y) v q = mvP x y (surdP a u b v q) := by
  unfold surdP mvP atP
  split
  · congr 1 <;> grind
  · split <;> rfl
theorem mv_lcP {l : Ln} {c : Ci} (x y : Rat) : lcP (mvL l x y) (mvC c x y) = (lcP l c).map (mvP x y) := by
  have e1 : nrm (mvL l x y) = nrm l := rfl
  have e2 : tt (mvL l x y) (mvC c x y) = tt l c := by
    unfold tt vl; rw [e1]; unfold mvL mvC; dsimp only
    congr 1; grind
  have e3 : ftX (mvL l x y) (mvC c x y) = ftX l c + x := by unfold ftX; rw [e2]; unfold mvL mvC; dsimp only; generalize tt l c = t; grind
  have e4 : ftY (mvL l x y) (mvC c x y) = ftY l c + y := by unfold ftY; rw [e2]; unfold mvL mvC; dsimp only; generalize tt l c = t; grind
  have e5 : kk (mvL l x y) (mvC c x y) = kk l c := by
    unfold kk; rw [e1, e3, e4]; unfold mvC; dsimp only
    congr 1; grind
  have e6 : dirU (mvL l x y) = dirU l := rfl
  have e7 : dirV (mvL l x y) = dirV l := rfl
  unfold lcP
  rw [e3, e4, e5, e6, e7]
  split
  · rfl
  · split
    · rfl
    · rw [mv_surd, mv_surd]; rfl

/-! ### Swapped and scaled -/
theorem llF_swap (a b : Ln) : llF b a = llF a b := by
  have e1 : det b a = -det a b := by unfold det; grind
  have e2 : lX b a = -lX a b := by unfold lX; grind
  have e3 : lY b a = -lY a b := by unfold lY; grind
  unfold llF
  rw [e1, e2, e3]
  by_cases h : det a b = 0
  · rw [if_pos h, if_pos (by grind)]
    by_cases g : lX a b = 0 ∧ lY a b = 0
    · rw [if_pos g, if_pos (by grind)]
    · rw [if_neg g, if_neg (by grind)]
  · rw [if_neg h, if_neg (by grind)]
    generalize det a b = d at *
    have k1 : -lX a b / -d = lX a b / d := by grind
    have k2 : -lY a b / -d = lY a b / d := by grind
    rw [k1, k2]
theorem flip_neg {l : Ln} (hl : Lok l) : flipP ⟨-l.A, -l.B, -l.C⟩ ↔ ¬ flipP l := by
  unfold Lok at hl
  unfold flipP
  dsimp only
  grind
theorem lcP_swap {c d : Ci} (h : ¬ (c.X = d.X ∧ c.Y = d.Y)) : lcP (rad d c) d = lcP (rad c d) c := by
  have hl := rad_ok h
  have hn := nrm_pos hl
  have er : rad d c = ⟨-(rad c d).A, -(rad c d).B, -(rad c d).C⟩ := by unfold rad; congr 1 <;> grind
  have e1 : nrm (rad d c) = nrm (rad c d) := by rw [er]; unfold nrm; dsimp only; grind
  have t1 : tt (rad c d) c * nrm (rad c d) = vl (rad c d) c.X c.Y := by unfold tt; generalize nrm (rad c d) = n at *; grind
  have t2 : tt (rad d c) d * nrm (rad c d) = vl (rad d c) d.X d.Y := by unfold tt; rw [e1]; generalize nrm (rad c d) = n at *; grind
  have hs : vl (rad c d) c.X c.Y + vl (rad d c) d.X d.Y = -(nrm (rad c d) / 2) := by unfold vl nrm rad pw; dsimp only; grind
  have ht : tt (rad c d) c + tt (rad d c) d = -(1 / 2) := by
    rw [← t1, ← t2] at hs
    generalize nrm (rad c d) = n at *
    generalize tt (rad c d) c = t at *
    generalize tt (rad d c) d = t' at *
    grind
  have e3 : ftX (rad d c) d = ftX (rad c d) c := by
    unfold ftX
    generalize tt (rad c d) c = t at *
    generalize tt (rad d c) d = t' at *
    unfold rad; dsimp only
    grind
  have e4 : ftY (rad d c) d = ftY (rad c d) c := by
    unfold ftY
    generalize tt (rad c d) c = t at *
    generalize tt (rad d c) d = t' at *
    unfold rad; dsimp only
    grind
  have e5 : kk (rad d c) d = kk (rad c d) c := by
    have f := foot_on (c := c) hl
    unfold kk
    rw [e1, e3, e4]
    congr 1
    generalize ftX (rad c d) c = x at *
    generalize ftY (rad c d) c = y at *
    unfold rad pw at f
    dsimp only at f
    grind
  have hf := flip_neg hl
  rw [← er] at hf
  have e6 : dirU (rad d c) = dirU (rad c d) := by
    unfold dirU
    by_cases g : flipP (rad c d)
    · rw [if_pos g, if_neg (fun e => hf.1 e g), er]
    · rw [if_neg g, if_pos (hf.2 g), er]; dsimp only; grind
  have e7 : dirV (rad d c) = dirV (rad c d) := by
    unfold dirV
    by_cases g : flipP (rad c d)
    · rw [if_pos g, if_neg (fun e => hf.1 e g), er]
    · rw [if_neg g, if_pos (hf.2 g), er]; dsimp only; grind
  unfold lcP
  rw [e3, e4, e5, e6, e7]
theorem ccP_swap (c d : Ci) : ccP d c = ccP c d := by
  unfold ccP
  by_cases h : c.X = d.X ∧ c.Y = d.Y
  · rw [if_pos h, if_pos ⟨h.1.symm, h.2.symm⟩]
    by_cases g : c.Q = d.Q
    · rw [if_pos g, if_pos g.symm]
    · rw [if_neg g, if_neg (fun e => g e.symm)]
  · rw [if_neg h, if_neg (fun e => h ⟨e.1.symm, e.2.symm⟩), lcP_swap h]
theorem suP_swap (s t : Bool) (l : Ln) (c : Ci) (l' : Ln) (c' : Ci) : suP t s l' c' l c = suP s t l c l' c' := by
  cases s <;> cases t
  · exact llF_swap _ _
  · rfl
  · rfl
  · exact ccP_swap _ _
def scL (l : Ln) (n : Rat) : Ln := ⟨n * l.A, n * l.B, n * l.C⟩
theorem llF_scale (a b : Ln) {n : Rat} (hn : n ≠ 0) : llF (scL a n) b = llF a b := by
  have e1 : det (scL a n) b = n * det a b := by unfold det scL; dsimp only; grind
  have e2 : lX (scL a n) b = n * lX a b := by unfold lX scL; dsimp only; grind
  have e3 : lY (scL a n) b = n * lY a b := by unfold lY scL; dsimp only; grind
  unfold llF
  rw [e1, e2, e3]
  have z : ∀ x : Rat, n * x = 0 ↔ x = 0 := by intro x; grind
  by_cases h : det a b = 0
  · rw [if_pos h, if_pos ((z _).2 h)]
    by_cases g : lX a b = 0 ∧ lY a b = 0
    · rw [if_pos g, if_pos ⟨(z _).2 g.1, (z _).2 g.2⟩]
    · rw [if_neg g, if_neg (fun e => g ⟨(z _).1 e.1, (z _).1 e.2⟩)]
  · rw [if_neg h, if_neg (fun e => h ((z _).1 e))]
    generalize det a b = d at *
    have k1 : n * lX a b / (n * d) = lX a b / d := by grind
    have k2 : n * lY a b / (n * d) = lY a b / d := by grind
    rw [k1, k2]
/-- The absolute value. -/
def ab (n : Rat) : Rat := if n < 0 then -n else n
theorem ab_pos {n : Rat} (h : n ≠ 0) : 0 < ab n := by unfold ab; grind
theorem ab_sq {n : Rat} : ab n * ab n = n * n := by unfold ab; grind
theorem scL_ok {l : Ln} {n : Rat} (hl : Lok l) (hn : n ≠ 0) : Lok (scL l n) := by
  unfold Lok scL at *
  dsimp only
  grind
theorem flip_pos {l : Ln} {n : Rat} (hn : 0 < n) : flipP (scL l n) ↔ flipP l := by
  unfold flipP scL
  dsimp only
  have z : ∀ x : Rat, n * x < 0 ↔ x < 0 := by
    intro x
    constructor
    · intro h
      rw [← Rat.not_le]; intro g
      have := Rat.mul_nonneg (Rat.le_of_lt hn) g
      grind
    · intro h
      have := Rat.mul_pos hn (show 0 < -x by grind)
      grind
  have e : -(n * l.A) = n * -l.A := by grind
  have y : n * l.B = 0 ↔ l.B = 0 := by grind
  rw [e, z, z, y]
theorem lc_scale {l : Ln} {c : Ci} {n : Rat} (hl : Lok l) (hn : n ≠ 0) : PwEq (lcP (scL l n) c) (lcP l c) := by
  have hp := nrm_pos hl
  have hN := ab_pos hn
  have hNN := ab_sq (n := n)
  have e1 : nrm (scL l n) = n * n * nrm l := by unfold nrm scL; dsimp only; grind
  have e2 : tt (scL l n) c = tt l c / n := by
    have : vl (scL l n) c.X c.Y = n * vl l c.X c.Y := by unfold vl scL; dsimp only; grind
    unfold tt
    rw [this, e1]
    generalize nrm l = m at *
    generalize vl l c.X c.Y = v
    grind
  have e3 : ftX (scL l n) c = ftX l c := by unfold ftX; rw [e2]; unfold scL; dsimp only; generalize tt l c = t; grind
  have e4 : ftY (scL l n) c = ftY l c := by unfold ftY; rw [e2]; unfold scL; dsimp only; generalize tt l c = t; grind
  have e5 : ab n * ab n * kk (scL l n) c = kk l c := by
    unfold kk
    rw [e1, e3, e4, hNN]
    generalize nrm l = m at *
    generalize (c.Q - ((ftX l c - c.X) * (ftX l c - c.X) + (ftY l c - c.Y) * (ftY l c - c.Y))) = w
    grind
  have hd := dir_ne (scL_ok hl hn)
  have hd' := dir_ne' (scL_ok hl hn)
  have hdir : dirU (scL l n) / ab n = dirU l ∧ dirV (scL l n) / ab n = dirV l := by
    by_cases g : n < 0
    · have ea : ab n = -n := by unfold ab; rw [if_pos g]
      have es : scL l n = ⟨-(scL l (-n)).A, -(scL l (-n)).B, -(scL l (-n)).C⟩ := by unfold scL; congr 1 <;> grind
      have hf : flipP (scL l n) ↔ ¬ flipP l := by rw [es, flip_neg (scL_ok hl (by grind)), flip_pos (by grind)]
      unfold dirU dirV
      by_cases f : flipP l
      · rw [if_neg (fun e => hf.1 e f), if_neg (fun e => hf.1 e f), if_pos f, if_pos f, ea]
        unfold scL; dsimp only
        constructor <;> grind
      · rw [if_pos (hf.2 f), if_pos (hf.2 f), if_neg f, if_neg f, ea]
        unfold scL; dsimp only
        constructor <;> grind
    · have ea : ab n = n := by unfold ab; rw [if_neg g]
      have hf := flip_pos (l := l) (n := n) (by grind)
      unfold dirU dirV
      by_cases f : flipP l
      · rw [if_pos (hf.2 f), if_pos (hf.2 f), if_pos f, if_pos f, ea]
        unfold scL; dsimp only
        constructor <;> grind
      · rw [if_neg (fun e => f (hf.1 e)), if_neg (fun e => f (hf.1 e)), if_neg f, if_neg f, ea]
        unfold scL; dsimp only
        constructor <;> grind
  have hneg : -dirU (scL l n) / ab n = -dirU l ∧ -dirV (scL l n) / ab n = -dirV l := by
    rw [← hdir.1, ← hdir.2]
    generalize ab n = a
    constructor <;> grind
  generalize hNe : ab n = N at *
  have npos := Rat.mul_pos hN hN
  unfold lcP
  rw [e3, e4]
  generalize kk (scL l n) c = q at *
  rw [← e5]
  by_cases h1 : q < 0
  · rw [if_pos h1, if_pos (show N * N * q < 0 by have := Rat.mul_pos npos (show 0 < -q by grind); grind)]; exact trivial
  · rw [if_neg h1, if_neg (show ¬ N * N * q < 0 by have := Rat.mul_nonneg (Rat.le_of_lt npos) (Rat.not_lt.1 h1); grind)]
    by_cases h2 : q = 0
    · rw [if_pos h2, if_pos (show N * N * q = 0 by rw [h2, Rat.mul_zero])]
      exact PwEq.self (fun p hp => by rw [List.mem_singleton] at hp; subst hp; exact .inl ⟨rfl, rfl, rfl⟩)
    · have hq : 0 < q := by grind
      have := Rat.mul_pos npos hq
      rw [if_neg h2, if_neg (show ¬ N * N * q = 0 by grind)]
      have k1 := cmpP_surd (x := ftX l c) (u := -dirU (scL l n)) (y := ftY l c) (v := -dirV (scL l n)) hN hq hd'
      have k2 := cmpP_surd (x := ftX l c) (u := dirU (scL l n)) (y := ftY l c) (v := dirV (scL l n)) hN hq hd
      rw [hneg.1, hneg.2] at k1
      rw [hdir.1, hdir.2] at k2
      exact ⟨k1, k2, trivial⟩
theorem su_scale {s t : Bool} {l : Ln} {c : Ci} {l' : Ln} {c' : Ci} {n : Rat} (o1 : Lok l) (hn : n ≠ 0) : PwEq (suP s t (scL l n) c l' c').1 (suP s t l c l' c').1 ∧ (suP s t (scL l n) c l' c').2 = (suP s t l c l' c').2 := by
  cases s <;> cases t
  · unfold suP; dsimp only; rw [llF_scale _ _ hn]; exact ⟨PwEq.self llF_vp, rfl⟩
  · exact ⟨lc_scale o1 hn, rfl⟩
  · exact ⟨PwEq.self lcP_vp, rfl⟩
  · exact ⟨PwEq.self ccP_vp, rfl⟩
end Go.Proofs.YtbjkpogfgijmaaaGreat
