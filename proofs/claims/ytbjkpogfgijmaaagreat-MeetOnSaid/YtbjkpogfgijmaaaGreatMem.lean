/- How a state of the interpreter stands for a frame and a world, and what the steps of memory do to it. -/
import Derived.Test.YtbjkpogfgijmaaaGreatRel
namespace Go.Proofs.YtbjkpogfgijmaaaGreat
open Go Go.RowKit
set_option linter.unusedVariables false
set_option linter.unusedSimpArgs false

/-- How the call began: the world, the blocks that nobody changes, and a segment of an elder block that the call may write (block, first cell, cells). -/
structure Fr where
  w0 : World
  imm0 : Imm
  bor : Option (Nat × Nat × Nat)
def Fr.mine (F : Fr) (k : Nat) : Prop := F.w0.heap.size ≤ k ∨ ∃ b n, F.bor = some (k, b, n)

structure Frame0 (F : Fr) (w : World) : Prop where
  os : w.os = F.w0.os
  tape : w.tape = F.w0.tape
  output : w.output = F.w0.output
  size : F.w0.heap.size ≤ w.heap.size
  block : ∀ k, k < F.w0.heap.size → (∀ b n, F.bor ≠ some (k, b, n)) → w.heap[k]? = F.w0.heap[k]?
  bor : ∀ k b n, F.bor = some (k, b, n) → ∃ cs0 cs ty, F.w0.heap[k]? = some (.cells cs0 ty (0, 0)) ∧ w.heap[k]? = some (.cells cs ty (0, 0)) ∧ cs.size = cs0.size ∧
    ∀ j, (j < b ∨ b + n ≤ j) → cs[j]? = cs0[j]?

def ImmIn (m : Imm) (w : World) : Prop := ∀ k cs, m k = some cs → ∃ ty fz, w.heap[k]? = some (.cells cs ty fz)

/-- A block of the call's own, and what is in it. -/
def BR (g : Gh) (p : Pl) (w : World) : Blk → Prop
  | .var ls => p.isNil = false ∧ p.base = 0 ∧ p.esz = 1 ∧ p.len = ls.length ∧ ∃ cs, w.heap[p.blk]? = some (.cells cs p.ty (0, 0)) ∧ Row g ls cs.toList ∧ Cells1 cs.toList
  | .arr e et xs => p.esz = e.sz ∧ p.len = xs.length ∧ p.ty = et ∧ ((p.isNil = true ∧ xs = []) ∨ (p.isNil = false ∧ ∃ cs vs, w.heap[p.blk]? = some (.cells cs et (0, 0)) ∧ PRow g.imm (flat e xs) vs ∧
      (∀ (j : Nat) v, vs[j]? = some v → cs[p.base + j]? = some v) ∧ p.base + xs.length * e.sz ≤ cs.size ∧ ∀ c, p.cap = some c → p.base = 0 ∧ cs.size = c * e.sz ∧ c ≤ maxLen))

structure WR (F : Fr) (g : Gh) (bk : BId → Option Blk) (w : World) : Prop where
  frame : Frame0 F w
  imm : ImmIn g.imm w
  ext : ∀ k cs, F.imm0 k = some cs → g.imm k = some cs
  newOnly : ∀ k cs, g.imm k = some cs → F.imm0 k = some cs ∨ F.w0.heap.size ≤ k
  blk : ∀ b x, bk b = some x → ∃ p, g.map b = some p ∧ BR g p w x
  live : ∀ b x p, bk b = some x → g.map b = some p → p.isNil = false → g.imm p.blk = none ∧ F.mine p.blk ∧ (∀ k c n, F.bor = some (k, c, n) → p.blk = k → p.base = c ∧ p.len * p.esz = n) ∧ (F.bor = none → p.cap.isSome = true)
  inj : ∀ b b' x x' p p', bk b = some x → bk b' = some x' → g.map b = some p → g.map b' = some p' → p.isNil = false → p'.isNil = false → p.blk = p'.blk → b = b'

structure TR (nt : Nat) (g : Gh) (tm : Nat → AV) (a : Act) : Prop where
  size : a.tmps.size = nt
  defers : a.defers = []
  vals : ∀ t, VR g (tm t) (a.tmps.getD t undef)

theorem TR.mono {nt : Nat} {g g' : Gh} {tm : Nat → AV} {a : Act} (h : TR nt g tm a) (hg : g.le g') : TR nt g' tm a := ⟨h.size, h.defers, fun t => (h.vals t).mono hg⟩

def upT (tm : Nat → AV) (d : Option Tmp) (v : AV) : Nat → AV := fun t => match d with
  | some d => bif Nat.beq d t then v else tm t
  | none => tm t
def upB (bk : BId → Option Blk) : List (BId × Option Blk) → BId → Option Blk
  | [], b => bk b
  | (k, v) :: r, b => bif bidEq k b then v else upB bk r b

theorem bidEq_iff {a b : BId} : bidEq a b = true ↔ a = b := by
  unfold bidEq
  rw [Bool.and_eq_true, Nat.beq_eq, Nat.beq_eq]
  exact ⟨fun h => Prod.ext h.1 h.2, fun h => h ▸ ⟨rfl, rfl⟩⟩
theorem bidEq_false {a b : BId} (h : a ≠ b) : bidEq a b = false := by
  cases he : bidEq a b
  · rfl
  · exact absurd (bidEq_iff.1 he) h
theorem bidEq_self (a : BId) : bidEq a a = true := bidEq_iff.2 rfl
theorem lk_putT (tm : List (Nat × AV)) (d : Option Tmp) (v : AV) : lk (putT tm d v) = upT (lk tm) d v := by
  funext t
  cases d <;> rfl
theorem lkb_append (l m : List (BId × Option Blk)) : lkb (l ++ m) = upB (lkb m) l := by
  funext b
  induction l with
  | nil => rfl
  | cons x l ih => obtain ⟨k, v⟩ := x; simp only [List.cons_append, lkb, upB, ih]

theorem TR.put {nt : Nat} {g : Gh} {tm : Nat → AV} {a : Act} (h : TR nt g tm a) {d : Option Tmp} {v : AV} {x : Value} (hd : ∀ t, d = some t → t < nt) (hv : VR g v x) : TR nt g (upT tm d v) (a.put d x) := by
  cases d with
  | none => exact h
  | some d =>
    have hlt := hd d rfl
    refine ⟨by simp [Act.put, h.size], h.defers, fun t => ?_⟩
    unfold upT
    simp only [Act.put]
    by_cases ht : d = t
    · subst ht
      rw [show Nat.beq d d = true from Nat.beq_refl d]
      simp only [cond_true]
      have : (a.tmps.setIfInBounds d x).getD d undef = x := by
        have hs : d < a.tmps.size := by rw [h.size]; exact hlt
        simp [Array.getD, hs]
      rw [this]; exact hv
    · rw [show Nat.beq d t = false from by cases hb : Nat.beq d t with | false => rfl | true => exact absurd (Nat.eq_of_beq_eq_true hb) ht]
      simp only [cond_false]
      have : (a.tmps.setIfInBounds d x).getD t undef = a.tmps.getD t undef := by
        simp [Array.getD_eq_getD_getElem?, Array.getElem?_setIfInBounds_ne ht]
      rw [this]; exact h.vals t

/-! ### Steps of memory -/
section
variable {F : Fr} {g : Gh} {bk : BId → Option Blk} {w w' : World}

theorem Frame0.below (h : Frame0 F w) (hb : Below w.heap.size w w') : Frame0 F w' := by
  refine ⟨hb.os.trans h.os, hb.tape.trans h.tape, hb.output.trans h.output, Nat.le_trans h.size hb.size, fun k hk hn => ?_, fun k b n hk => ?_⟩
  · rw [hb.block k (Nat.lt_of_lt_of_le hk h.size)]; exact h.block k hk hn
  · obtain ⟨cs0, cs, ty, h1, h2, h3, h4⟩ := h.bor k b n hk
    exact ⟨cs0, cs, ty, h1, by rw [hb.block k (Array.getElem?_eq_some_iff.1 h2).1]; exact h2, h3, h4⟩

theorem BR.same {p : Pl} {x : Blk} {g' : Gh} (hg : g.le g') (h : BR g p w x) (hb : p.isNil = false → w'.heap[p.blk]? = w.heap[p.blk]?) : BR g' p w' x := by
  cases x with
  | var ls =>
    obtain ⟨h1, h2, h3, h4, cs, h5, h6⟩ := h
    exact ⟨h1, h2, h3, h4, cs, (hb h1).trans h5, h6.1.mono hg, h6.2⟩
  | arr e et xs =>
    obtain ⟨h1, h2, h3, h4⟩ := h
    refine ⟨h1, h2, h3, ?_⟩
    rcases h4 with h4 | ⟨hn, cs, vs, h5, h6, h7, h8⟩
    · exact .inl h4
    · exact .inr ⟨hn, cs, vs, (hb hn).trans h5, h6.mono hg.imm, h7, h8⟩
theorem BR.lt {p : Pl} {x : Blk} (h : BR g p w x) (hn : p.isNil = false) : p.blk < w.heap.size := by
  cases x with
  | var ls => obtain ⟨h1, h2, h3, h4, cs, h5, h6⟩ := h; exact (Array.getElem?_eq_some_iff.1 h5).1
  | arr e et xs =>
    obtain ⟨h1, h2, h3, h4⟩ := h
    rcases h4 with h4 | ⟨hn, cs, vs, h5, h6, h7, h8⟩
    · rw [h4.1] at hn; cases hn
    · exact (Array.getElem?_eq_some_iff.1 h5).1

theorem ImmIn.below {m : Imm} (h : ImmIn m w) (hb : Below w.heap.size w w') : ImmIn m w' := by
  intro k cs hk
  obtain ⟨ty, fz, h1⟩ := h k cs hk
  exact ⟨ty, fz, by rw [hb.block k (Array.getElem?_eq_some_iff.1 h1).1]; exact h1⟩

/-- The world has grown, and some of what is new is settled. -/
theorem WR.grow (h : WR F g bk w) (hb : Below w.heap.size w w') {m : Imm} (hm : ∀ k cs, g.imm k = some cs → m k = some cs) (hn : ∀ k cs, m k = some cs → g.imm k = some cs ∨ w.heap.size ≤ k) (hi : ImmIn m w') :
    WR F ⟨m, g.map⟩ bk w' := by
  have hle : g.le ⟨m, g.map⟩ := ⟨hm, fun _ _ h => h⟩
  refine ⟨h.frame.below hb, hi, fun k cs hk => hm _ _ (h.ext k cs hk), fun k cs hk => ?_, fun b x hx => ?_, fun b x p hx hp hnil => ?_, h.inj⟩
  · rcases hn k cs hk with h1 | h1
    · exact h.newOnly k cs h1
    · exact .inr (Nat.le_trans h.frame.size h1)
  · obtain ⟨p, h1, h2⟩ := h.blk b x hx
    exact ⟨p, h1, h2.same hle (fun hnil => hb.block _ (h2.lt hnil))⟩
  · obtain ⟨h1, h2⟩ := h.live b x p hx hp hnil
    refine ⟨?_, h2⟩
    obtain ⟨p', hp', hbr⟩ := h.blk b x hx
    rw [hp] at hp'; obtain rfl := Option.some.inj hp'
    have hlt := hbr.lt hnil
    show m p.blk = none
    cases hmk : m p.blk with
    | none => rfl
    | some cs =>
      rcases hn _ _ hmk with h3 | h3
      · rw [h1] at h3; cases h3
      · omega
theorem below_alloc' (w : World) (o : Obj) : Below w.heap.size w (w.alloc o) := (Below.refl _ _).alloc (Nat.le_refl _) o
theorem WR.below (h : WR F g bk w) (hb : Below w.heap.size w w') : WR F g bk w' :=
  h.grow (m := g.imm) hb (fun _ _ h => h) (fun _ _ h => .inl h) (h.imm.below hb)
theorem WR.drew (h : WR F g bk w) : WR F g bk { w with drawn := w.drawn + 1 } := h.below (Below.refl _ _).drew

def Gh.add (g : Gh) (b : BId) (p : Pl) : Gh := ⟨g.imm, fun x => if x = b then some p else g.map x⟩
theorem Gh.le_add {b : BId} {p : Pl} (h : g.map b = none) : g.le (g.add b p) :=
  ⟨fun _ _ h => h, fun x q hx => by unfold Gh.add; simp only; rw [if_neg]; exact hx; rintro rfl; rw [h] at hx; cases hx⟩

/-- A new block of the call's own. -/
theorem WR.add (h : WR F g bk w) {b : BId} {p : Pl} {x : Blk} (hb : g.map b = none) (hx : BR (g.add b p) p w x) (hl : p.isNil = false → g.imm p.blk = none ∧ F.w0.heap.size ≤ p.blk ∧ ∀ b' x' p', bk b' = some x' → g.map b' = some p' → p'.isNil = false → p'.blk ≠ p.blk)
    (hbor : p.isNil = false → ∀ k c n, F.bor = some (k, c, n) → p.blk ≠ k) (hcap : p.isNil = false → F.bor = none → p.cap.isSome = true) :
    WR F (g.add b p) (upB bk [(b, some x)]) w := by
  have hle := Gh.le_add (g := g) (b := b) (p := p) hb
  have hbk : ∀ y z, upB bk [(b, some x)] y = some z → (y = b ∧ z = x) ∨ (y ≠ b ∧ bk y = some z) := by
    intro y z hz
    unfold upB upB at hz
    by_cases hy : b = y
    · subst hy; rw [bidEq_self] at hz; exact .inl ⟨rfl, (Option.some.inj hz).symm⟩
    · rw [bidEq_false hy] at hz; exact .inr ⟨fun e => hy e.symm, hz⟩
  have hself : (g.add b p).map b = some p := by simp [Gh.add]
  have hold : ∀ y q, y ≠ b → (g.add b p).map y = some q → g.map y = some q := by
    intro y q hy hq; simp only [Gh.add] at hq; rw [if_neg hy] at hq; exact hq
  refine ⟨h.frame, h.imm, h.ext, h.newOnly, fun y z hz => ?_, fun y z q hz hq hn => ?_, fun y y' z z' q q' hz hz' hq hq' hn hn' he => ?_⟩
  · rcases hbk y z hz with ⟨rfl, rfl⟩ | ⟨hy, hz⟩
    · exact ⟨p, hself, hx⟩
    · obtain ⟨q, h1, h2⟩ := h.blk y z hz
      exact ⟨q, hle.map _ _ h1, h2.same hle (fun _ => rfl)⟩
  · rcases hbk y z hz with ⟨rfl, rfl⟩ | ⟨hy, hz⟩
    · rw [hself] at hq; obtain rfl := Option.some.inj hq
      refine ⟨(hl hn).1, .inl (hl hn).2.1, fun k c n hk he => absurd he (hbor hn k c n hk), hcap hn⟩
    · exact h.live y z q hz (hold y q hy hq) hn
  · rcases hbk y z hz with ⟨rfl, rfl⟩ | ⟨hy, hz1⟩
    · rw [hself] at hq; obtain rfl := Option.some.inj hq
      rcases hbk y' z' hz' with ⟨rfl, rfl⟩ | ⟨hy', hz2⟩
      · rfl
      · exact absurd he.symm ((hl hn).2.2 y' z' q' hz2 (hold y' q' hy' hq') hn')
    · rcases hbk y' z' hz' with ⟨rfl, rfl⟩ | ⟨hy', hz2⟩
      · rw [hself] at hq'; obtain rfl := Option.some.inj hq'
        exact absurd he ((hl hn').2.2 y z q hz1 (hold y q hy hq) hn)
      · exact h.inj y y' z z' q q' hz1 hz2 (hold y q hy hq) (hold y' q' hy' hq') hn hn' he

/-- A new block of the call's own at the end of the heap. -/
theorem WR.new (h : WR F g bk w) {b : BId} {p : Pl} {x : Blk} (cs : Array Value) (ty : TypeId) (hb : g.map b = none) (hp : p.blk = w.heap.size) (hcap : p.isNil = false → F.bor = none → p.cap.isSome = true)
    (hx : BR (g.add b p) p (w.alloc (.cells cs ty)) x) : WR F (g.add b p) (upB bk [(b, some x)]) (w.alloc (.cells cs ty)) := by
  have h1 := h.below (below_alloc' w (.cells cs ty))
  refine h1.add hb hx (fun hn => ⟨?_, ?_, fun b' x' p' hx' hp' hn' he => ?_⟩) (fun hn k c n hk he => ?_) hcap
  · cases hm : g.imm p.blk with
    | none => rfl
    | some c =>
      obtain ⟨t, fz, h2⟩ := h.imm _ _ hm
      have := (Array.getElem?_eq_some_iff.1 h2).1
      omega
  · rw [hp]; exact h.frame.size
  · obtain ⟨q, h2, h3⟩ := h.blk b' x' hx'
    rw [hp'] at h2; obtain rfl := Option.some.inj h2
    have := h3.lt hn'
    omega
  · obtain ⟨cs0, cs1, t, h2, h3, _⟩ := h.frame.bor k c n hk
    have := (Array.getElem?_eq_some_iff.1 h3).1
    omega

/-- A block of the call's own is written: its cells are others now. -/
theorem WR.write' (h : WR F g bk w) {b : BId} {p : Pl} {x y : Blk} (hx : bk b = some x) (hp : g.map b = some p) (hn : p.isNil = false) {cs cs' : Array Value} {ty : TypeId}
    (hc : w.heap[p.blk]? = some (.cells cs ty (0, 0))) (hs : cs'.size = cs.size) (hsame : ∀ j, (j < p.base ∨ p.base + p.len * p.esz ≤ j) → cs'[j]? = cs[j]?)
    (hos : w'.os = w.os) (htape : w'.tape = w.tape) (hout : w'.output = w.output) (hsz : w.heap.size ≤ w'.heap.size) (hset : w'.heap[p.blk]? = some (.cells cs' ty (0, 0))) (hoth : ∀ k, k < w.heap.size → k ≠ p.blk → w'.heap[k]? = w.heap[k]?)
    (hy : BR g p w' y) : WR F g (upB bk [(b, some y)]) w' := by
  obtain ⟨hi, hmine, hbor, _⟩ := h.live b x p hx hp hn
  have hlt : p.blk < w.heap.size := (Array.getElem?_eq_some_iff.1 hc).1
  have hbk : ∀ u z, upB bk [(b, some y)] u = some z → (u = b ∧ z = y) ∨ (u ≠ b ∧ bk u = some z) := by
    intro u z hz
    unfold upB upB at hz
    by_cases hu : b = u
    · subst hu; rw [bidEq_self] at hz; exact .inl ⟨rfl, (Option.some.inj hz).symm⟩
    · rw [bidEq_false hu] at hz; exact .inr ⟨fun e => hu e.symm, hz⟩
  have hbk0 : ∀ u z, upB bk [(b, some y)] u = some z → ∃ z', bk u = some z' := by
    intro u z hz
    rcases hbk u z hz with ⟨rfl, rfl⟩ | ⟨_, hz⟩
    · exact ⟨x, hx⟩
    · exact ⟨z, hz⟩
  refine ⟨⟨hos.trans h.frame.os, htape.trans h.frame.tape, hout.trans h.frame.output, Nat.le_trans h.frame.size hsz, fun k hk hno => ?_, fun k c n hk => ?_⟩, fun k c hk => ?_, h.ext, h.newOnly, fun u z hz => ?_, fun u z q hz hq hnq => ?_, fun u u' z z' q q' hz hz' => ?_⟩
  · by_cases he : k = p.blk
    · subst he
      rcases hmine with h1 | ⟨c, n, h1⟩
      · omega
      · exact absurd h1 (hno c n)
    · rw [hoth k (Nat.lt_of_lt_of_le hk h.frame.size) he]; exact h.frame.block k hk hno
  · obtain ⟨cs0, cs1, t, h1, h2, h3, h4⟩ := h.frame.bor k c n hk
    by_cases he : k = p.blk
    · subst he
      rw [hc] at h2
      simp only [Option.some.injEq, Obj.cells.injEq] at h2
      obtain ⟨rfl, rfl, _⟩ := h2
      obtain ⟨hb1, hb2⟩ := hbor _ c n hk rfl
      refine ⟨cs0, cs', ty, h1, hset, hs.trans h3, fun j hj => ?_⟩
      rw [hsame j (by rw [hb1, hb2]; exact hj)]
      exact h4 j hj
    · exact ⟨cs0, cs1, t, h1, by rw [hoth k (Array.getElem?_eq_some_iff.1 h2).1 he]; exact h2, h3, h4⟩
  · have hne : k ≠ p.blk := by rintro rfl; rw [hi] at hk; cases hk
    obtain ⟨t, fz, h1⟩ := h.imm k c hk
    exact ⟨t, fz, by rw [hoth k (Array.getElem?_eq_some_iff.1 h1).1 hne]; exact h1⟩
  · rcases hbk u z hz with ⟨rfl, rfl⟩ | ⟨hu, hz⟩
    · exact ⟨p, hp, hy⟩
    · obtain ⟨q, h1, h2⟩ := h.blk u z hz
      refine ⟨q, h1, h2.same (Gh.le_refl g) (fun hnq => hoth _ (h2.lt hnq) fun he => ?_)⟩
      exact hu (h.inj u b z x q p hz hx h1 hp hnq hn he)
  · obtain ⟨z', hz'⟩ := hbk0 u z hz
    exact h.live u z' q hz' hq hnq
  · intro hq hq' hnq hnq' he
    obtain ⟨v1, hv1⟩ := hbk0 u z hz
    obtain ⟨v2, hv2⟩ := hbk0 u' z' hz'
    exact h.inj u u' v1 v2 q q' hv1 hv2 hq hq' hnq hnq' he
theorem WR.write (h : WR F g bk w) {b : BId} {p : Pl} {x y : Blk} (hx : bk b = some x) (hp : g.map b = some p) (hn : p.isNil = false) {cs cs' : Array Value} {ty : TypeId}
    (hc : w.heap[p.blk]? = some (.cells cs ty (0, 0))) (hs : cs'.size = cs.size) (hsame : ∀ j, (j < p.base ∨ p.base + p.len * p.esz ≤ j) → cs'[j]? = cs[j]?)
    (hy : BR g p (w.setRow p.blk cs') y) : WR F g (upB bk [(b, some y)]) (w.setRow p.blk cs') :=
  h.write' hx hp hn hc hs hsame rfl rfl rfl (by simp) (setRow_heap w p.blk cs cs' ty (0, 0) hc) (fun k _ hk => setRow_other w p.blk k cs' hk) hy

/-- Blocks are given up. -/
theorem upB_dead {l : List BId} : ∀ {b : BId}, upB bk (dead l) b = if b ∈ l then none else bk b := by
  induction l with
  | nil => intro b; simp [dead, upB]
  | cons x l ih =>
    intro b
    show (bif bidEq x b then none else upB bk (dead l) b) = _
    by_cases hx : x = b
    · subst hx; rw [bidEq_self]; simp
    · rw [bidEq_false hx, cond_false, ih]
      have : b ∈ x :: l ↔ b ∈ l := by simp only [List.mem_cons]; exact ⟨fun h => h.resolve_left (fun e => hx e.symm), .inr⟩
      simp [this]
theorem WR.sub (h : WR F g bk w) {bk' : BId → Option Blk} (hs : ∀ b x, bk' b = some x → bk b = some x) : WR F g bk' w :=
  ⟨h.frame, h.imm, h.ext, h.newOnly, fun b x hx => h.blk b x (hs b x hx), fun b x p hx => h.live b x p (hs b x hx), fun b b' x x' p p' hx hx' => h.inj b b' x x' p p' (hs b x hx) (hs b' x' hx')⟩
/-- A block that holds nothing of the state is written. -/
theorem WR.writeFree (h : WR F g bk w) {k : Nat} {cs cs' : Array Value} {ty : TypeId} (hb : F.bor = none) (hk : F.w0.heap.size ≤ k) (hi : g.imm k = none) (hc : w.heap[k]? = some (.cells cs ty (0, 0)))
    (hf : ∀ b x p, bk b = some x → g.map b = some p → p.isNil = false → p.blk ≠ k) : WR F g bk (w.setRow k cs') := by
  have hoth := fun j (hj : j ≠ k) => setRow_other w k j cs' hj
  refine ⟨⟨h.frame.os, h.frame.tape, h.frame.output, by simpa using h.frame.size, fun j hj hno => ?_, fun j c n hj => ?_⟩, fun j c hj => ?_, h.ext, h.newOnly, fun u z hz => ?_, h.live, h.inj⟩
  · rw [hoth j (by omega)]; exact h.frame.block j hj hno
  · rw [hb] at hj; cases hj
  · have hne : j ≠ k := by rintro rfl; rw [hi] at hj; cases hj
    obtain ⟨t, fz, h1⟩ := h.imm j c hj
    exact ⟨t, fz, by rw [hoth j hne]; exact h1⟩
  · obtain ⟨q, h1, h2⟩ := h.blk u z hz
    exact ⟨q, h1, h2.same (Gh.le_refl g) (fun hnq => hoth _ (hf u z q hz h1 hnq))⟩
theorem upB_append (l m : List (BId × Option Blk)) : upB bk (l ++ m) = upB (upB bk m) l := by
  funext b
  induction l with
  | nil => rfl
  | cons x l ih => obtain ⟨k, v⟩ := x; simp only [List.cons_append, upB, ih]
end
end Go.Proofs.YtbjkpogfgijmaaaGreat
