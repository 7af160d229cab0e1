/- How values and memory stand for plain data: the relations that the interpreter's soundness speaks of. -/
import Derived.Test.YtbjkpogfgijmaaaGreatInterp
namespace Go.Proofs.YtbjkpogfgijmaaaGreat
open Go Go.RowKit
set_option linter.unusedVariables false
set_option linter.unusedSimpArgs false

def flat (e : ETy) (xs : List e.T) : List PL := xs.flatMap e.enc
abbrev Imm := Nat → Option (Array Value)

/-- A cell's value stands for plain data, by the blocks that nobody changes. -/
inductive PR (m : Imm) : PL → Value → Prop where
  | int (k : IntKind) (n : Int) : PR m (.int k n) (.int k n)
  | bool (b : Bool) : PR m (.bool b) (.bool b)
  | nil : PR m .nil (.slice none 0 0)
  | slE (e : ETy) (a : Option Addr) (cap : Nat) : PR m (.sl e []) (.slice a 0 cap)
  | sl (e : ETy) (xs : List e.T) (b off cap : Nat) (cs : Array Value) (vs : List Value) (hb : m b = some cs) (hcap : xs.length ≤ cap)
      (hlen : vs.length = (flat e xs).length) (hc : ∀ (j : Nat) (v : Value), vs[j]? = some v → cs[off + j]? = some v)
      (hl : ∀ (j : Nat) (l : PL) (v : Value), (flat e xs)[j]? = some l → vs[j]? = some v → PR m l v) : PR m (.sl e xs) (.slice (some ⟨b, off, none⟩) xs.length cap)

def PRow (m : Imm) (ls : List PL) (vs : List Value) : Prop := ls.length = vs.length ∧ ∀ (j : Nat) l v, ls[j]? = some l → vs[j]? = some v → PR m l v

/-- Where a block of the call's own lies. -/
structure Pl where
  blk : Nat
  base : Nat
  esz : Nat
  len : Nat
  isNil : Bool
  cap : Option Nat
  ty : TypeId
structure Gh where
  imm : Imm
  map : BId → Option Pl

/-- A place that holds plain cells that nobody changes. -/
def ImmAt (m : Imm) (ls : List PL) (off : Nat) (v : Value) : Prop :=
  ∃ b p cs vs, v = .pointer (some ⟨b, p + off, none⟩) ∧ m b = some cs ∧ (∀ (j : Nat) u, vs[j]? = some u → cs[p + j]? = some u) ∧ PRow m ls vs

inductive LR (g : Gh) : Leaf → Value → Prop where
  | p (x : PL) (v : Value) (h : PR g.imm x v) : LR g (.p x) v
  | ref (b : BId) (off : Nat) (p : Pl) (h : g.map b = some p) : LR g (.ref b off) (.pointer (some ⟨p.blk, p.base + off, none⟩))
  | eref (b : BId) (i off : Nat) (p : Pl) (h : g.map b = some p) (hi : i < p.len) (hn : p.isNil = false) : LR g (.eref b i off) (.pointer (some ⟨p.blk, p.base + i * p.esz + off, none⟩))
  | own (b : BId) (p : Pl) (cap : Nat) (h : g.map b = some p) (hn : p.isNil = false) (hl : p.len ≤ cap) (hc : ∀ c, p.cap = some c → cap = c) : LR g (.own b) (.slice (some ⟨p.blk, p.base, none⟩) p.len cap)
  | ownN (b : BId) (p : Pl) (h : g.map b = some p) (hn : p.isNil = true) : LR g (.own b) (.slice none 0 0)
  | osl (b : BId) (lo hi : Nat) (p : Pl) (a : Option Addr) (cap : Nat) (h : g.map b = some p) (hl : hi - lo ≤ cap) (hb : hi ≤ p.len)
      (ha : lo < hi → a = some ⟨p.blk, p.base + lo * p.esz, none⟩ ∧ p.isNil = false) : LR g (.osl b lo hi) (.slice a (hi - lo) cap)
  | imm (ls : List PL) (off : Nat) (v : Value) (h : ImmAt g.imm ls off v) : LR g (.imm ls off) v
  | clo (f : FuncId) (caps : List (List PL)) (cv : List Value) (hl : caps.length = cv.length) (h : ∀ (j : Nat) l v, caps[j]? = some l → cv[j]? = some v → ImmAt g.imm l 0 v) : LR g (.clo f caps) (.func (.func f) #[] cv.toArray)
  | undef (v : Value) : LR g .undef v
  | void : LR g .void Go.undef

def Row (g : Gh) (ls : List Leaf) (vs : List Value) : Prop := ls.length = vs.length ∧ ∀ (j : Nat) l v, ls[j]? = some l → vs[j]? = some v → LR g l v
/-- Leaves that are cells: each of one cell. -/
def Cells1 (vs : List Value) : Prop := ∀ v ∈ vs, v.oneCell' = true

def VR1 (g : Gh) : AV → Value → Prop
  | .lf l, v => LR g l v
  | .st ls, v => ∃ cs : Array Value, v = .agg cs ∧ Row g ls cs.toList ∧ Cells1 cs.toList
  | .tup _, _ => False
def VRs (g : Gh) : List AV → List Value → Prop
  | [], [] => True
  | a :: as, v :: vs => VR1 g a v ∧ VRs g as vs
  | _, _ => False
def VR (g : Gh) : AV → Value → Prop
  | .tup vs, v => ∃ xs : Array Value, v = .tuple xs ∧ VRs g vs xs.toList
  | a, v => VR1 g a v

structure Gh.le (g g' : Gh) : Prop where
  imm : ∀ k cs, g.imm k = some cs → g'.imm k = some cs
  map : ∀ b p, g.map b = some p → g'.map b = some p
theorem Gh.le_refl (g : Gh) : g.le g := ⟨fun _ _ h => h, fun _ _ h => h⟩
theorem Gh.le_trans {a b c : Gh} (h : a.le b) (k : b.le c) : a.le c := ⟨fun x y z => k.imm x y (h.imm x y z), fun x y z => k.map x y (h.map x y z)⟩

theorem PR.mono {m m' : Imm} (h : ∀ k cs, m k = some cs → m' k = some cs) {x : PL} {v : Value} (hx : PR m x v) : PR m' x v := by
  induction hx with
  | int k n => exact .int k n
  | bool b => exact .bool b
  | nil => exact .nil
  | slE e a cap => exact .slE e a cap
  | sl e xs b off cap cs vs hb hcap hlen hc hl ih => exact .sl e xs b off cap cs vs (h _ _ hb) hcap hlen hc ih
theorem PRow.mono {m m' : Imm} (h : ∀ k cs, m k = some cs → m' k = some cs) {ls : List PL} {vs : List Value} (hx : PRow m ls vs) : PRow m' ls vs :=
  ⟨hx.1, fun j l v hl hv => (hx.2 j l v hl hv).mono h⟩
theorem ImmAt.mono {m m' : Imm} (h : ∀ k cs, m k = some cs → m' k = some cs) {ls : List PL} {off : Nat} {v : Value} (hx : ImmAt m ls off v) : ImmAt m' ls off v := by
  obtain ⟨b, p, cs, vs, h1, h2, h3, h4⟩ := hx
  exact ⟨b, p, cs, vs, h1, h _ _ h2, h3, h4.mono h⟩
theorem LR.mono {g g' : Gh} (h : g.le g') {l : Leaf} {v : Value} (hx : LR g l v) : LR g' l v := by
  cases hx with
  | p x v h1 => exact .p x v (h1.mono h.imm)
  | ref b off p h1 => exact .ref b off p (h.map _ _ h1)
  | eref b i off p h1 h2 h3 => exact .eref b i off p (h.map _ _ h1) h2 h3
  | own b p cap h1 h2 h3 h4 => exact .own b p cap (h.map _ _ h1) h2 h3 h4
  | ownN b p h1 h2 => exact .ownN b p (h.map _ _ h1) h2
  | osl b lo hi p a cap h1 h2 h4 h3 => exact .osl b lo hi p a cap (h.map _ _ h1) h2 h4 h3
  | imm ls off v h1 => exact .imm ls off v (h1.mono h.imm)
  | clo f caps cv h1 h2 => exact .clo f caps cv h1 (fun j l v hl hv => (h2 j l v hl hv).mono h.imm)
  | undef v => exact .undef v
  | void => exact .void
theorem Row.mono {g g' : Gh} (h : g.le g') {ls : List Leaf} {vs : List Value} (hx : Row g ls vs) : Row g' ls vs :=
  ⟨hx.1, fun j l v hl hv => (hx.2 j l v hl hv).mono h⟩
theorem VR1.mono {g g' : Gh} (h : g.le g') {a : AV} {v : Value} (hx : VR1 g a v) : VR1 g' a v := by
  cases a with
  | lf l => exact LR.mono h hx
  | st ls => obtain ⟨cs, h1, h2, h3⟩ := hx; exact ⟨cs, h1, h2.mono h, h3⟩
  | tup vs => exact hx
theorem VRs.mono {g g' : Gh} (h : g.le g') : ∀ {as : List AV} {vs : List Value}, VRs g as vs → VRs g' as vs
  | [], [], _ => trivial
  | _ :: _, _ :: _, hx => ⟨hx.1.mono h, hx.2.mono h⟩
theorem VR.mono {g g' : Gh} (h : g.le g') {a : AV} {v : Value} (hx : VR g a v) : VR g' a v := by
  cases a with
  | lf l => exact LR.mono h hx
  | st ls => exact VR1.mono (a := .st ls) h hx
  | tup vs => obtain ⟨xs, h1, h2⟩ := hx; exact ⟨xs, h1, h2.mono h⟩
theorem VR.of1 {g : Gh} {a : AV} {v : Value} (h : VR1 g a v) : VR g a v := by
  cases a with
  | lf l => exact h
  | st ls => exact h
  | tup vs => exact h.elim

/-! ### Rows -/
section
variable {g : Gh} {ls ms : List Leaf} {vs us : List Value}
theorem Row.nil : Row g [] [] := ⟨rfl, fun j l v h => by simp at h⟩
theorem Row.cons {l : Leaf} {v : Value} (h : LR g l v) (hr : Row g ls vs) : Row g (l :: ls) (v :: vs) := by
  refine ⟨by simp [hr.1], fun j => ?_⟩
  cases j with
  | zero => intro l' v' h1 h2; simp at h1 h2; subst h1 h2; exact h
  | succ j => intro l' v' h1 h2; exact hr.2 j l' v' (by simpa using h1) (by simpa using h2)
theorem Row.of_cons {l : Leaf} {v : Value} (h : Row g (l :: ls) (v :: vs)) : LR g l v ∧ Row g ls vs :=
  ⟨h.2 0 l v rfl rfl, by simpa using h.1, fun j l' v' h1 h2 => h.2 (j + 1) l' v' (by simpa using h1) (by simpa using h2)⟩
theorem Row.take (h : Row g ls vs) (n : Nat) : Row g (ls.take n) (vs.take n) := by
  refine ⟨by simp [h.1], fun j l v h1 h2 => ?_⟩
  rw [List.getElem?_take] at h1 h2
  by_cases hj : j < n
  · rw [if_pos hj] at h1 h2; exact h.2 j l v h1 h2
  · rw [if_neg hj] at h1; cases h1
theorem Row.drop (h : Row g ls vs) (n : Nat) : Row g (ls.drop n) (vs.drop n) := by
  refine ⟨by simp [h.1], fun j l v h1 h2 => ?_⟩
  rw [List.getElem?_drop] at h1 h2
  exact h.2 _ l v h1 h2
theorem Row.append (h : Row g ls vs) (k : Row g ms us) : Row g (ls ++ ms) (vs ++ us) := by
  refine ⟨by simp [h.1, k.1], fun j l v h1 h2 => ?_⟩
  rw [List.getElem?_append] at h1 h2
  by_cases hj : j < ls.length
  · rw [if_pos hj] at h1; rw [if_pos (by rw [← h.1]; exact hj)] at h2; exact h.2 j l v h1 h2
  · rw [if_neg hj] at h1; rw [if_neg (by rw [← h.1]; exact hj), ← h.1] at h2; exact k.2 _ l v h1 h2
end
theorem row_lvs {g : Gh} {l : List PL} {vs : List Value} : Row g (lvs l) vs ↔ PRow g.imm l vs := by
  unfold lvs
  constructor
  · intro h
    refine ⟨by simpa using h.1, fun j x v h1 h2 => ?_⟩
    have := h.2 j (.p x) v (by simp [h1]) h2
    cases this with
    | p _ _ hp => exact hp
  · intro h
    refine ⟨by simpa using h.1, fun j x v h1 h2 => ?_⟩
    simp only [List.getElem?_map, Option.map_eq_some_iff] at h1
    obtain ⟨y, h1, rfl⟩ := h1
    exact .p y v (h.2 j y v h1 h2)
theorem PR.one {m : Imm} {x : PL} {v : Value} (h : PR m x v) : v.oneCell' = true := by cases h <;> rfl
theorem LR.one {g : Gh} {l : Leaf} {v : Value} (h : LR g l v) (hu : l ≠ .undef) (hv : l ≠ .void) : v.oneCell' = true := by
  cases h with
  | p x v h => exact h.one
  | imm ls off v h => obtain ⟨b, p, cs, vs, rfl, _⟩ := h; rfl
  | undef v => exact absurd rfl hu
  | void => exact absurd rfl hv
  | _ => rfl
theorem PRow.cells1 {m : Imm} {ls : List PL} {vs : List Value} (h : PRow m ls vs) : Cells1 vs := by
  intro v hv
  obtain ⟨j, hj⟩ := List.getElem?_of_mem hv
  have hlt : j < ls.length := by rw [h.1]; exact (List.getElem?_eq_some_iff.1 hj).1
  exact (h.2 j _ v (List.getElem?_eq_getElem hlt) hj).one
theorem pls_some : ∀ {ls : List Leaf} {l : List PL}, pls ls = some l → ls = lvs l
  | [], l, h => by simp [pls] at h; subst h; rfl
  | .p x :: r, l, h => by
    simp only [pls, Option.bind_eq_some_iff, Option.some.injEq] at h
    obtain ⟨y, h1, rfl⟩ := h
    rw [pls_some h1]; rfl
  | .ref .. :: _, l, h => by simp [pls] at h
  | .eref .. :: _, l, h => by simp [pls] at h
  | .own .. :: _, l, h => by simp [pls] at h
  | .osl .. :: _, l, h => by simp [pls] at h
  | .imm .. :: _, l, h => by simp [pls] at h
  | .clo .. :: _, l, h => by simp [pls] at h
  | .fresh .. :: _, l, h => by simp [pls] at h
  | .undef :: _, l, h => by simp [pls] at h
  | .void :: _, l, h => by simp [pls] at h

theorem flat_length (e : ETy) (xs : List e.T) : (flat e xs).length = xs.length * e.sz := by
  unfold flat
  induction xs with
  | nil => simp
  | cons x xs ih => simp [List.flatMap_cons, ih, ETy.enc_len, Nat.add_mul, Nat.add_comm]
theorem flat_append (e : ETy) (xs ys : List e.T) : flat e (xs ++ ys) = flat e xs ++ flat e ys := by simp [flat]
theorem ETy.sz_pos (e : ETy) : 0 < e.sz := by cases e <;> simp [ETy.sz]

/-- What is known of a value that is a variable's cells. -/
theorem cells_row {g : Gh} {a : AV} {v : Value} {ls : List Leaf} (hc : a.cells? = some ls) (h : VR g a v) : Row g ls v.cells.toList ∧ Cells1 v.cells.toList := by
  cases a with
  | tup vs => simp [AV.cells?] at hc
  | st l =>
    simp [AV.cells?] at hc; subst hc
    obtain ⟨cs, rfl, h1, h2⟩ := h
    exact ⟨by simpa [Value.cells] using h1, by simpa [Value.cells] using h2⟩
  | lf l =>
    have hl : l ≠ .undef ∧ l ≠ .void ∧ ls = [l] := by
      cases l <;> simp [AV.cells?] at hc <;> simp [hc]
    obtain ⟨hu, hu2, rfl⟩ := hl
    have h1 : LR g l v := h
    have ho := h1.one hu hu2
    have hv : v.cells = #[v] := by cases v <;> first | rfl | simp [Value.oneCell'] at ho
    rw [hv]
    exact ⟨Row.cons h1 Row.nil, by intro x hx; simp at hx; subst hx; exact ho⟩

end Go.Proofs.YtbjkpogfgijmaaaGreat
