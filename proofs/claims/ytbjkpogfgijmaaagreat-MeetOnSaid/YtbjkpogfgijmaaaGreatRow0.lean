/- What is read of the arguments stands for plain data, by the blocks that lie there when the call begins. -/
import Derived.Test.YtbjkpogfgijmaaaGreatKit
import Derived.ProofKit
import Derived.OpenShut
import Derived.ChangeOld
namespace Go.Proofs.YtbjkpogfgijmaaaGreat
open Go Go.RowKit
set_option linter.unusedVariables false
set_option linter.unusedSimpArgs false

/-- The cells that lie in memory when the call begins. -/
def startImm (w : World) : Imm := fun k => match w.heap[k]? with
  | some (.cells cs _ _) => some cs
  | _ => none
theorem startImm_in (w : World) : ImmIn (startImm w) w := by
  intro k cs h
  unfold startImm at h
  split at h
  · rename_i cs' ty fz hw
    obtain rfl := Option.some.inj h
    exact ⟨ty, fz, hw⟩
  · cases h
section
variable {H : Type} {enc : TypeId × Value → H} {P : Program} {w : World} {sp : Nat → Bool} {held : Bool}
/-- What a type's cells, read as data, stand for. -/
def Op (enc : TypeId × Value → H) (P : Program) (w : World) (sp : Nat → Bool) (held : Bool) (t : TypeId) (n : Nat) (X : List PL → Prop) : Prop :=
  P.cellsOf t = n ∧ ∀ fuel cs x, DataW.trod enc P w 0 sp held fuel t cs = some x → cs.length = n ∧ ∃ ls, PRow (startImm w) ls cs ∧ X ls
def isInt (k : IntKind) (l : List PL) : Prop := ∃ n : Int, l = [.int k n] ∧ (Lit.int k n).wf = true
def isBool (l : List PL) : Prop := ∃ b : Bool, l = [.bool b]
theorem prow1 {m : Imm} {x : PL} {v : Value} (h : PR m x v) : PRow m [x] [v] := by
  refine ⟨rfl, fun j => ?_⟩
  cases j with
  | zero => intro l v' h1 h2; simp at h1 h2; subst h1 h2; exact h
  | succ j => intro l v' h1 h2; simp at h1
theorem op_int {t : TypeId} {k : IntKind} (ht : P.underlying t = some (.int k)) (hc : P.cellsOf t = 1) : Op enc P w sp held t 1 (isInt k) := by
  refine ⟨hc, fun fuel cs x h => ?_⟩
  obtain ⟨n, rfl, _, hw⟩ := DataW.trod_int ht h
  exact ⟨rfl, _, prow1 (.int k n), n, rfl, hw⟩
theorem op_bool {t : TypeId} (ht : P.underlying t = some .bool) (hc : P.cellsOf t = 1) : Op enc P w sp held t 1 isBool := by
  refine ⟨hc, fun fuel cs x h => ?_⟩
  obtain ⟨b, rfl, _⟩ := DataW.trod_bool ht h
  exact ⟨rfl, _, prow1 (.bool b), b, rfl⟩
/-- Data one behind the other. -/
def Cat : List (List PL → Prop) → List PL → Prop
  | [], l => l = []
  | X :: Xs, l => ∃ a b, l = a ++ b ∧ X a ∧ Cat Xs b
def FieldsOp (enc : TypeId × Value → H) (P : Program) (w : World) (sp : Nat → Bool) (held : Bool) : List (Nat × TypeId) → Nat → List (List PL → Prop) → Nat → Prop
  | [], off, [], n => off = n
  | f :: fs, off, X :: Xs, n => f.1 = off ∧ ∃ k, Op enc P w sp held f.2 k X ∧ FieldsOp enc P w sp held fs (off + k) Xs n
  | _, _, _, _ => False
theorem prow_append {m : Imm} {a b : List PL} {u v : List Value} (h : PRow m a u) (k : PRow m b v) : PRow m (a ++ b) (u ++ v) := by
  refine ⟨by simp [h.1, k.1], fun j l x h1 h2 => ?_⟩
  rw [List.getElem?_append] at h1 h2
  by_cases hj : j < a.length
  · rw [if_pos hj] at h1; rw [if_pos (by rw [← h.1]; exact hj)] at h2; exact h.2 j l x h1 h2
  · rw [if_neg hj] at h1; rw [if_neg (by rw [← h.1]; exact hj), ← h.1] at h2; exact k.2 _ l x h1 h2
theorem fields_op {n : Nat} {cs : List Value} (hcs : cs.length = n) : ∀ {fs : List (Nat × TypeId)} {off : Nat} {Xs : List (List PL → Prop)}, FieldsOp enc P w sp held fs off Xs n → off ≤ n →
    (∀ f ∈ fs, ∃ fuel x, DataW.trod enc P w 0 sp held fuel f.2 ((cs.drop f.1).take (P.cellsOf f.2)) = some x) → ∃ ls, PRow (startImm w) ls (cs.drop off) ∧ Cat Xs ls
  | [], off, [], h, _, _ => by
    have h : off = n := h
    subst h
    refine ⟨[], ?_, rfl⟩
    rw [← hcs, List.drop_length]; exact ⟨rfl, fun j l v h => by simp at h⟩
  | [], off, _ :: _, h, _, _ => h.elim
  | _ :: _, off, [], h, _, _ => h.elim
  | f :: fs, off, X :: Xs, h, hle, ht => by
    obtain ⟨rfl, k, hop, hr⟩ := h
    obtain ⟨fuel, x, hx⟩ := ht f (by simp)
    rw [hop.1] at hx
    obtain ⟨hl, a, ha, hX⟩ := hop.2 _ _ _ hx
    have hk : f.1 + k ≤ n := by
      rw [List.length_take, List.length_drop, hcs] at hl; omega
    obtain ⟨b, hb, hC⟩ := fields_op hcs hr hk (fun g hg => ht g (by simp [hg]))
    refine ⟨a ++ b, ?_, a, b, rfl, hX, hC⟩
    have : cs.drop f.1 = (cs.drop f.1).take k ++ cs.drop (f.1 + k) := by
      rw [← List.drop_drop, List.take_append_drop]
    rw [this]; exact prow_append ha hb
theorem op_struct {t : TypeId} {fs : Array Field} {n : Nat} {Xs : List (List PL → Prop)} (ht : P.underlying t = some (.struct fs)) (hc : P.cellsOf t = n) (h : FieldsOp enc P w sp held (fs.toList.map fun f => (f.offset, f.type)) 0 Xs n) : Op enc P w sp held t n (Cat Xs) := by
  refine ⟨hc, fun fuel cs x hx => ?_⟩
  obtain ⟨xs, m, rfl, _, hl, hsz, hf⟩ := DataW.trod_struct ht hx
  rw [hc] at hl
  refine ⟨hl, ?_⟩
  have := fields_op hl h (Nat.zero_le _) (fun f hf' => by
    obtain ⟨g, hg, rfl⟩ := List.mem_map.1 hf'
    obtain ⟨i, hi⟩ := List.getElem?_of_mem hg
    have hi' : fs[i]? = some g := by simpa using hi
    have h1 := hf i g hi'
    have hlt : i < xs.length := by rw [hsz]; have := (List.getElem?_eq_some_iff.1 hi).1; simpa using this
    exact ⟨m, xs[i], by rw [h1, List.getElem?_eq_getElem hlt]⟩)
  simpa using this
theorem op_array {t e : TypeId} {n k : Nat} {X : List PL → Prop} {Xs : List (List PL → Prop)} (ht : P.underlying t = some (.array n e)) (hc : P.cellsOf t = n * k) (he : Op enc P w sp held e k X) (hXs : Xs = List.replicate n X) : Op enc P w sp held t (n * k) (Cat Xs) := by
  refine ⟨hc, fun fuel cs x hx => ?_⟩
  obtain ⟨xs, m, rfl, _, hl, hsz, hf⟩ := DataW.trod_array ht hx
  rw [hc] at hl
  refine ⟨hl, ?_⟩
  subst hXs
  have go : ∀ j i, i + j = n → ∃ ls, PRow (startImm w) ls (cs.drop (i * k)) ∧ Cat (List.replicate j X) ls := by
    intro j
    induction j with
    | zero =>
      intro i hi
      refine ⟨[], ?_, rfl⟩
      have : i = n := by omega
      subst this
      rw [← hl, List.drop_length]; exact ⟨rfl, fun j l v h => by simp at h⟩
    | succ j ih =>
      intro i hi
      have h1 := hf i (by omega)
      rw [List.getElem?_eq_getElem (show i < xs.length by omega), he.1] at h1
      obtain ⟨_, a, ha, hX⟩ := he.2 _ _ _ h1
      obtain ⟨b, hb, hC⟩ := ih (i + 1) (by omega)
      refine ⟨a ++ b, ?_, a, b, rfl, hX, hC⟩
      have : cs.drop (i * k) = (cs.drop (i * k)).take k ++ cs.drop ((i + 1) * k) := by
        rw [show (i + 1) * k = i * k + k by rw [Nat.add_mul, Nat.one_mul], ← List.drop_drop, List.take_append_drop]
      rw [this]; exact prow_append ha hb
  have := go n 0 (by omega)
  simpa using this
/-- A row of elements. -/
def isRow (e : ETy) (Y : e.T → Prop) (l : List PL) : Prop := ∃ xs : List e.T, l = [.sl e xs] ∧ (∀ x ∈ xs, Y x) ∧ xs.length ≤ maxLen
theorem op_slice {t el : TypeId} {e : ETy} {X : List PL → Prop} {Y : e.T → Prop} (ht : P.underlying t = some (.slice el)) (hc : P.cellsOf t = 1) (he : Op enc P w sp held el e.sz X) (hX : ∀ l, X l → ∃ x, l = e.enc x ∧ Y x) : Op enc P w sp held t 1 (isRow e Y) := by
  refine ⟨hc, fun fuel cs x hx => ?_⟩
  rcases DataW.trod_slice ht hx with ⟨rfl, _⟩ | ⟨a, len, cap, elems, rest, n, _, rfl, _, _, hl, hm, hlen, hel, _, _⟩
  · exact ⟨rfl, _, prow1 (.slE e none 0), [], rfl, by simp, by simp⟩
  · refine ⟨rfl, ?_⟩
    by_cases h0 : len = 0
    · subst h0
      exact ⟨_, prow1 (.slE e (some a) cap), [], rfl, by simp, by simp⟩
    · -- each element
      have each : ∀ i, i < len → ∃ y : e.T, Y y ∧ ∃ cs', w.cells? 0 (a.add (i * e.sz)) e.sz = some cs' ∧ PRow (startImm w) (e.enc y) cs' := by
        intro i hi
        have h1 := hel i hi
        rw [List.getElem?_eq_getElem (show i < elems.length by omega), he.1] at h1
        obtain ⟨cs', h2, h3⟩ := Option.bind_eq_some_iff.1 h1
        obtain ⟨_, ls, h4, h5⟩ := he.2 _ _ _ h3
        obtain ⟨y, rfl, hy⟩ := hX _ h5
        exact ⟨y, hy, cs', h2, h4⟩
      have hsz := e.sz_pos
      -- the block
      obtain ⟨y0, _, c0, hc0, hp0⟩ := each 0 (by omega)
      obtain ⟨hlc, _, hcell0⟩ := World.cells?_some hc0
      have hb : ∃ bs ty fz, w.heap[a.block]? = some (.cells bs ty fz) ∧ a.spot = none := by
        have h1 := hcell0 0 (by omega)
        rw [List.getElem?_eq_getElem (show 0 < c0.length by omega)] at h1
        have hsp := World.cell?_spot h1
        have h2 : (a.add (0 * e.sz)).add 0 = a := by simp [Addr.add]
        rw [h2] at h1 hsp
        unfold World.cell? at h1
        split at h1
        · rename_i bs ty fz hh; exact ⟨bs, ty, fz, hh, hsp⟩
        · cases h1
      obtain ⟨bs, ty, fz, hbs, hspot⟩ := hb
      obtain ⟨b, off, spot⟩ := a
      dsimp only at hbs hspot
      subst hspot
      have hm : startImm w b = some bs := by unfold startImm; rw [hbs]
      have hcell : ∀ i j v cs', w.cells? 0 ((⟨b, off, none⟩ : Addr).add (i * e.sz)) e.sz = some cs' → cs'[j]? = some v → bs[off + i * e.sz + j]? = some v := by
        intro i j v cs' h1 h2
        obtain ⟨h3, _, h4⟩ := World.cells?_some h1
        have hj : j < cs'.length := (List.getElem?_eq_some_iff.1 h2).1
        have h5 := h4 j (by omega)
        rw [h2] at h5
        have add_none : ∀ o n : Nat, (⟨b, o, none⟩ : Addr).add n = ⟨b, o + n, none⟩ := fun o n => by
          simp only [Addr.add]; split <;> simp_all
        rw [add_none, add_none] at h5
        simp only [World.cell?, hbs] at h5
        simpa using h5
      -- all of them
      have all : ∀ j i, i + j = len → ∃ (xs : List e.T) (vs : List Value), xs.length = j ∧ (∀ x ∈ xs, Y x) ∧ PRow (startImm w) (flat e xs) vs ∧ ∀ (q : Nat) v, vs[q]? = some v → bs[off + i * e.sz + q]? = some v := by
        intro j
        induction j with
        | zero => intro i _; exact ⟨[], [], rfl, by simp, ⟨rfl, fun j l v h => by simp [flat] at h⟩, fun q v h => by simp at h⟩
        | succ j ih =>
          intro i hi
          obtain ⟨y, hy, cs', h1, h2⟩ := each i (by omega)
          obtain ⟨xs, vs, g1, g2, g3, g4⟩ := ih (i + 1) (by omega)
          have hcl : cs'.length = e.sz := by rw [← h2.1, ETy.enc_len]
          refine ⟨y :: xs, cs' ++ vs, by simp [g1], ?_, ?_, fun q v hq => ?_⟩
          · intro x hx; rcases List.mem_cons.1 hx with rfl | hx; exact hy; exact g2 x hx
          · have : flat e (y :: xs) = e.enc y ++ flat e xs := by simp [flat]
            rw [this]; exact prow_append h2 g3
          · rw [List.getElem?_append] at hq
            by_cases hlt : q < cs'.length
            · rw [if_pos hlt] at hq; exact hcell i q v cs' h1 hq
            · rw [if_neg hlt] at hq
              have := g4 _ v hq
              rw [hcl] at this hlt
              have e1 : off + (i + 1) * e.sz + (q - e.sz) = off + i * e.sz + q := by rw [Nat.add_mul, Nat.one_mul]; omega
              rwa [e1] at this
      obtain ⟨xs, vs, g1, g2, g3, g4⟩ := all len 0 (by omega)
      refine ⟨[.sl e xs], ?_, xs, rfl, g2, by omega⟩
      have := prow1 (m := startImm w) (.sl e xs b off cap bs vs hm (by omega) g3.1.symm (by simpa using g4) g3.2)
      rwa [g1] at this
end
theorem Cat.one {X : List PL → Prop} {l : List PL} (h : Cat [X] l) : X l := by
  obtain ⟨a, b, rfl, h1, h2⟩ := h
  have h2 : b = [] := h2
  subst h2; simpa using h1
end Go.Proofs.YtbjkpogfgijmaaaGreat
