/- What is known of the program's types and of the functions that are called; what it means that an operation comes to an event. -/
import Derived.Test.YtbjkpogfgijmaaaGreatMem
namespace Go.Proofs.YtbjkpogfgijmaaaGreat
open Go Go.RowKit
set_option linter.unusedVariables false
set_option linter.unusedSimpArgs false

/-! ### Types -/
def lkTy : List (Nat × TI) → Nat → Option TI
  | [], _ => none
  | (k, v) :: r, t => bif Nat.beq k t then some v else lkTy r t
def aggT (P : Program) (t : TypeId) : Option Bool := (P.underlying t).map fun d => match d with
  | .struct _ => true
  | .array _ _ => true
  | _ => false
def sizeB (P : Program) (t : TypeId) (n : Nat) : Bool := match P.info? t with
  | some i => Nat.beq i.size n
  | none => false
def fieldsB (P : Program) : List Field → List (Nat × Nat × Bool) → Bool
  | [], [] => true
  | f :: fs, (o, s, a) :: r => Nat.beq f.offset o && sizeB P f.type s && (aggT P f.type == some a) && fieldsB P fs r
  | _, _ => false
def elemB (P : Program) (et : TypeId) (n : Nat) : Bool := match P.info? et with
  | some i => Nat.beq i.size n && (match i.zero with
    | some z => Nat.beq z.cells.size n
    | none => false)
  | none => false
def tdB (P : Program) (t : TypeId) : TD → Bool
  | .int k => match P.underlying t with
    | some (.int k') => decide (k' = k)
    | _ => false
  | .slice e et => (match P.underlying t with
    | some (.slice et') => Nat.beq et' et
    | _ => false) && elemB P et e.sz
  | .struct fs => match P.underlying t with
    | some (.struct F) => fieldsB P F.toList fs
    | _ => false
  | .array n esz eagg => match P.underlying t with
    | some (.array n' et) => Nat.beq n' n && sizeB P et esz && (aggT P et == some eagg)
    | _ => false
  | .bool => match P.underlying t with
    | some .bool => true
    | _ => false
  | .other => true
def concP : PL → Value
  | .int k n => .int k n
  | .bool b => .bool b
  | .nil => .slice none 0 0
  | .sl _ _ => .slice none 0 0
def valB : Value → PL → Bool
  | .int k n, .int k' n' => decide (k = k') && decide (n = n')
  | .bool b, .bool b' => b == b'
  | .slice none 0 0, .nil => true
  | _, _ => false
def zeroB : List Value → List PL → Bool
  | [], [] => true
  | v :: vs, x :: xs => valB v x && zeroB vs xs
  | _, _ => false
def tiB (P : Program) (t : TypeId) (i : TI) : Bool :=
  (match P.info? t with
    | some f => Nat.beq f.size i.size && Nat.beq f.bytes i.bytes && (match f.zero with
      | some z => zeroB z.cells.toList i.zero
      | none => false)
    | none => false) && (aggT P t == some i.agg) && tdB P t i.td
def tabB (P : Program) (l : List (Nat × TI)) : Bool := l.all fun x => tiB P x.1 x.2
def TyOk (P : Program) (ty : TypeId → Option TI) : Prop := ∀ t i, ty t = some i → tiB P t i = true
theorem tyOk_of {P : Program} : ∀ {l : List (Nat × TI)}, tabB P l = true → TyOk P (lkTy l)
  | [], _ => by intro t i h; simp [lkTy] at h
  | (k, v) :: r, h => by
    simp only [tabB, List.all_cons, Bool.and_eq_true] at h
    intro t i hi
    simp only [lkTy] at hi
    cases hb : Nat.beq k t with
    | true =>
      have := Nat.eq_of_beq_eq_true hb; subst this
      rw [hb] at hi; simp only [cond_true, Option.some.injEq] at hi; subst hi; exact h.1
    | false => rw [hb] at hi; exact tyOk_of h.2 t i hi

section
variable {P : Program} {t : TypeId} {i : TI}
theorem tiB_info (h : tiB P t i = true) : ∃ f z, P.info? t = some f ∧ f.size = i.size ∧ f.bytes = i.bytes ∧ f.zero = some z ∧ zeroB z.cells.toList i.zero = true := by
  unfold tiB at h
  simp only [Bool.and_eq_true] at h
  obtain ⟨⟨h1, _⟩, _⟩ := h
  cases hf : P.info? t with
  | none => rw [hf] at h1; cases h1
  | some f =>
    rw [hf] at h1
    simp only [Bool.and_eq_true] at h1
    obtain ⟨⟨h2, h3⟩, h4⟩ := h1
    cases hz : f.zero with
    | none => rw [hz] at h4; cases h4
    | some z => rw [hz] at h4; exact ⟨f, z, rfl, Nat.eq_of_beq_eq_true h2, Nat.eq_of_beq_eq_true h3, hz, h4⟩
theorem tiB_agg (h : tiB P t i = true) : aggT P t = some i.agg := by
  unfold tiB at h
  simp only [Bool.and_eq_true, beq_iff_eq] at h
  exact h.1.2
theorem tiB_td (h : tiB P t i = true) : tdB P t i.td = true := by
  unfold tiB at h
  simp only [Bool.and_eq_true] at h
  exact h.2
theorem sizeB_eq {n : Nat} (h : sizeB P t n = true) : ∃ f, P.info? t = some f ∧ f.size = n := by
  unfold sizeB at h
  cases hf : P.info? t with
  | none => rw [hf] at h; cases h
  | some f => rw [hf] at h; exact ⟨f, rfl, Nat.eq_of_beq_eq_true h⟩
theorem valB_pr {m : Imm} {v : Value} {x : PL} (h : valB v x = true) : PR m x v := by
  unfold valB at h
  split at h
  · simp only [Bool.and_eq_true, decide_eq_true_eq] at h; obtain ⟨rfl, rfl⟩ := h; exact .int _ _
  · simp only [beq_iff_eq] at h; subst h; exact .bool _
  · exact .nil
  · cases h
theorem zeroB_row {m : Imm} : ∀ {vs : List Value} {xs : List PL}, zeroB vs xs = true → PRow m xs vs
  | [], [], _ => ⟨rfl, fun j l v h => by simp at h⟩
  | v :: vs, x :: xs, h => by
    simp only [zeroB, Bool.and_eq_true] at h
    have ih := zeroB_row (m := m) h.2
    refine ⟨by simp [ih.1], fun j => ?_⟩
    cases j with
    | zero => intro l u h1 h2; simp at h1 h2; subst h1 h2; exact valB_pr h.1
    | succ j => intro l u h1 h2; exact ih.2 j l u (by simpa using h1) (by simpa using h2)
theorem run_sizeOf {f : TypeInfo} (h : P.info? t = some f) (w : World) : (sizeOf t).run P w = .ok f.size w := by simp [sizeOf, typeInfo, h]
theorem run_isAgg {b : Bool} (h : aggT P t = some b) (w : World) : (isAgg t).run P w = .ok b w := by
  unfold aggT at h
  cases hu : P.underlying t with
  | none => rw [hu] at h; cases h
  | some d =>
    rw [hu] at h
    simp only [Option.map_some, Option.some.injEq] at h
    unfold isAgg
    rw [Sem.run_bind, run_underlying hu w]
    subst h
    cases d <;> rfl
end

/-! ### Calls -/
/-- A row that was made for the caller. -/
def FreshR (m : Imm) (w w' : World) (e : ETy) (et : TypeId) (xs : List e.T) (v : Value) : Prop :=
  (xs = [] ∧ v = .slice none 0 0) ∨ ∃ k cap cs vs, v = .slice (some ⟨k, 0, none⟩) xs.length cap ∧ w.heap.size ≤ k ∧ w'.heap[k]? = some (.cells cs et (0, 0)) ∧ xs.length ≤ cap ∧
    cs.size = cap * e.sz ∧ cap ≤ maxLen ∧ m k = none ∧ PRow m (flat e xs) vs ∧ ∀ (j : Nat) u, vs[j]? = some u → cs[j]? = some u
def Gh.of (m : Imm) : Gh := ⟨m, fun _ => none⟩
def OutR (m : Imm) (w w' : World) : AV → Value → Prop
  | .lf (.fresh e et xs), v => FreshR m w w' e et xs v
  | .tup (.lf (.fresh e et xs) :: r), v => ∃ v0 vs, v = .tuple (v0 :: vs).toArray ∧ FreshR m w w' e et xs v0 ∧ VRs (Gh.of m) r vs
  | a, v => VR (Gh.of m) a v
def CallOk (P : Program) (f : FuncId) (args : List AV) (out : AV) : Prop := ∀ (m : Imm) (w : World) (cargs : List Value), ImmIn m w → VRs (Gh.of m) args cargs →
  Calls P f cargs.toArray w fun e w' => ∃ v m', e = .returned v ∧ (∀ k cs, m k = some cs → m' k = some cs) ∧ (∀ k cs, m' k = some cs → m k = some cs ∨ w.heap.size ≤ k) ∧
    ImmIn m' w' ∧ OutR m' w w' out v ∧ Below w.heap.size w w'
def ints (l : List Int) : List Value := l.map (Value.int .u32)
def MutOk (P : Program) (et : TypeId) (f : FuncId) (seg : List Int) (args : List AV) (out : AV) (seg' : List Int) : Prop :=
  out.scal = true ∧ ∀ (m : Imm) (w : World) (cargs : List Value) (k b cap : Nat) (cs : Array Value), ImmIn m w → VRs (Gh.of m) args cargs →
    w.heap[k]? = some (.cells cs et (0, 0)) → m k = none → 0 < seg.length → b + seg.length ≤ cs.size → (∀ (j : Nat) u, (ints seg)[j]? = some u → cs[b + j]? = some u) → seg.length ≤ cap →
    Calls P f (.slice (some ⟨k, b, none⟩) seg.length cap :: cargs).toArray w fun e w' => ∃ v cs', e = .returned v ∧ seg'.length = seg.length ∧ VR (Gh.of m) out v ∧ w'.heap[k]? = some (.cells cs' et (0, 0)) ∧ cs'.size = cs.size ∧
      (∀ j, (j < b ∨ b + seg.length ≤ j) → cs'[j]? = cs[j]?) ∧ (∀ (j : Nat) u, (ints seg')[j]? = some u → cs'[b + j]? = some u) ∧
      w'.os = w.os ∧ w'.tape = w.tape ∧ w'.output = w.output ∧ w.heap.size ≤ w'.heap.size ∧ ∀ i, i < w.heap.size → i ≠ k → w'.heap[i]? = w.heap[i]?

def Slot.t : Slot → Nat
  | .val t _ _ _ => t
  | .arr t _ _ => t
  | .var t _ _ _ => t
/-- What is read back into a slot stands for the same. -/
def SlotOk : Slot → Prop
  | .val _ T enc dec => ∀ a x, dec a = some x → ∀ (g : Gh) v, VR g a v → VR (Gh.of g.imm) (enc x) v
  | .arr _ _ _ => True
  | .var _ T enc dec => ∀ l x, dec l = some x → (enc x).length = l.length ∧ ∀ (m : Imm) vs, PRow m l vs → PRow m (enc x) vs
structure CtxOk (P : Program) (C : Ctx) : Prop where
  ty : TyOk P C.ty
  call : ∀ {R : Type} f args (K : AV → Option R) r, C.call f args K = some r → ∃ out, K out = some r ∧ CallOk P f args out
  mcall : ∀ {R : Type} f seg args (K : AV → List Int → Option R) r, C.mcall f seg args K = some r → ∃ out seg', K out seg' = some r ∧ MutOk P C.u32 f seg args out seg'
  slots : ∀ d n l outs, C.loops d = .norm n l outs → ((∀ s ∈ l, SlotOk s) ∧ (l.map Slot.t).Nodup) ∧ ∀ x ∈ outs, (∀ s ∈ x.2, SlotOk s) ∧ (x.2.map Slot.t).Nodup
  /-- A function that is entered has a body. -/
  body : ∀ {R : Type} f args (K : AV → Option R) r, C.call f args K = some r → ∃ fn, P.funcs[f]? = some fn ∧ fn.body.isNone = false ∧ (fn.name == "runtime.NumGoroutine") = false
  mbody : ∀ {R : Type} f seg args (K : AV → List Int → Option R) r, C.mcall f seg args K = some r → ∃ fn, P.funcs[f]? = some fn ∧ fn.body.isNone = false ∧ (fn.name == "runtime.NumGoroutine") = false

/-- An operation comes to an event, in whatever frame and world stand for what it looks at. -/
def EvOk (P : Program) (nt : Nat) (nb : Bool) (tm : Nat → AV) (bk : BId → Option Blk) (ep : Nat) (o : Oper) (e : Ev) : Prop :=
  ∀ (F : Fr) (g : Gh) (tm' : Nat → AV) (bk' : BId → Option Blk) (a : Act) (w : World) (next : Act → World → Prop) (Q : Exit → Act → World → Prop),
    (nb = true → F.bor = none) → (∀ t ∈ tmpsOf o.op.operands.toList, tm' t = tm t) → (∀ b ∈ e.use, bk' b = bk b) → TR nt g tm' a → WR F g bk' w →
    (∀ d, o.dst = some d → d < nt) → (∀ d, o.dst = some d → g.map (d, ep) = none) →
    (∀ g' a' w', g.le g' → (∀ b p, g'.map b = some p → g.map b = some p ∨ ∃ d, o.dst = some d ∧ b = (d, ep)) → TR nt g' (upT tm' o.dst e.val) a' → WR F g' (upB bk' e.blk) w' → next a' w') →
    o.wp P a w next Q

/-- The common case: the operation yields a value, in a world that stands for the new state. -/
theorem EvOk.of {P : Program} {nt : Nat} {nb : Bool} {tm : Nat → AV} {bk : BId → Option Blk} {ep : Nat} {o : Oper} {e : Ev}
    (h : ∀ (F : Fr) (g : Gh) (tm' : Nat → AV) (bk' : BId → Option Blk) (a : Act) (w : World), (nb = true → F.bor = none) → (∀ t ∈ tmpsOf o.op.operands.toList, tm' t = tm t) → (∀ b ∈ e.use, bk' b = bk b) →
      TR nt g tm' a → WR F g bk' w → (∀ d, o.dst = some d → d < nt) → (∀ d, o.dst = some d → g.map (d, ep) = none) →
      ∃ v w' g', ((execOp a.eval o).run P w = .ok (.value v) w' ∨ ((execOp a.eval o).run P w = .ok .skip w' ∧ v = undef)) ∧ g.le g' ∧
        (∀ b p, g'.map b = some p → g.map b = some p ∨ ∃ d, o.dst = some d ∧ b = (d, ep)) ∧ VR g' e.val v ∧ WR F g' (upB bk' e.blk) w') : EvOk P nt nb tm bk ep o e := by
  intro F g tm' bk' a w next Q hnb ht hb hT hW hd hf hnext
  obtain ⟨v, w', g', hrun, hle, hmap, hv, hw⟩ := h F g tm' bk' a w hnb ht hb hT hW hd hf
  have hT' := (hT.mono hle).put hd hv
  rcases hrun with hrun | ⟨hrun, rfl⟩
  · unfold Oper.wp; rw [hrun]; exact hnext g' _ w' hle hmap hT' hw
  · unfold Oper.wp; rw [hrun]; exact hnext g' _ w' hle hmap hT' hw

theorem LR_cst (g : Gh) (v : Value) : VR g (cst v) v := by
  unfold cst
  split
  · exact LR.p _ _ (.int _ _)
  · exact LR.p _ _ (.bool _)
  · exact LR.p _ _ .nil
  · exact LR.undef _
/-- An operand's value stands for what the interpreter has. -/
theorem evA_ok {nt : Nat} {g : Gh} {tm tm' : List (Nat × AV)} {f f' : Nat → AV} {a : Act} (hT : TR nt g f' a) (x : Operand) (tm0 : List (Nat × AV)) (hf : f = lk tm0)
    (ht : ∀ t, x = .tmp t → f' t = f t) : VR g (evA tm0 x) (a.eval x) := by
  cases x with
  | tmp t =>
    have := hT.vals t
    rw [ht t rfl, hf] at this
    exact this
  | const v => exact LR_cst g v
  | global b => exact LR.undef _
  | func f =>
    exact LR.clo f [] [] rfl (fun j l v h => by simp at h)
theorem mem_tmpsOf {l : List Operand} {t : Tmp} (h : Operand.tmp t ∈ l) : t ∈ tmpsOf l := by
  unfold tmpsOf
  exact List.mem_filterMap.2 ⟨.tmp t, h, rfl⟩
end Go.Proofs.YtbjkpogfgijmaaaGreat
