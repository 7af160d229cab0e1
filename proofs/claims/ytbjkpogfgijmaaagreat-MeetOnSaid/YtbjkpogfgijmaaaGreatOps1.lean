/- Operations on numbers and bools, moves, parts of results. -/
import Derived.Test.YtbjkpogfgijmaaaGreatOps0
namespace Go.Proofs.YtbjkpogfgijmaaaGreat
open Go Go.RowKit
set_option linter.unusedVariables false
set_option linter.unusedSimpArgs false

theorem vr_p {g : Gh} {x : PL} {v : Value} (h : VR g (.lf (.p x)) v) : PR g.imm x v := by
  have h1 : LR g (.p x) v := h
  cases h1 with
  | p _ _ h => exact h
theorem vr_int {g : Gh} {k : IntKind} {n : Int} {v : Value} (h : VR g (.lf (.p (.int k n))) v) : v = .int k n := by
  cases vr_p h; rfl
theorem vr_bool {g : Gh} {b : Bool} {v : Value} (h : VR g (.lf (.p (.bool b))) v) : v = .bool b := by
  cases vr_p h; rfl
theorem vr_mk {g : Gh} {x : PL} {v : Value} (h : PR g.imm x v) : VR g (.lf (.p x)) v := LR.p _ _ h

theorem cond_none {R : Type} {c : Bool} {x : Option R} {r : R} (h : (bif c then none else x) = some r) : c = false ∧ x = some r := by
  cases c
  · exact ⟨rfl, h⟩
  · cases h
theorem cond_some {R : Type} {c : Bool} {x : Option R} {r : R} (h : (bif c then x else none) = some r) : c = true ∧ x = some r := by
  cases c
  · cases h
  · exact ⟨rfl, h⟩
theorem ite_some {R : Type} {p : Prop} [Decidable p] {x : Option R} {r : R} (h : (if p then x else none) = some r) : p ∧ x = some r := by
  split at h
  · exact ⟨‹_›, h⟩
  · cases h

section
variable {P : Program} {nt : Nat} {nb : Bool} {tm : List (Nat × AV)} {bk : BId → Option Blk} {ep : Nat} {o : Oper}

/-- An operation that only answers, by its operands alone. -/
theorem EvOk.ans {v : AV} (h : ∀ (g : Gh) (f' : Nat → AV) (a : Act) (w : World), (∀ x, x ∈ o.op.operands.toList → VR g (evA tm x) (a.eval x)) → ∃ u, (execOp a.eval o).run P w = .ok (.value u) w ∧ VR g v u) :
    EvOk P nt nb (lk tm) bk ep o (Go.Proofs.YtbjkpogfgijmaaaGreat.ans v) := by
  refine EvOk.of fun F g tm' bk' a w hnb ht hb hT hW hd hf => ?_
  obtain ⟨u, h1, h2⟩ := h g tm' a w (fun x hx => evA_ok (nt := nt) (tm := tm) (tm' := tm) hT x tm rfl (fun t e => ht t (mem_tmpsOf (e ▸ hx))))
  exact ⟨u, w, g, .inl h1, Gh.le_refl g, fun b p h => .inl h, h2, hW⟩

theorem ok_move {x : Operand} (ho : o.op = .move x ∨ o.op = .assign x) : EvOk P nt nb (lk tm) bk ep o (ans (evA tm x)) := by
  refine EvOk.ans fun g f a w hx => ⟨a.eval x, ?_, hx x ?_⟩
  · rcases ho with ho | ho <;> simp [execOp, ho]
  · rcases ho with ho | ho <;> simp [ho, Op.operands]

theorem ok_pick {c a b : Operand} (ho : o.op = .pick c a b) {t : Bool} (hc : evA tm c = .lf (.p (.bool t))) : EvOk P nt nb (lk tm) bk ep o (ans (bif t then evA tm a else evA tm b)) := by
  refine EvOk.ans fun g f ac w hx => ?_
  have h1 := hx c (by simp [ho, Op.operands])
  rw [hc] at h1
  have h2 := vr_bool h1
  cases t with
  | true => exact ⟨ac.eval a, by simp [execOp, ho, h2, asBool], hx a (by simp [ho, Op.operands])⟩
  | false => exact ⟨ac.eval b, by simp [execOp, ho, h2, asBool], hx b (by simp [ho, Op.operands])⟩

theorem run_eqGuard_int {op : BinOp} {t : TypeId} {x y : Operand} {k k' : IntKind} {a b : Int} (w : World) : (eqGuard op t x y (.int k a) (.int k' b)).run P w = .ok () w := by
  unfold eqGuard
  cases op <;> simp
theorem run_eqGuard_bool {op : BinOp} {t : TypeId} {x y : Operand} {a b : Bool} (w : World) : (eqGuard op t x y (.bool a) (.bool b)).run P w = .ok () w := by
  unfold eqGuard
  cases op <;> simp

theorem intBin_ok {R : Type} {op : BinOp} {k k' : IntKind} {a b : Int} {K : PL → Option R} {r : R} (h : intBin op k a k' b K = some r) :
    ∃ l, K l = some r ∧ ∀ (t : TypeId) (m : Imm) (w : World), ∃ u, (binOp op t (.int k a) (.int k' b)).run P w = .ok u w ∧ PR m l u := by
  unfold intBin at h
  cases op <;> dsimp only at h
  case shr =>
    obtain ⟨h1, h2⟩ := cond_none h
    have h3 : ¬ b < 0 := by simpa using h1
    exact ⟨_, h2, fun t m w => ⟨_, by simp [binOp, Op.shift, h3], .int _ _⟩⟩
  case shl =>
    obtain ⟨h1, h2⟩ := cond_none h
    have h3 : ¬ b < 0 := by simpa using h1
    exact ⟨_, h2, fun t m w => ⟨_, by simp [binOp, Op.shift, h3], .int _ _⟩⟩
  case quo =>
    obtain ⟨rfl, h1⟩ := ite_some h
    obtain ⟨h1, h2⟩ := cond_none h1
    have h3 : ¬ b = 0 := by simpa using h1
    exact ⟨_, h2, fun t m w => ⟨_, by simp [binOp, Op.intDiv, h3], .int _ _⟩⟩
  case rem =>
    obtain ⟨rfl, h1⟩ := ite_some h
    obtain ⟨h1, h2⟩ := cond_none h1
    have h3 : ¬ b = 0 := by simpa using h1
    exact ⟨_, h2, fun t m w => ⟨_, by simp [binOp, Op.intDiv, h3], .int _ _⟩⟩
  case add => obtain ⟨rfl, h1⟩ := ite_some h; exact ⟨_, h1, fun t m w => ⟨_, by simp [binOp, Op.intArith], .int _ _⟩⟩
  case sub => obtain ⟨rfl, h1⟩ := ite_some h; exact ⟨_, h1, fun t m w => ⟨_, by simp [binOp, Op.intArith], .int _ _⟩⟩
  case mul => obtain ⟨rfl, h1⟩ := ite_some h; exact ⟨_, h1, fun t m w => ⟨_, by simp [binOp, Op.intArith], .int _ _⟩⟩
  case eql => obtain ⟨rfl, h1⟩ := ite_some h; exact ⟨_, h1, fun t m w => ⟨_, by simp [binOp, Op.intCmp], .bool _⟩⟩
  case neq => obtain ⟨rfl, h1⟩ := ite_some h; exact ⟨_, h1, fun t m w => ⟨_, by simp [binOp, Op.intCmp], .bool _⟩⟩
  case lss => obtain ⟨rfl, h1⟩ := ite_some h; exact ⟨_, h1, fun t m w => ⟨_, by simp [binOp, Op.intCmp], .bool _⟩⟩
  case leq => obtain ⟨rfl, h1⟩ := ite_some h; exact ⟨_, h1, fun t m w => ⟨_, by simp [binOp, Op.intCmp], .bool _⟩⟩
  case gtr => obtain ⟨rfl, h1⟩ := ite_some h; exact ⟨_, h1, fun t m w => ⟨_, by simp [binOp, Op.intCmp], .bool _⟩⟩
  case geq => obtain ⟨rfl, h1⟩ := ite_some h; exact ⟨_, h1, fun t m w => ⟨_, by simp [binOp, Op.intCmp], .bool _⟩⟩
  all_goals cases h

theorem run_equalIn_bool (d : Nat) {t : TypeId} {a b : Bool} (h : P.underlying t = some .bool) (w : World) : (Op.equalIn (d + 1) t (.bool a) (.bool b)).run P w = .ok (a == b) w := by
  simp only [Op.equalIn, Sem.run_bind, run_underlying h, Result.andThen_ok]
  rfl
theorem run_equal_bool {t : TypeId} {a b : Bool} (h : P.underlying t = some .bool) (w : World) : (Op.equal t (.bool a) (.bool b)).run P w = .ok (a == b) w :=
  run_equalIn_bool 9999 h w

theorem evBin_ok {R : Type} {ty : TypeId → Option TI} (hty : TyOk P ty) {op : BinOp} {t : TypeId} {x y : Operand} {t' : TypeId} (ho : o.op = .binOp op t x y t') {K : PL → Option R} {r : R} (h : evBin ty t op (evA tm x) (evA tm y) K = some r) :
    ∃ l, K l = some r ∧ EvOk P nt nb (lk tm) bk ep o (ansP l) := by
  unfold evBin at h
  split at h
  · rename_i k a k' b hx hy
    obtain ⟨l, h1, h2⟩ := intBin_ok (P := P) h
    refine ⟨l, h1, EvOk.ans fun g f ac w hh => ?_⟩
    have e1 := vr_int (hx ▸ hh x (by simp [ho, Op.operands]))
    have e2 := vr_int (hy ▸ hh y (by simp [ho, Op.operands]))
    obtain ⟨u, h3, h4⟩ := h2 t g.imm w
    exact ⟨u, by simp [execOp, ho, e1, e2, run_eqGuard_int, h3], vr_mk h4⟩
  · rename_i a b hx hy
    obtain ⟨hb, h⟩ := cond_some h
    have hu : P.underlying t = some .bool := by
      unfold isBoolTy at hb
      split at hb
      · rename_i i hi
        have := tiB_td (hty t _ hi)
        unfold tdB at this
        dsimp only at this
        split at this
        · assumption
        · cases this
      · cases hb
    split at h
    · refine ⟨_, h, EvOk.ans fun g f ac w hh => ?_⟩
      have e1 := vr_bool (hx ▸ hh x (by simp [ho, Op.operands]))
      have e2 := vr_bool (hy ▸ hh y (by simp [ho, Op.operands]))
      exact ⟨.bool (a == b), by simp [execOp, ho, e1, e2, run_eqGuard_bool, binOp, run_equal_bool hu], vr_mk (.bool _)⟩
    · refine ⟨_, h, EvOk.ans fun g f ac w hh => ?_⟩
      have e1 := vr_bool (hx ▸ hh x (by simp [ho, Op.operands]))
      have e2 := vr_bool (hy ▸ hh y (by simp [ho, Op.operands]))
      exact ⟨.bool (!(a == b)), by simp [execOp, ho, e1, e2, run_eqGuard_bool, binOp, run_equal_bool hu], vr_mk (.bool _)⟩
    · cases h
  · cases h

theorem evUn_ok {R : Type} {op : UnOp} {t : TypeId} {x : Operand} (ho : o.op = .unOp op t x) {K : PL → Option R} {r : R} (h : evUn op (evA tm x) K = some r) :
    ∃ l, K l = some r ∧ EvOk P nt nb (lk tm) bk ep o (ansP l) := by
  unfold evUn at h
  split at h
  · rename_i b hx
    refine ⟨_, h, EvOk.ans fun g f ac w hh => ?_⟩
    have e1 := vr_bool (hx ▸ hh x (by simp [ho, Op.operands]))
    exact ⟨.bool (!b), by simp [execOp, ho, e1, Op.unary], vr_mk (.bool _)⟩
  · rename_i k n hx
    refine ⟨_, h, EvOk.ans fun g f ac w hh => ?_⟩
    have e1 := vr_int (hx ▸ hh x (by simp [ho, Op.operands]))
    exact ⟨.int k (k.wrap (0 - n)), by simp [execOp, ho, e1, Op.unary, Op.intArith], vr_mk (.int _ _)⟩
  · cases h

theorem ok_convert {src t : TypeId} {x : Operand} (ho : o.op = .convert src t x) {k k' : IntKind} {n : Int} (hk : P.underlying t = some (.int k)) (hs : (P.underlying src).isSome = true) (hx : evA tm x = .lf (.p (.int k' n))) :
    EvOk P nt nb (lk tm) bk ep o (ansP (.int k (k.wrap n))) := by
  refine EvOk.ans fun g f ac w hh => ?_
  have e1 := vr_int (hx ▸ hh x (by simp [ho, Op.operands]))
  obtain ⟨d, hd⟩ := Option.isSome_iff_exists.mp hs
  exact ⟨.int k (k.wrap n), by simp [execOp, ho, e1, convert, run_underlying hd, run_underlying hk, Conv.intToInt], vr_mk (.int _ _)⟩

theorem VRs.get {g : Gh} : ∀ {as : List AV} {vs : List Value} {j : Nat} {a : AV}, VRs g as vs → as[j]? = some a → ∃ v, vs[j]? = some v ∧ VR1 g a v
  | [], _, _, _, _, h => by simp at h
  | a :: as, [], _, _, h, _ => h.elim
  | a :: as, v :: vs, 0, _, h, h1 => by simp at h1; subst h1; exact ⟨v, rfl, h.1⟩
  | a :: as, v :: vs, j + 1, _, h, h1 => by
    obtain ⟨u, h2, h3⟩ := VRs.get (j := j) h.2 (by simpa using h1)
    exact ⟨u, by simpa using h2, h3⟩
theorem ok_extract {x : Operand} {j : Nat} (ho : o.op = .extract x j) {vs : List AV} {v : AV} (hx : evA tm x = .tup vs) (hv : vs[j]? = some v) : EvOk P nt nb (lk tm) bk ep o (ans v) := by
  refine EvOk.ans fun g f ac w hh => ?_
  have h1 := hh x (by simp [ho, Op.operands])
  rw [hx] at h1
  obtain ⟨xs, h2, h3⟩ := h1
  obtain ⟨u, h4, h5⟩ := h3.get hv
  have h6 : xs[j]? = some u := by simpa using h4
  exact ⟨u, by simp [execOp, ho, h2, Instr.extract, h6], VR.of1 h5⟩
end
end Go.Proofs.YtbjkpogfgijmaaaGreat
