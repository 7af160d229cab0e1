/- Operations on memory: variables made and written, fields, elements. -/
import Derived.Test.YtbjkpogfgijmaaaGreatOps2
namespace Go.Proofs.YtbjkpogfgijmaaaGreat
open Go Go.RowKit
set_option linter.unusedVariables false
set_option linter.unusedSimpArgs false

/-! ### What is read back stands for the same -/
/-- The empty row may stand where no row was. -/
def Weak (l l' : List PL) : Prop := l.length = l'.length ∧ ∀ (j : Nat) a b, l[j]? = some a → l'[j]? = some b → a = b ∨ ∃ e, a = .nil ∧ b = .sl e []
theorem Weak.refl (l : List PL) : Weak l l := ⟨rfl, fun j a b h k => .inl (by rw [h] at k; exact Option.some.inj k)⟩
theorem Weak.row {m : Imm} {l l' : List PL} {vs : List Value} (h : Weak l l') (hr : PRow m l vs) : PRow m l' vs := by
  refine ⟨h.1 ▸ hr.1, fun j b v hb hv => ?_⟩
  have hlt : j < l.length := by rw [h.1]; exact (List.getElem?_eq_some_iff.1 hb).1
  have ha := List.getElem?_eq_getElem hlt
  have h1 := hr.2 j _ v ha hv
  rcases h.2 j _ b ha hb with h2 | ⟨e, h2, h3⟩
  · rw [← h2]; exact h1
  · rw [h2] at h1; subst h3; cases h1; exact .slE e none 0
theorem Weak.append {l l' m m' : List PL} (h : Weak l l') (k : Weak m m') : Weak (l ++ m) (l' ++ m') := by
  refine ⟨by simp [h.1, k.1], fun j a b h1 h2 => ?_⟩
  rw [List.getElem?_append] at h1 h2
  rw [← h.1] at h2
  by_cases hj : j < l.length
  · rw [if_pos hj] at h1 h2; exact h.2 j a b h1 h2
  · rw [if_neg hj] at h1 h2; exact k.2 _ a b h1 h2
theorem Weak.parts {l l' m' : List PL} (n : Nat) (h : Weak (l.take n) l') (k : Weak (l.drop n) m') : Weak l (l' ++ m') := by
  have := h.append k
  rwa [List.take_append_drop] at this
theorem Weak.cons {a b : PL} {l l' : List PL} (h : a = b ∨ ∃ e, a = .nil ∧ b = .sl e []) (k : Weak l l') : Weak (a :: l) (b :: l') := by
  refine ⟨by simp [k.1], fun j => ?_⟩
  cases j with
  | zero => intro x y h1 h2; simp at h1 h2; subst h1 h2; exact h
  | succ j => intro x y h1 h2; exact k.2 j x y (by simpa using h1) (by simpa using h2)
theorem dInt_eq {k : IntKind} {a : PL} {n : Int} (h : dInt k a = some n) : a = .int k n := by
  unfold dInt at h
  split at h
  · split at h
    · rename_i hk; subst hk; simp at h; subst h; rfl
    · cases h
  · cases h
theorem dBool_eq {a : PL} {n : Bool} (h : dBool a = some n) : a = .bool n := by
  unfold dBool at h
  split at h
  · simp at h; subst h; rfl
  · cases h
theorem dSl_weak {e : ETy} {a : PL} {xs : List e.T} (h : dSl e a = some xs) : a = .sl e xs ∨ ∃ e', a = .nil ∧ PL.sl e xs = .sl e' [] := by
  unfold dSl at h
  split at h
  · simp at h; subst h; exact .inr ⟨e, rfl, rfl⟩
  · split at h
    · rename_i hk; subst hk; simp at h; subst h; exact .inl rfl
    · cases h
  · cases h
theorem dIntD_weak {l : List PL} {a : IntD} (h : dIntD l = some a) : Weak l a.lv := by
  unfold dIntD at h
  split at h
  · simp only [Option.bind_eq_some_iff, Option.some.injEq] at h
    obtain ⟨x, h1, y, h2, rfl⟩ := h
    refine Weak.cons (.inl (dBool_eq h1)) (Weak.cons ?_ (Weak.refl _))
    exact dSl_weak h2
  · cases h
theorem dRat_weak {l : List PL} {a : RatD} (h : dRat l = some a) : Weak l a.lv := by
  simp only [dRat, Option.bind_eq_some_iff, Option.some.injEq] at h
  obtain ⟨x, h1, y, h2, rfl⟩ := h
  exact Weak.parts 2 (dIntD_weak h1) (dIntD_weak h2)
theorem Weak.three {l a b c : List PL} {n k : Nat} (h1 : Weak (l.take n) a) (h2 : Weak ((l.drop n).take k) b) (h3 : Weak (l.drop (n + k)) c) : Weak l (a ++ b ++ c) := by
  rw [List.append_assoc]
  refine Weak.parts n h1 (Weak.parts k h2 ?_)
  rwa [List.drop_drop]
theorem dRoot_weak {l : List PL} {a : RootD} (h : dRoot l = some a) : Weak l a.lv := by
  simp only [dRoot, Option.bind_eq_some_iff, Option.some.injEq] at h
  obtain ⟨x, h1, y, h2, z, h3, rfl⟩ := h
  exact Weak.three (dRat_weak h1) (dRat_weak h2) (dRat_weak h3)
theorem dLine_weak {l : List PL} {a : LineD} (h : dLine l = some a) : Weak l a.lv := by
  simp only [dLine, Option.bind_eq_some_iff, Option.some.injEq] at h
  obtain ⟨x, h1, y, h2, z, h3, rfl⟩ := h
  exact Weak.three (dRat_weak h1) (dRat_weak h2) (dRat_weak h3)
theorem dCircle_weak {l : List PL} {a : CircleD} (h : dCircle l = some a) : Weak l a.lv := by
  simp only [dCircle, Option.bind_eq_some_iff, Option.some.injEq] at h
  obtain ⟨x, h1, y, h2, z, h3, rfl⟩ := h
  exact Weak.three (dRat_weak h1) (dRat_weak h2) (dRat_weak h3)
theorem dIv_weak {l : List PL} {a : IvD} (h : dIv l = some a) : Weak l a.lv := by
  simp only [dIv, Option.bind_eq_some_iff, Option.some.injEq] at h
  obtain ⟨x, h1, y, h2, rfl⟩ := h
  exact Weak.parts 4 (dRat_weak h1) (dRat_weak h2)
theorem dVec_weak {l : List PL} {a : VecD} (h : dVec l = some a) : Weak l a.lv := by
  simp only [dVec, Option.bind_eq_some_iff, Option.some.injEq] at h
  obtain ⟨x, h1, y, h2, rfl⟩ := h
  exact Weak.parts 4 (dRat_weak h1) (dRat_weak h2)
theorem dPoint_weak {l : List PL} {a : PointD} (h : dPoint l = some a) : Weak l a.lv := by
  simp only [dPoint, Option.bind_eq_some_iff, Option.some.injEq] at h
  obtain ⟨x, h1, y, h2, z, h3, u, h4, v, h5, rfl⟩ := h
  show Weak l (x.lv ++ y.lv ++ z.lv ++ u.lv ++ v.lv)
  simp only [List.append_assoc]
  refine Weak.parts 4 (dRat_weak h1) (Weak.parts 4 (dRat_weak h2) (Weak.parts 4 ?_ (Weak.parts 4 ?_ ?_)))
  · rw [List.drop_drop]; exact dRat_weak h3
  · rw [List.drop_drop, List.drop_drop]; exact dRat_weak h4
  · rw [List.drop_drop, List.drop_drop, List.drop_drop]; exact dRat_weak h5
theorem dQuad_weak {l : List PL} {a : QuadD} (h : dQuad l = some a) : Weak l a.lv := by
  simp only [dQuad, Option.bind_eq_some_iff, Option.some.injEq] at h
  obtain ⟨x, h1, y, h2, z, h3, u, h4, v, h5, s, h6, rfl⟩ := h
  show Weak l (x.lv ++ y.lv ++ z.lv ++ u.lv ++ v.lv ++ s.lv)
  simp only [List.append_assoc]
  refine Weak.parts 4 (dRat_weak h1) (Weak.parts 4 (dRat_weak h2) (Weak.parts 4 ?_ (Weak.parts 4 ?_ (Weak.parts 4 ?_ ?_))))
  · rw [List.drop_drop]; exact dRat_weak h3
  · rw [List.drop_drop, List.drop_drop]; exact dRat_weak h4
  · rw [List.drop_drop, List.drop_drop, List.drop_drop]; exact dRat_weak h5
  · rw [List.drop_drop, List.drop_drop, List.drop_drop, List.drop_drop]; exact dRat_weak h6
theorem dCurve_weak {l : List PL} {a : CurveD} (h : dCurve l = some a) : Weak l a.lv := by
  unfold dCurve at h
  split at h
  · rename_i a0 l0
    simp only [Option.bind_eq_some_iff] at h
    obtain ⟨arc, h1, line, h2, circ, h3, h⟩ := h
    split at h
    · rename_i c m hm
      simp only [Option.bind_eq_some_iff, Option.some.injEq] at h
      obtain ⟨cw, h4, p, h5, q, h6, rfl⟩ := h
      show Weak _ (.bool arc :: (line.lv ++ circ.lv ++ .bool cw :: (p.lv ++ q.lv)))
      refine Weak.cons (.inl (dBool_eq h1)) (Weak.three (n := 12) (k := 12) (dLine_weak h2) (dCircle_weak h3) ?_)
      rw [hm]
      exact Weak.cons (.inl (dBool_eq h4)) (Weak.parts 20 (dPoint_weak h5) (dPoint_weak h6))
    · cases h
  · cases h
theorem dPos_weak {l : List PL} {a : PosD} (h : dPos l = some a) : Weak l a.lv := by
  unfold dPos at h
  split at h
  · simp only [Option.bind_eq_some_iff, Option.some.injEq] at h
    obtain ⟨x, h1, y, h2, z, h3, rfl⟩ := h
    exact Weak.cons (.inl (dInt_eq h1)) (Weak.cons (.inl (dInt_eq h2)) (Weak.cons (.inl (dInt_eq h3)) (Weak.refl _)))
  · cases h
theorem dPart_weak {l : List PL} {a : PartD} (h : dPart l = some a) : Weak l a.lv := by
  unfold dPart at h
  split at h
  · simp only [Option.bind_eq_some_iff, Option.some.injEq] at h
    obtain ⟨x, h1, y, h2, z, h3, rfl⟩ := h
    exact Weak.cons (.inl (dInt_eq h1)) (Weak.cons (.inl (dInt_eq h2)) (Weak.cons (.inl (dInt_eq h3)) (Weak.refl _)))
  · cases h
theorem dMotion_weak {l : List PL} {a : MotionD} (h : dMotion l = some a) : Weak l a.lv := by
  unfold dMotion at h
  simp only [Option.bind_eq_some_iff] at h
  obtain ⟨p, h1, q, h2, h⟩ := h
  split at h
  · rename_i a b c hm
    simp only [Option.bind_eq_some_iff, Option.some.injEq] at h
    obtain ⟨x, h3, y, h4, z, h5, rfl⟩ := h
    refine Weak.three (n := 3) (k := 3) (dPos_weak h1) (dPos_weak h2) ?_
    rw [hm]
    exact Weak.cons (.inl (dInt_eq h3)) (Weak.cons (.inl (dInt_eq h4)) (Weak.cons (.inl (dInt_eq h5)) (Weak.refl _)))
  · cases h
theorem dSurd_weak {l : List PL} {a : SurdD} (h : dSurd l = some a) : Weak l a.lv := by
  unfold dSurd at h
  split at h
  · simp only [Option.bind_eq_some_iff, Option.some.injEq] at h
    obtain ⟨x, h1, y, h2, z, h3, u, h4, v, h5, s, h6, rfl⟩ := h
    exact Weak.cons (.inl (dInt_eq h1)) (Weak.cons (.inl (dInt_eq h2)) (Weak.cons (.inl (dInt_eq h3)) (Weak.cons (.inl (dInt_eq h4)) (Weak.cons (.inl (dInt_eq h5)) (Weak.cons (.inl (dInt_eq h6)) (Weak.refl _))))))
  · cases h
theorem dec_weak {e : ETy} {l : List PL} {y : e.T} (h : e.dec l = some y) : Weak l (e.enc y) := by
  cases e with
  | i k =>
    unfold ETy.dec at h
    dsimp only at h
    split at h
    · exact Weak.cons (.inl (dInt_eq h)) (Weak.refl _)
    · cases h
  | rat => exact dRat_weak h
  | root => exact dRoot_weak h
  | point => exact dPoint_weak h
  | curve => exact dCurve_weak h
  | part => exact dPart_weak h
  | motion => exact dMotion_weak h

/-! ### Segments written -/
def seg {T : Type} (l : List T) (o : Nat) (new : List T) : List T := l.take o ++ new ++ l.drop (o + new.length)
theorem seg_length {T : Type} {l new : List T} {o : Nat} (h : o + new.length ≤ l.length) : (seg l o new).length = l.length := by
  simp [seg]; omega
theorem seg_get {T : Type} {l new : List T} {o : Nat} (h : o + new.length ≤ l.length) (j : Nat) : (seg l o new)[j]? = if j < o then l[j]? else if j < o + new.length then new[j - o]? else l[j]? := by
  unfold seg
  rw [List.getElem?_append, List.getElem?_append]
  have hl : (l.take o).length = o := by simp; omega
  simp only [List.length_append, hl]
  by_cases h1 : j < o
  · rw [if_pos h1, if_pos (by omega), if_pos h1, List.getElem?_take, if_pos h1]
  · rw [if_neg h1]
    by_cases h2 : j < o + new.length
    · rw [if_pos h2, if_pos h2, if_neg h1]
    · rw [if_neg h2, if_neg h2, List.getElem?_drop, show o + new.length + (j - (o + new.length)) = j from by omega, if_neg h1]
theorem Row.seg {g : Gh} {ls new : List Leaf} {vs us : List Value} (h : Row g ls vs) (k : Row g new us) (o : Nat) : Row g (seg ls o new) (Go.Proofs.YtbjkpogfgijmaaaGreat.seg vs o us) := by
  unfold Go.Proofs.YtbjkpogfgijmaaaGreat.seg
  rw [← k.1]
  exact ((h.take o).append k).append (h.drop _)
theorem flat_set {e : ETy} {xs : List e.T} {i : Nat} {y : e.T} (hi : i < xs.length) : flat e (xs.set i y) = seg (flat e xs) (i * e.sz) (e.enc y) := by
  apply List.ext_getElem?
  intro j
  have hb := seg_bound (s := e.sz) hi
  rw [seg_get (by rw [ETy.enc_len, flat_length]; exact hb)]
  by_cases hj : j < xs.length * e.sz
  · have hpos := e.sz_pos
    have h1 : j / e.sz < xs.length := Nat.div_lt_of_lt_mul (by rw [Nat.mul_comm]; exact hj)
    have h2 := Nat.mod_lt j hpos
    have h3 : j = j / e.sz * e.sz + j % e.sz := by rw [Nat.mul_comm]; exact (Nat.div_add_mod j e.sz).symm
    have e1 := flat_get e (xs.set i y) (j / e.sz) (j % e.sz) (by simpa using h1) h2
    have e2 := flat_get e xs (j / e.sz) (j % e.sz) h1 h2
    rw [← h3] at e1 e2
    rw [e1, ETy.enc_len]
    by_cases hq : j / e.sz = i
    · rw [hq] at h3
      rw [if_neg (by omega), if_pos (by omega), hq]
      have : (xs.set i y).getD i e.dflt = y := by simp [List.getD, hi]
      rw [this]; congr 1; omega
    · have h4 : (xs.set i y).getD (j / e.sz) e.dflt = xs.getD (j / e.sz) e.dflt := by
        simp [List.getD, List.getElem?_set_ne (Ne.symm hq)]
      rw [h4, ← e2]
      split
      · rfl
      · rename_i h5
        rw [if_neg]
        intro h6
        apply hq
        have : i ≤ j / e.sz := (Nat.le_div_iff_mul_le hpos).2 (by omega)
        have : j / e.sz < i + 1 := Nat.div_lt_of_lt_mul (by rw [Nat.mul_comm, Nat.add_mul]; omega)
        omega
  · have h1 : (flat e (xs.set i y))[j]? = none := List.getElem?_eq_none (by rw [flat_length]; simp; omega)
    have h2 : (flat e xs)[j]? = none := List.getElem?_eq_none (by rw [flat_length]; omega)
    rw [h1, h2, ETy.enc_len, if_neg (by omega), if_neg (by omega)]

section
variable {P : Program} {nt : Nat} {nb : Bool} {tm : List (Nat × AV)} {bk : BId → Option Blk} {ep : Nat} {o : Oper} {R : Type} {C : Ctx} {K : Ev → Option R} {r : R}

theorem run_storeAt {t : TypeId} {i : TI} (hti : tiB P t i = true) {b off : Nat} {v : Value} {w : World} {cs : Array Value} {ty : TypeId} (hs : v.cells.size = i.size) (hc : w.heap[b]? = some (.cells cs ty (0, 0)))
    (hl : off + i.size ≤ cs.size) (h1 : Cells1 v.cells.toList) :
    (Instr.storeAt t (.pointer (some ⟨b, off, none⟩)) v).run P w = .ok () (w.setRow b (seg cs.toList off v.cells.toList).toArray) := by
  obtain ⟨f, z, h2, h3, _⟩ := tiB_info hti
  have hst := run_storeCells_at P b off ty v.cells.toList 0 cs w hc (by simp [hs]; exact hl) h1
  simp only [Nat.add_zero] at hst
  have hsz : v.cells.size = f.size := by rw [hs, h3]
  simp [Instr.storeAt, Instr.sureAddr, storeVar, run_sizeOf h2, hsz, hst, seg]

theorem evStore_ok (hty : TyOk P C.ty) {t : TypeId} {x v : Operand} (ho : o.op = .store t x v) (h : evStore C bk t (evA tm x) (evA tm v) K = some r) :
    ∃ e, K e = some r ∧ EvOk P nt nb (lk tm) bk ep o e := by
  have hmx : x ∈ o.op.operands.toList := by simp [ho, Op.operands]
  have hmv : v ∈ o.op.operands.toList := by simp [ho, Op.operands]
  unfold evStore at h
  split at h
  · rename_i i c hi hcs
    have hti := hty t i hi
    obtain ⟨hlen, h⟩ := cond_some h
    have hlen := Nat.eq_of_beq_eq_true hlen
    split at h
    · rename_i b off hx
      split at h
      · rename_i ls hb
        obtain ⟨hle, h⟩ := cond_some h
        have hle := ble_le hle
        refine ⟨_, h, EvOk.of fun F g tm' bk' a w hnb ht hbk hT hW hd hf => ?_⟩
        have h1 := mem_op hT ht hmx
        rw [hx] at h1
        obtain ⟨p, hp, hpv⟩ := h1.ref
        have hb' : bk' b = some (.var ls) := (hbk b (by simp)).trans hb
        obtain ⟨p', hp', hn, hbase, hesz, hplen, cs, hcs', hrow, hcells⟩ := hW.blk b _ hb'
        rw [hp] at hp'; obtain rfl := Option.some.inj hp'
        obtain ⟨hr2, hc2⟩ := cells_row hcs (mem_op hT ht hmv)
        have hvs : (a.eval v).cells.size = i.size := by have := hr2.1; simp at this; omega
        have hcsz : cs.size = ls.length := by have := hrow.1; simp at this; omega
        have hrun := run_storeAt hti (b := p.blk) (off := off) hvs hcs' (by omega) hc2
        have hseg : off + (a.eval v).cells.toList.length ≤ cs.toList.length := by simp; omega
        refine ⟨undef, w.setRow p.blk (seg cs.toList off (a.eval v).cells.toList).toArray, g, .inr ⟨?_, rfl⟩, Gh.le_refl g, fun b p h => .inl h, LR.undef _, hW.write hb' hp hn hcs' (by have := seg_length hseg; simp only [List.size_toArray, this]; simp) (fun j hj => ?_) ⟨hn, hbase, hesz, ?_, _, setRow_heap w p.blk cs _ p.ty (0, 0) hcs', ?_, ?_⟩⟩
        · rw [hbase, Nat.zero_add] at hpv
          simp [execOp, ho, hpv, hrun]
        · rcases hj with hj | hj
          · rw [hbase] at hj; omega
          · rw [hbase, hesz, hplen] at hj
            rw [Array.getElem?_eq_none (by have := seg_length hseg; simp at this ⊢; omega), Array.getElem?_eq_none (by omega)]
        · have : off + c.length ≤ ls.length := by omega
          rw [hplen]; exact (seg_length this).symm
        · exact hrow.seg hr2 off
        · intro u hu
          simp only [seg] at hu
          simp only [List.mem_append] at hu
          rcases hu with (hu | hu) | hu
          · exact hcells u (List.mem_of_mem_take hu)
          · exact hc2 u hu
          · exact hcells u (List.mem_of_mem_drop hu)
      · cases h
    · rename_i b ix off hx
      split at h
      · rename_i e et xs hb
        obtain ⟨hcond, h5⟩ := cond_some h
        clear h
        simp only [Bool.and_eq_true] at hcond
        have hoff := Nat.eq_of_beq_eq_true hcond.1
        have hsz := Nat.eq_of_beq_eq_true hcond.2
        subst hoff
        obtain ⟨y, hy, h⟩ := Option.bind_eq_some_iff.1 h5
        obtain ⟨l, hl, hy⟩ := Option.bind_eq_some_iff.1 hy
        refine ⟨_, h, EvOk.of fun F g tm' bk' a w hnb ht hbk hT hW hd hf => ?_⟩
        have h1 := mem_op hT ht hmx
        rw [hx] at h1
        obtain ⟨p, hp, hix, hn, hpv⟩ := h1.eref
        have hb' : bk' b = some (.arr e et xs) := (hbk b (by simp)).trans hb
        obtain ⟨p', hp', hesz, hplen, hpty, hor⟩ := hW.blk b _ hb'
        rw [hp] at hp'; obtain rfl := Option.some.inj hp'
        rcases hor with ⟨hnil, _⟩ | ⟨_, cs, vs, hcs', hrow, hat, hbd, hcap⟩
        · rw [hn] at hnil; cases hnil
        obtain ⟨hr2, hc2⟩ := cells_row hcs (mem_op hT ht hmv)
        rw [pls_some hl] at hr2
        have hr3 : PRow g.imm (e.enc y) (a.eval v).cells.toList := (dec_weak hy).row (row_lvs.1 hr2)
        have hvs : (a.eval v).cells.size = i.size := by have := hr3.1; rw [ETy.enc_len] at this; simp at this; omega
        have hixl : ix < xs.length := hplen ▸ hix
        have hb2 := seg_bound (s := e.sz) hixl
        have hrun := run_storeAt hti (b := p.blk) (off := p.base + ix * e.sz) hvs hcs' (by omega) hc2
        have hvl : (a.eval v).cells.toList.length = e.sz := by simp; omega
        have hseg : p.base + ix * e.sz + (a.eval v).cells.toList.length ≤ cs.toList.length := by rw [hvl]; simp; omega
        have hvsl : vs.length = xs.length * e.sz := by rw [← hrow.1, flat_length]
        have hseg2 : ix * e.sz + (a.eval v).cells.toList.length ≤ vs.length := by rw [hvl]; omega
        have hget : ∀ j, ((seg cs.toList (p.base + ix * e.sz) (a.eval v).cells.toList).toArray)[j]? = (seg cs.toList (p.base + ix * e.sz) (a.eval v).cells.toList)[j]? := fun j => List.getElem?_toArray
        have hsz2 : (seg cs.toList (p.base + ix * e.sz) (a.eval v).cells.toList).toArray.size = cs.size := by simpa using seg_length hseg
        refine ⟨undef, w.setRow p.blk (seg cs.toList (p.base + ix * e.sz) (a.eval v).cells.toList).toArray, g, .inr ⟨?_, rfl⟩, Gh.le_refl g, fun b p h => .inl h, LR.undef _, hW.write hb' hp hn hcs' hsz2 (fun j hj => ?_) ⟨hesz, by simpa using hplen, hpty, .inr ⟨hn, _, seg vs (ix * e.sz) (a.eval v).cells.toList, setRow_heap w p.blk cs _ et (0, 0) hcs', ?_, ?_, ?_, ?_⟩⟩⟩
        · rw [hesz, Nat.add_zero] at hpv
          simp [execOp, ho, hpv, hrun]
        · rw [hget, seg_get hseg]
          rw [hplen, hesz] at hj
          rw [hvl]
          rcases hj with hj | hj
          · rw [if_pos (by omega)]; simp
          · rw [if_neg (by omega), if_neg (by omega)]; simp
        · rw [flat_set hixl]
          have := (row_lvs.2 hrow : Row g (lvs (flat e xs)) vs).seg (row_lvs.2 hr3) (ix * e.sz)
          refine (row_lvs (g := g)).1 ?_
          simpa [lvs, seg, List.map_take, List.map_drop] using this
        · intro j u hu
          rw [seg_get hseg2, hvl] at hu
          rw [hget, seg_get hseg, hvl]
          split at hu
          · rw [if_pos (by omega)]; have := hat j u hu; simpa using this
          · split at hu
            · rw [if_neg (by omega), if_pos (by omega)]; rw [← hu]; congr 1; omega
            · rw [if_neg (by omega), if_neg (by omega)]; have := hat j u hu; simpa using this
        · rw [hsz2]; simpa using hbd
        · intro c' hc'; rw [hsz2]; exact hcap c' hc'
      · cases h
    · cases h
  · cases h
end
end Go.Proofs.YtbjkpogfgijmaaaGreat
