/- Operations on memory: new variables, fields, elements, parts of rows, lengths. -/
import Derived.Test.YtbjkpogfgijmaaaGreatOps3
namespace Go.Proofs.YtbjkpogfgijmaaaGreat
open Go Go.RowKit
set_option linter.unusedVariables false
set_option linter.unusedSimpArgs false

section
variable {P : Program} {w : World} {t : TypeId} {i : TI}
theorem td_slice {e : ETy} {et : TypeId} {sz by' : Nat} {ag : Bool} {z : List PL} (h : tiB P t ⟨.slice e et, sz, ag, by', z⟩ = true) :
    P.underlying t = some (.slice et) ∧ ∃ f z, P.info? et = some f ∧ f.size = e.sz ∧ f.zero = some z ∧ z.cells.size = e.sz := by
  have h1 := tiB_td h
  unfold tdB at h1
  simp only [Bool.and_eq_true] at h1
  obtain ⟨h1, h2⟩ := h1
  split at h1
  · rename_i et' hu
    have := Nat.eq_of_beq_eq_true h1; subst this
    unfold elemB at h2
    split at h2
    · rename_i f hf
      simp only [Bool.and_eq_true] at h2
      obtain ⟨h2, h3⟩ := h2
      split at h3
      · rename_i z hz
        exact ⟨hu, f, z, hf, Nat.eq_of_beq_eq_true h2, hz, Nat.eq_of_beq_eq_true h3⟩
      · cases h3
    · cases h2
  · cases h1
theorem fields_get : ∀ {fs : List Field} {l : List (Nat × Nat × Bool)} {j o s : Nat} {a : Bool}, fieldsB P fs l = true → l[j]? = some (o, s, a) →
    ∃ f i, fs[j]? = some f ∧ f.offset = o ∧ P.info? f.type = some i ∧ i.size = s ∧ aggT P f.type = some a
  | [], [], _, _, _, _, _, h => by simp at h
  | [], _ :: _, _, _, _, _, h, _ => by cases h
  | _ :: _, [], _, _, _, _, _, h => by simp at h
  | f :: fs, (o', s', a') :: l, j, o, s, a, h, hj => by
    simp only [fieldsB, Bool.and_eq_true, beq_iff_eq] at h
    obtain ⟨⟨⟨h1, h2⟩, h3⟩, h4⟩ := h
    cases j with
    | zero =>
      simp only [List.getElem?_cons_zero, Option.some.injEq, Prod.mk.injEq] at hj
      obtain ⟨rfl, rfl, rfl⟩ := hj
      obtain ⟨i, h5, h6⟩ := sizeB_eq h2
      exact ⟨f, i, rfl, Nat.eq_of_beq_eq_true h1, h5, h6, h3⟩
    | succ j =>
      obtain ⟨g, i, h5⟩ := fields_get (j := j) h4 (by simpa using hj)
      exact ⟨g, i, by simpa using h5.1, h5.2⟩
theorem td_struct {fs : List (Nat × Nat × Bool)} {sz by' : Nat} {ag : Bool} {z : List PL} (h : tiB P t ⟨.struct fs, sz, ag, by', z⟩ = true) :
    ∃ Fs, P.underlying t = some (.struct Fs) ∧ fieldsB P Fs.toList fs = true := by
  have h1 := tiB_td h
  unfold tdB at h1
  dsimp only at h1
  split at h1
  · exact ⟨_, ‹_›, h1⟩
  · cases h1
theorem td_array {n esz sz by' : Nat} {eagg ag : Bool} {z : List PL} (h : tiB P t ⟨.array n esz eagg, sz, ag, by', z⟩ = true) :
    ∃ et i, P.underlying t = some (.array n et) ∧ P.info? et = some i ∧ i.size = esz ∧ aggT P et = some eagg := by
  have h1 := tiB_td h
  unfold tdB at h1
  dsimp only at h1
  split at h1
  · rename_i n' et hu
    simp only [Bool.and_eq_true, beq_iff_eq] at h1
    obtain ⟨⟨h1, h2⟩, h3⟩ := h1
    obtain ⟨i, h4, h5⟩ := sizeB_eq h2
    have := Nat.eq_of_beq_eq_true h1; subst this
    exact ⟨et, i, hu, h4, h5, h3⟩
  · cases h1
theorem run_part {f : TypeInfo} {agg : Bool} {g : Gh} {cs : Array Value} {off : Nat} {ls : List Leaf} {v : AV} (hf : P.info? t = some f) (ha : aggT P t = some agg) (hb : off + f.size ≤ ls.length)
    (hr : Row g ls cs.toList) (h1 : Cells1 cs.toList) (hv : ofCells agg (cut ls off f.size) = some v) : ∃ u, (part t cs off).run P w = .ok u w ∧ VR g v u := by
  have hr2 := (hr.drop off).take f.size
  have h2 := h1.cut off f.size
  have hlen : cs.size = ls.length := by have := hr.1; simp at this; omega
  rcases ofCells_ok hv hr2 h2 with ⟨hg, h3⟩ | ⟨hg, u, hu, h3⟩
  · subst hg
    refine ⟨.agg (cs.extract off (off + f.size)), by simp [part, run_isAgg ha, run_sizeOf hf], ?_⟩
    have e1 : cs.extract off (off + f.size) = (List.take f.size (List.drop off cs.toList)).toArray := by
      apply Array.ext'
      simp [List.extract_eq_take_drop]
    rw [e1]; exact h3
  · subst hg
    have h4 : cs[off]? = some u := by
      have := congrArg (·[0]?) hu
      simp only [getElem?_cut] at this
      split at this
      · simpa using this
      · simp at this
    exact ⟨u, by simp [part, run_isAgg ha, h4], h3⟩
end

section
variable {P : Program} {nt : Nat} {nb : Bool} {tm : List (Nat × AV)} {bk : BId → Option Blk} {ep : Nat} {o : Oper} {R : Type} {C : Ctx} {K : Ev → Option R} {r : R}

theorem newvar_ok {F : Fr} {g : Gh} {bk' : BId → Option Blk} {w : World} (hW : WR F g bk' w) {d : Nat} (hf : g.map (d, ep) = none) {ls : List Leaf} {cs : Array Value} {t : TypeId} (hr : Row g ls cs.toList) (h1 : Cells1 cs.toList) :
    ∃ g', g.le g' ∧ (∀ b p, g'.map b = some p → g.map b = some p ∨ b = (d, ep)) ∧ VR g' (.lf (.ref (d, ep) 0)) (.pointer (some ⟨w.heap.size, 0, none⟩)) ∧ WR F g' (upB bk' [((d, ep), some (.var ls))]) (w.alloc (.cells cs t)) := by
  have hle := Gh.le_add (g := g) (b := (d, ep)) (p := ⟨w.heap.size, 0, 1, ls.length, false, some 0, t⟩) hf
  refine ⟨g.add (d, ep) ⟨w.heap.size, 0, 1, ls.length, false, some 0, t⟩, hle, fun b p h => ?_, ?_, ?_⟩
  · simp only [Gh.add] at h
    split at h
    · exact .inr ‹_›
    · exact .inl h
  · exact LR.ref _ 0 ⟨w.heap.size, 0, 1, ls.length, false, some 0, t⟩ (by simp [Gh.add])
  · exact hW.new cs t hf rfl (fun _ _ => rfl) ⟨rfl, rfl, rfl, rfl, cs, heap_alloc_new w _, hr.mono hle, h1⟩

theorem ok_alloc (hty : TyOk P C.ty) {t : TypeId} {d : Nat} {i : TI} (ho : o.op = .alloc t) (hd : o.dst = some d) (hi : C.ty t = some i) :
    EvOk P nt nb (lk tm) bk ep o ⟨.lf (.ref (d, ep) 0), [((d, ep), some (.var (lvs i.zero)))], [(d, ep)]⟩ := by
  refine EvOk.of fun F g tm' bk' a w hnb ht hbk hT hW hdn hf => ?_
  obtain ⟨f, z, h1, h2, h3, h4, h5⟩ := tiB_info (hty t i hi)
  have hrow := zeroB_row (m := g.imm) h5
  obtain ⟨g', h6, h7, h8, h9⟩ := newvar_ok hW (d := d) (ep := ep) (hf d hd) (ls := lvs i.zero) (cs := z.cells) (t := t) (row_lvs.2 hrow) hrow.cells1
  refine ⟨_, _, g', .inl ?_, h6, fun b p h => (h7 b p h).imp_right fun e => ⟨d, hd, e⟩, h8, h9⟩
  simp [execOp, ho, Instr.alloc, zeroValue, typeInfo, h1, h4, newVar, newRow]

theorem ok_box {t : TypeId} {x : Operand} {d : Nat} {c : List Leaf} (ho : o.op = .box t x) (hd : o.dst = some d) (hc : (evA tm x).cells? = some c) :
    EvOk P nt nb (lk tm) bk ep o ⟨.lf (.ref (d, ep) 0), [((d, ep), some (.var c))], [(d, ep)]⟩ := by
  refine EvOk.of fun F g tm' bk' a w hnb ht hbk hT hW hdn hf => ?_
  obtain ⟨h1, h2⟩ := cells_row hc (mem_op (x := x) hT ht (by simp [ho, Op.operands]))
  obtain ⟨g', h6, h7, h8, h9⟩ := newvar_ok hW (d := d) (ep := ep) (hf d hd) (t := t) h1 h2
  refine ⟨_, _, g', .inl ?_, h6, fun b p h => (h7 b p h).imp_right fun e => ⟨d, hd, e⟩, h8, h9⟩
  simp [execOp, ho, Instr.box, newVar, newRow]

theorem evFieldAddr_ok (hty : TyOk P C.ty) {t : TypeId} {x : Operand} {j : Nat} (ho : o.op = .fieldAddr t x j) (h : evFieldAddr C t (evA tm x) j K = some r) :
    ∃ e, K e = some r ∧ EvOk P nt nb (lk tm) bk ep o e := by
  have hm : x ∈ o.op.operands.toList := by simp [ho, Op.operands]
  unfold evFieldAddr at h
  split at h
  · rename_i fs _ _ _ _ hi
    obtain ⟨Fs, hu, hfs⟩ := td_struct (hty t _ hi)
    split at h
    · rename_i fo fsz ag hj
      obtain ⟨f, i, h1, h2, h3, h4, _⟩ := fields_get hfs hj
      obtain ⟨hz, h⟩ := cond_none h
      have hz : i.size ≠ 0 := by rw [h4]; intro e; subst e; cases hz
      have hrun : ∀ (b p : Nat) (w : World), (Instr.fieldAt t (.pointer (some ⟨b, p, none⟩)) j).run P w = .ok (.pointer (some ⟨b, p + fo, none⟩)) w := by
        intro b p w
        have h5 : Fs[j]? = some f := by simpa using h1
        simp [Instr.fieldAt, run_underlying hu, h5, Instr.sureAddr, fieldPlace, run_sizeOf h3, hz, addr_add, h2]
      split at h
      · rename_i b off hx
        refine ⟨_, h, EvOk.ans fun g f' a w hh => ?_⟩
        have h1 := hh x hm
        rw [hx] at h1
        obtain ⟨p, hp, hpv⟩ := h1.ref
        exact ⟨_, by simp [execOp, ho, hpv, hrun]; rfl, by rw [Nat.add_assoc]; exact LR.ref b (off + fo) p hp⟩
      · rename_i b ix off hx
        refine ⟨_, h, EvOk.ans fun g f' a w hh => ?_⟩
        have h1 := hh x hm
        rw [hx] at h1
        obtain ⟨p, hp, h5, h6, hpv⟩ := h1.eref
        exact ⟨_, by simp [execOp, ho, hpv, hrun]; rfl, by rw [Nat.add_assoc]; exact LR.eref b ix (off + fo) p hp h5 h6⟩
      · rename_i ls off hx
        refine ⟨_, h, EvOk.ans fun g f' a w hh => ?_⟩
        have h1 := hh x hm
        rw [hx] at h1
        obtain ⟨b, p, cs, vs, hpv, hmm, hat, hrow⟩ := h1.imm
        exact ⟨_, by simp [execOp, ho, hpv, hrun]; rfl, by rw [Nat.add_assoc]; exact LR.imm _ _ _ ⟨b, p, cs, vs, rfl, hmm, hat, hrow⟩⟩
      · cases h
    · cases h
  · cases h

theorem ok_field (hty : TyOk P C.ty) {t : TypeId} {x : Operand} {j : Nat} (ho : o.op = .field t x j) {fs : List (Nat × Nat × Bool)} {sz by' : Nat} {ag : Bool} {z : List PL}
    (hi : C.ty t = some ⟨.struct fs, sz, ag, by', z⟩) {ls : List Leaf} (hx : evA tm x = .st ls) {off n : Nat} {agg : Bool} (hj : fs[j]? = some (off, n, agg)) (hb : off + n ≤ ls.length) {v : AV}
    (hv : ofCells agg (cut ls off n) = some v) : EvOk P nt nb (lk tm) bk ep o (ans v) := by
  obtain ⟨Fs, hu, hfs⟩ := td_struct (hty t _ hi)
  obtain ⟨f, i, h1, h2, h3, h4, h5⟩ := fields_get hfs hj
  refine EvOk.ans fun g f' a w hh => ?_
  have h6 := hh x (by simp [ho, Op.operands])
  rw [hx] at h6
  obtain ⟨cs, h7, h8, h9⟩ := h6
  subst h4
  obtain ⟨u, h10, h11⟩ := run_part (w := w) (off := off) h3 h5 hb h8 h9 hv
  have h12 : Fs[j]? = some f := by simpa using h1
  subst h2
  exact ⟨u, by simp [execOp, ho, Instr.field, run_underlying hu, h12, h7, asAgg, h10], h11⟩

theorem ixOk_iff {i : Int} {n : Nat} (h : ixOk i n = true) : 0 ≤ i ∧ i < (n : Int) ∧ i.toNat < n := by
  unfold ixOk at h
  simp only [Bool.and_eq_true, decide_eq_true_eq] at h
  exact ⟨h.1, h.2, by omega⟩

theorem ok_index (hty : TyOk P C.ty) {t : TypeId} {x y : Operand} (ho : o.op = .index t x y) {n esz sz by' : Nat} {eagg ag : Bool} {z : List PL}
    (hi : C.ty t = some ⟨.array n esz eagg, sz, ag, by', z⟩) {ls : List Leaf} (hx : evA tm x = .st ls) {k : IntKind} {j : Int} (hy : evA tm y = .lf (.p (.int k j))) (hj : ixOk j n = true) (hb : ls.length = n * esz) {v : AV}
    (hv : ofCells eagg (cut ls (j.toNat * esz) esz) = some v) : EvOk P nt nb (lk tm) bk ep o (ans v) := by
  obtain ⟨et, i, hu, h3, h4, h5⟩ := td_array (hty t _ hi)
  obtain ⟨j0, j1, j2⟩ := ixOk_iff hj
  refine EvOk.ans fun g f' a w hh => ?_
  have h6 := hh x (by simp [ho, Op.operands])
  rw [hx] at h6
  obtain ⟨cs, h7, h8, h9⟩ := h6
  have h6 := hh y (by simp [ho, Op.operands])
  rw [hy] at h6
  have hyv := vr_int h6
  subst h4
  have hb2 := seg_bound (s := i.size) j2
  obtain ⟨u, h10, h11⟩ := run_part (w := w) (off := j.toNat * i.size) h3 h5 (by omega) h8 h9 hv
  exact ⟨u, by simp [execOp, ho, Instr.index, run_underlying hu, h7, hyv, asIntOf, j0, j1, run_sizeOf h3, h10], h11⟩

theorem VR.osl {g : Gh} {b : BId} {lo hi : Nat} {v : Value} (h : VR g (.lf (.osl b lo hi)) v) :
    ∃ p a cap, g.map b = some p ∧ v = .slice a (hi - lo) cap ∧ hi - lo ≤ cap ∧ (lo < hi → a = some ⟨p.blk, p.base + lo * p.esz, none⟩ ∧ p.isNil = false) := by
  have h1 : LR g (.osl b lo hi) v := h
  cases h1 with
  | osl _ _ _ p a cap h2 h3 h5 h4 => exact ⟨p, a, cap, h2, rfl, h3, h4⟩
theorem VR.own {g : Gh} {b : BId} {v : Value} (h : VR g (.lf (.own b)) v) :
    ∃ p, g.map b = some p ∧ ((p.isNil = false ∧ ∃ cap, v = .slice (some ⟨p.blk, p.base, none⟩) p.len cap ∧ p.len ≤ cap ∧ ∀ c, p.cap = some c → cap = c) ∨ (p.isNil = true ∧ v = .slice none 0 0)) := by
  have h1 : LR g (.own b) v := h
  cases h1 with
  | own _ p cap h2 h3 h4 h5 => exact ⟨p, h2, .inl ⟨h3, cap, rfl, h4, h5⟩⟩
  | ownN _ p h2 h3 => exact ⟨p, h2, .inr ⟨h3, rfl⟩⟩
/-- An own row's value is a slice of its length. -/
theorem VR.own_slice {F : Fr} {g : Gh} {bk' : BId → Option Blk} {w : World} {b : BId} {v : Value} (h : VR g (.lf (.own b)) v) (hW : WR F g bk' w) {e : ETy} {et : TypeId} {xs : List e.T} (hb : bk' b = some (.arr e et xs)) :
    ∃ p a cap, g.map b = some p ∧ v = .slice a xs.length cap ∧ xs.length ≤ cap ∧ p.esz = e.sz ∧ p.len = xs.length ∧ (xs ≠ [] → a = some ⟨p.blk, p.base, none⟩ ∧ p.isNil = false) := by
  obtain ⟨p, hp, h1⟩ := h.own
  obtain ⟨p', hp', hesz, hlen, hpty, hor⟩ := hW.blk b _ hb
  rw [hp] at hp'; obtain rfl := Option.some.inj hp'
  rcases h1 with ⟨hn, cap, hv, hc, _⟩ | ⟨hn, hv⟩
  · exact ⟨p, _, cap, hp, by rw [← hlen]; exact hv, by omega, hesz, hlen, fun _ => ⟨rfl, hn⟩⟩
  · rcases hor with ⟨_, hx⟩ | ⟨hn', _⟩
    · subst hx; exact ⟨p, none, 0, hp, by simpa using hv, Nat.le_refl _, hesz, hlen, fun h => absurd rfl h⟩
    · rw [hn] at hn'; cases hn'

theorem run_indexAt_slice {t et : TypeId} {f : TypeInfo} (hu : P.underlying t = some (.slice et)) (hf : P.info? et = some f) {b p n cap : Nat} {k : IntKind} {i : Int} (h0 : 0 ≤ i) (h1 : i < (n : Int)) (w : World) :
    (Instr.indexAt t (.slice (some ⟨b, p, none⟩) n cap) (.int k i)).run P w = .ok (.pointer (some ⟨b, p + i.toNat * f.size, none⟩)) w := by
  simp [Instr.indexAt, asIntOf, run_underlying hu, h0, h1, run_sizeOf hf, addr_add]

theorem pr_sl {m : Imm} {e : ETy} {xs : List e.T} {v : Value} (h : PR m (.sl e xs) v) : (∃ a cap, v = .slice a xs.length cap ∧ xs.length ≤ cap) ∧ (xs ≠ [] → ∃ (b off cap : Nat) (cs : Array Value) (vs : List Value), v = .slice (some ⟨b, off, none⟩) xs.length cap ∧ m b = some cs ∧ PRow m (flat e xs) vs ∧
      (∀ (j : Nat) (v : Value), vs[j]? = some v → cs[off + j]? = some v)) := by
  cases h with
  | slE _ a cap => exact ⟨⟨a, cap, rfl, Nat.zero_le _⟩, fun h => absurd rfl h⟩
  | sl _ _ b off cap cs vs h1 h2 h3 h4 h5 => exact ⟨⟨_, cap, rfl, h2⟩, fun _ => ⟨b, off, cap, cs, vs, rfl, h1, ⟨h3.symm, h5⟩, h4⟩⟩

theorem evIndexAddr_ok (hty : TyOk P C.ty) {t : TypeId} {x y : Operand} (ho : o.op = .indexAddr t x y) (h : evIndexAddr C bk t (evA tm x) (evA tm y) K = some r) :
    ∃ e, K e = some r ∧ EvOk P nt nb (lk tm) bk ep o e := by
  have hmx : x ∈ o.op.operands.toList := by simp [ho, Op.operands]
  have hmy : y ∈ o.op.operands.toList := by simp [ho, Op.operands]
  unfold evIndexAddr at h
  split at h
  · rename_i k i hy
    split at h
    · rename_i e' et _ _ _ _ hi
      obtain ⟨hu, f, z, hf, hfs, _⟩ := td_slice (hty t _ hi)
      split at h
      · rename_i e xs hx
        obtain ⟨hc, h⟩ := cond_some h
        simp only [Bool.and_eq_true] at hc
        obtain ⟨hsz, hix⟩ := hc
        have hsz := Nat.eq_of_beq_eq_true hsz
        obtain ⟨j0, j1, j2⟩ := ixOk_iff hix
        refine ⟨_, h, EvOk.ans fun g f' a w hh => ?_⟩
        have h1 := hh x hmx
        have h2 := hh y hmy
        rw [hx] at h1
        rw [hy] at h2
        have hyv := vr_int h2
        obtain ⟨b, off, cap, cs, vs, hv, hm, hrow, hat⟩ := (pr_sl (vr_p h1)).2 (by intro e; subst e; simp at j2)
        refine ⟨_, by simp [execOp, ho, hv, hyv, run_indexAt_slice hu hf j0 j1]; rfl, LR.imm _ _ _ ⟨b, off + i.toNat * f.size, cs, (vs.drop (i.toNat * e.sz)).take e.sz, by simp, hm, fun j u hj => ?_, ?_⟩⟩
        · rw [getElem?_cut] at hj
          split at hj
          · rw [hfs, hsz, Nat.add_assoc]; exact hat _ _ hj
          · cases hj
        · rw [← flat_seg j2]
          have h3 := ((row_lvs.2 hrow : Row g (lvs (flat e xs)) vs).drop (i.toNat * e.sz)).take e.sz
          refine (row_lvs (g := g)).1 ?_
          simpa [lvs, List.map_take, List.map_drop] using h3
      · rename_i b hx
        split at h
        · rename_i e et' xs hb
          obtain ⟨hc, h⟩ := cond_some h
          simp only [Bool.and_eq_true] at hc
          obtain ⟨hsz, hix⟩ := hc
          have hsz := Nat.eq_of_beq_eq_true hsz
          obtain ⟨j0, j1, j2⟩ := ixOk_iff hix
          refine ⟨_, h, EvOk.of fun F g tm' bk' a w hnb ht hbk hT hW hdn hfr => ?_⟩
          have h1 := mem_op hT ht hmx
          have h2 := mem_op hT ht hmy
          rw [hx] at h1
          rw [hy] at h2
          have hyv := vr_int h2
          obtain ⟨p, ad, cap, hp, hv, _, hesz, hlen, hne⟩ := h1.own_slice hW ((hbk b (by simp)).trans hb)
          obtain ⟨rfl, hn⟩ := hne (by intro e; subst e; simp at j2)
          refine ⟨_, w, g, .inl (by simp [execOp, ho, hv, hyv, run_indexAt_slice hu hf j0 j1]; rfl), Gh.le_refl g, fun b p h => .inl h, ?_, hW⟩
          rw [hfs, hsz, ← hesz]
          exact LR.eref b i.toNat 0 p hp (by omega) hn
        · cases h
      · rename_i b lo hi' hx
        split at h
        · rename_i e et' xs hb
          obtain ⟨hc, h⟩ := cond_some h
          simp only [Bool.and_eq_true, decide_eq_true_eq] at hc
          obtain ⟨hsz, hix, hle⟩ := hc
          have hsz := Nat.eq_of_beq_eq_true hsz
          obtain ⟨j0, j1, j2⟩ := ixOk_iff hix
          refine ⟨_, h, EvOk.of fun F g tm' bk' a w hnb ht hbk hT hW hdn hfr => ?_⟩
          have h1 := mem_op hT ht hmx
          have h2 := mem_op hT ht hmy
          rw [hx] at h1
          rw [hy] at h2
          have hyv := vr_int h2
          obtain ⟨p, ad, cap, hp, hv, _, hne⟩ := h1.osl
          obtain ⟨rfl, hn⟩ := hne (by omega)
          obtain ⟨p', hp', hesz, hlen, _⟩ := hW.blk b _ ((hbk b (by simp)).trans hb)
          rw [hp] at hp'; obtain rfl := Option.some.inj hp'
          refine ⟨_, w, g, .inl (by simp only [execOp, ho, hv, hyv, Sem.run_bind, run_indexAt_slice hu hf j0 j1, Result.andThen_ok]; rfl), Gh.le_refl g, fun b p h => .inl h, ?_, hW⟩
          rw [hfs, hsz, ← hesz, Nat.add_assoc, ← Nat.add_mul]
          exact LR.eref b (lo + i.toNat) 0 p hp (by omega) hn
        · cases h
      · cases h
    · rename_i n esz _ _ _ _ _ hi
      obtain ⟨et, f, hu, h3, h4, h5⟩ := td_array (hty t _ hi)
      split at h
      · rename_i b off hx
        obtain ⟨hix, h⟩ := cond_some h
        obtain ⟨j0, j1, j2⟩ := ixOk_iff hix
        refine ⟨_, h, EvOk.ans fun g f' a w hh => ?_⟩
        have h1 := hh x hmx
        have h2 := hh y hmy
        rw [hx] at h1
        rw [hy] at h2
        have hyv := vr_int h2
        obtain ⟨p, hp, hpv⟩ := h1.ref
        refine ⟨_, by simp [execOp, ho, hpv, hyv, Instr.indexAt, asIntOf, run_underlying hu, Instr.sureAddr, j0, j1, run_sizeOf h3, addr_add]; rfl, ?_⟩
        rw [h4, Nat.add_assoc]
        exact LR.ref b _ p hp
      · cases h
    · cases h
  · cases h
end
end Go.Proofs.YtbjkpogfgijmaaaGreat
