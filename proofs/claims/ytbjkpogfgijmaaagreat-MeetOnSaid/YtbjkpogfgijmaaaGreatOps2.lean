/- Operations on memory: variables, fields, elements. -/
import Derived.Test.YtbjkpogfgijmaaaGreatOps1
namespace Go.Proofs.YtbjkpogfgijmaaaGreat
open Go Go.RowKit
set_option linter.unusedVariables false
set_option linter.unusedSimpArgs false

theorem addr_add (b o j : Nat) : (⟨b, o, none⟩ : Addr).add j = ⟨b, o + j, none⟩ := by
  unfold Addr.add
  split
  · rename_i h; subst h; rfl
  · rfl

section
variable {P : Program} {w : World} {t : TypeId} {i : TI}

theorem run_loadAt (hti : tiB P t i = true) {b off : Nat} {vs : List Value} (hl : vs.length = i.size) (hc : ∀ (j : Nat) v, vs[j]? = some v → w.cell? ⟨b, off + j, none⟩ = some v) :
    (i.agg = true → (Instr.loadAt t (.pointer (some ⟨b, off, none⟩))).run P w = .ok (.agg vs.toArray) w) ∧
    (i.agg = false → ∀ v, vs = [v] → (Instr.loadAt t (.pointer (some ⟨b, off, none⟩))).run P w = .ok v w) := by
  obtain ⟨f, z, h1, h2, _⟩ := tiB_info hti
  have ha := tiB_agg hti
  constructor
  · intro hg
    rw [hg] at ha
    have hld := run_loadCells_list (P := P) w ⟨b, off, none⟩ vs (fun j v hv => by rw [addr_add]; exact hc j v hv)
    rw [hl, ← h2] at hld
    simp [Instr.loadAt, Instr.sureAddr, loadVar, run_isAgg ha, run_sizeOf h1, hld]
  · intro hg v hv
    rw [hg] at ha
    have h0 := hc 0 v (by simp [hv])
    simp only [Nat.add_zero] at h0
    simp [Instr.loadAt, Instr.sureAddr, loadVar, run_isAgg ha, h0]

theorem ofCells_ok {g : Gh} {agg : Bool} {ls : List Leaf} {vs : List Value} {v : AV} (h : ofCells agg ls = some v) (hr : Row g ls vs) (h1 : Cells1 vs) :
    (agg = true ∧ VR g v (.agg vs.toArray)) ∨ (agg = false ∧ ∃ u, vs = [u] ∧ VR g v u) := by
  unfold ofCells at h
  cases agg with
  | true => simp at h; subst h; exact .inl ⟨rfl, vs.toArray, rfl, by simpa using hr, by simpa using h1⟩
  | false =>
    simp only [cond_false] at h
    split at h
    · rename_i l
      simp at h; subst h
      have := hr.1
      obtain ⟨u, rfl⟩ : ∃ u, vs = [u] := by
        cases vs with
        | nil => simp at this
        | cons u vs => cases vs with
          | nil => exact ⟨u, rfl⟩
          | cons => simp at this
      exact .inr ⟨rfl, u, rfl, hr.of_cons.1⟩
    · cases h

/-- A variable read out of a segment of plain cells. -/
theorem load_ok {g : Gh} (hti : tiB P t i = true) {b off : Nat} {ls : List Leaf} {vs : List Value} {v : AV} (hl : ls.length = i.size) (hr : Row g ls vs) (h1 : Cells1 vs)
    (hc : ∀ (j : Nat) u, vs[j]? = some u → w.cell? ⟨b, off + j, none⟩ = some u) (hv : ofCells i.agg ls = some v) :
    ∃ u, (Instr.loadAt t (.pointer (some ⟨b, off, none⟩))).run P w = .ok u w ∧ VR g v u := by
  have hrun := run_loadAt (w := w) hti (b := b) (off := off) (by rw [← hr.1]; exact hl) hc
  rcases ofCells_ok hv hr h1 with ⟨ha, h2⟩ | ⟨ha, u, hu, h2⟩
  · exact ⟨_, hrun.1 ha, h2⟩
  · exact ⟨u, hrun.2 ha u hu, h2⟩
end

theorem cell_at {w : World} {b : Nat} {cs : Array Value} {ty : TypeId} {fz : Nat × Nat} (h : w.heap[b]? = some (.cells cs ty fz)) (j : Nat) : w.cell? ⟨b, j, none⟩ = cs[j]? := by
  simp [World.cell?, h]
theorem Cells1.cut {vs : List Value} (h : Cells1 vs) (a n : Nat) : Cells1 ((vs.drop a).take n) := fun v hv => h v (List.mem_of_mem_drop (List.mem_of_mem_take hv))
theorem getElem?_cut {T : Type} (l : List T) (a n j : Nat) : ((l.drop a).take n)[j]? = if j < n then l[a + j]? else none := by
  rw [List.getElem?_take, List.getElem?_drop]
theorem cut_length {T : Type} {l : List T} {a n : Nat} (h : a + n ≤ l.length) : (cut l a n).length = n := by
  simp [cut]; omega
theorem lvs_cut (l : List PL) (a n : Nat) : lvs (cut l a n) = cut (lvs l) a n := by simp [lvs, cut, List.map_take, List.map_drop]
theorem lvs_length (l : List PL) : (lvs l).length = l.length := by simp [lvs]
theorem ble_le {a b : Nat} (h : Nat.ble a b = true) : a ≤ b := Nat.le_of_ble_eq_true h

theorem VR.ref {g : Gh} {b : BId} {off : Nat} {v : Value} (h : VR g (.lf (.ref b off)) v) : ∃ p, g.map b = some p ∧ v = .pointer (some ⟨p.blk, p.base + off, none⟩) := by
  have h1 : LR g (.ref b off) v := h
  cases h1 with
  | ref _ _ p h2 => exact ⟨p, h2, rfl⟩
theorem VR.eref {g : Gh} {b : BId} {i off : Nat} {v : Value} (h : VR g (.lf (.eref b i off)) v) :
    ∃ p, g.map b = some p ∧ i < p.len ∧ p.isNil = false ∧ v = .pointer (some ⟨p.blk, p.base + i * p.esz + off, none⟩) := by
  have h1 : LR g (.eref b i off) v := h
  cases h1 with
  | eref _ _ _ p h2 h3 h4 => exact ⟨p, h2, h3, h4, rfl⟩
theorem VR.imm {g : Gh} {ls : List PL} {off : Nat} {v : Value} (h : VR g (.lf (.imm ls off)) v) : ImmAt g.imm ls off v := by
  have h1 : LR g (.imm ls off) v := h
  cases h1 with
  | imm _ _ _ h => exact h

theorem flat_get (e : ETy) : ∀ (xs : List e.T) (i j : Nat), i < xs.length → j < e.sz → (flat e xs)[i * e.sz + j]? = (e.enc (xs.getD i e.dflt))[j]?
  | [], i, j, hi, _ => by simp at hi
  | x :: xs, 0, j, _, hj => by
    simp only [flat, List.flatMap_cons, Nat.zero_mul, Nat.zero_add, List.getD_cons_zero]
    rw [List.getElem?_append_left (by rw [ETy.enc_len]; exact hj)]
  | x :: xs, i + 1, j, hi, hj => by
    simp only [flat, List.flatMap_cons, List.getD_cons_succ]
    rw [List.getElem?_append_right (by rw [ETy.enc_len, Nat.add_mul]; omega), ETy.enc_len]
    have := flat_get e xs i j (by simpa using hi) hj
    rw [← this, flat]
    congr 1
    rw [Nat.add_mul]; omega

theorem flat_seg {e : ETy} {xs : List e.T} {i : Nat} (hi : i < xs.length) : ((flat e xs).drop (i * e.sz)).take e.sz = e.enc (xs.getD i e.dflt) := by
  apply List.ext_getElem?
  intro j
  rw [getElem?_cut]
  by_cases hj : j < e.sz
  · rw [if_pos hj, flat_get e xs i j hi hj]
  · rw [if_neg hj, List.getElem?_eq_none (by rw [ETy.enc_len]; omega)]
theorem seg_bound {i n s : Nat} (hi : i < n) : i * s + s ≤ n * s := by
  have : (i + 1) * s ≤ n * s := Nat.mul_le_mul_right _ hi
  rw [Nat.add_mul] at this; omega

section
variable {P : Program} {nt : Nat} {nb : Bool} {tm : List (Nat × AV)} {bk : BId → Option Blk} {ep : Nat} {o : Oper} {R : Type} {C : Ctx} {K : Ev → Option R} {r : R}

theorem mem_op {x : Operand} {g : Gh} {f' : Nat → AV} {a : Act} (hT : TR nt g f' a) (ht : ∀ t ∈ tmpsOf o.op.operands.toList, f' t = lk tm t) (hx : x ∈ o.op.operands.toList) : VR g (evA tm x) (a.eval x) :=
  evA_ok (nt := nt) (tm := tm) (tm' := tm) hT x tm rfl (fun t e => ht t (mem_tmpsOf (e ▸ hx)))

theorem evLoad_ok (hty : TyOk P C.ty) {t : TypeId} {x : Operand} (ho : o.op = .load t x) (h : evLoad C bk t (evA tm x) K = some r) :
    ∃ e, K e = some r ∧ EvOk P nt nb (lk tm) bk ep o e := by
  have hmem : x ∈ o.op.operands.toList := by simp [ho, Op.operands]
  have hexec : ∀ (a : Act) (w : World) u, (Instr.loadAt t (a.eval x)).run P w = .ok u w → (execOp a.eval o).run P w = .ok (.value u) w := by
    intro a w u hu; simp [execOp, ho, hu]
  unfold evLoad at h
  cases hi : C.ty t with
  | none => rw [hi] at h; cases h
  | some i =>
    have hti := hty t i hi
    rw [hi] at h
    dsimp only at h
    split at h
    · rename_i b off hx
      split at h
      · rename_i ls hb
        obtain ⟨hle, h⟩ := cond_some h
        obtain ⟨v, hv, h⟩ := Option.bind_eq_some_iff.1 h
        refine ⟨_, h, EvOk.of fun F g tm' bk' a w hnb ht hbk hT hW hd hf => ?_⟩
        have h1 := mem_op hT ht hmem
        rw [hx] at h1
        obtain ⟨p, hp, hpv⟩ := h1.ref
        have hb' : bk' b = some (.var ls) := (hbk b (by simp)).trans hb
        obtain ⟨p', hp', hn, hbase, hesz, hlen, cs, hcs, hrow, hcells⟩ := hW.blk b _ hb'
        rw [hp] at hp'; obtain rfl := Option.some.inj hp'
        obtain ⟨u, hu, hvu⟩ := load_ok (w := w) (g := g) hti (b := p.blk) (off := p.base + off) (ls := cut ls off i.size) (vs := (cs.toList.drop off).take i.size) (cut_length (ble_le hle)) ((hrow.drop off).take i.size) (hcells.cut off i.size)
          (fun j u hu => by
            rw [getElem?_cut] at hu
            split at hu
            · rw [cell_at hcs, hbase, Nat.zero_add]; simpa using hu
            · cases hu) hv
        exact ⟨u, w, g, .inl (hexec a w u (by rw [hpv]; exact hu)), Gh.le_refl g, fun b p h => .inl h, hvu, hW⟩
      · cases h
    · rename_i b ix off hx
      split at h
      · rename_i e et xs hb
        obtain ⟨hle, h⟩ := cond_some h
        obtain ⟨v, hv, h⟩ := Option.bind_eq_some_iff.1 h
        refine ⟨_, h, EvOk.of fun F g tm' bk' a w hnb ht hbk hT hW hd hf => ?_⟩
        have h1 := mem_op hT ht hmem
        rw [hx] at h1
        obtain ⟨p, hp, hix, hn, hpv⟩ := h1.eref
        have hb' : bk' b = some (.arr e et xs) := (hbk b (by simp)).trans hb
        obtain ⟨p', hp', hesz, hlen, hty', hor⟩ := hW.blk b _ hb'
        rw [hp] at hp'; obtain rfl := Option.some.inj hp'
        rcases hor with ⟨hnil, _⟩ | ⟨_, cs, vs, hcs, hrow, hat, hbd, _⟩
        · rw [hn] at hnil; cases hnil
        have hixl : ix < xs.length := hlen ▸ hix
        have hle' := ble_le hle
        have hseg : PRow g.imm (cut (e.enc (xs.getD ix e.dflt)) off i.size) ((vs.drop (ix * e.sz + off)).take i.size) := by
          rw [← flat_seg hixl]
          have h2 : Row g (lvs (cut (List.take e.sz (List.drop (ix * e.sz) (flat e xs))) off i.size)) ((((vs.drop (ix * e.sz)).take e.sz).drop off).take i.size) := by
            rw [lvs_cut]
            have h3 : Row g (lvs (flat e xs)) vs := row_lvs.2 hrow
            have h4 := (((h3.drop (ix * e.sz)).take e.sz).drop off).take i.size
            simpa [lvs, List.map_take, List.map_drop, cut] using h4
          have h5 := row_lvs.1 h2
          have e1 : List.take i.size (List.drop off (List.take e.sz (List.drop (ix * e.sz) vs))) = List.take i.size (List.drop (ix * e.sz + off) vs) := by
            apply List.ext_getElem?; intro j
            rw [List.getElem?_take, List.getElem?_take, List.getElem?_drop, List.getElem?_take, List.getElem?_drop, List.getElem?_drop]
            by_cases hj : j < i.size
            · rw [if_pos hj, if_pos hj, if_pos (by omega)]; congr 1; omega
            · rw [if_neg hj, if_neg hj]
          rw [e1] at h5; exact h5
        obtain ⟨u, hu, hvu⟩ := load_ok (w := w) (g := g) hti (b := p.blk) (off := p.base + ix * p.esz + off) (ls := lvs (cut (e.enc (xs.getD ix e.dflt)) off i.size)) (vs := (vs.drop (ix * e.sz + off)).take i.size)
          (by rw [lvs_length, cut_length]; rw [ETy.enc_len]; exact hle') (row_lvs.2 hseg) hseg.cells1
          (fun j u hu => by
            rw [getElem?_cut] at hu
            split at hu
            · rw [cell_at hcs, hesz, show p.base + ix * e.sz + off + j = p.base + (ix * e.sz + off + j) from by omega]; exact hat _ _ hu
            · cases hu) hv
        exact ⟨u, w, g, .inl (hexec a w u (by rw [hpv]; exact hu)), Gh.le_refl g, fun b p h => .inl h, hvu, hW⟩
      · cases h
    · rename_i ls off hx
      obtain ⟨hle, h⟩ := cond_some h
      obtain ⟨v, hv, h⟩ := Option.bind_eq_some_iff.1 h
      refine ⟨_, h, EvOk.of fun F g tm' bk' a w hnb ht hbk hT hW hd hf => ?_⟩
      have h1 := mem_op hT ht hmem
      rw [hx] at h1
      obtain ⟨b, p, cs, vs, hpv, hm, hat, hrow⟩ := h1.imm
      obtain ⟨ty, fz, hcs⟩ := hW.imm b cs hm
      have hrow' : Row g (lvs (cut ls off i.size)) ((vs.drop off).take i.size) := by
        rw [lvs_cut]; exact ((row_lvs.2 hrow : Row g (lvs ls) vs).drop off).take i.size
      obtain ⟨u, hu, hvu⟩ := load_ok (w := w) (g := g) hti (b := b) (off := p + off) (ls := lvs (cut ls off i.size)) (vs := (vs.drop off).take i.size)
        (by rw [lvs_length, cut_length (ble_le hle)]) hrow' (row_lvs.1 hrow').cells1
        (fun j u hu => by
          rw [getElem?_cut] at hu
          split at hu
          · rw [cell_at hcs, show p + off + j = p + (off + j) from by omega]; exact hat _ _ hu
          · cases hu) hv
      exact ⟨u, w, g, .inl (hexec a w u (by rw [hpv]; exact hu)), Gh.le_refl g, fun b p h => .inl h, hvu, hW⟩
    · cases h
end
end Go.Proofs.YtbjkpogfgijmaaaGreat
