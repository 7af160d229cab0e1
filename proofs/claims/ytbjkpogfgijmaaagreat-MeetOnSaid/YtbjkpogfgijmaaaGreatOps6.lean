/- Rows made, cut and grown; lengths; closures. -/
import Derived.Test.YtbjkpogfgijmaaaGreatOps5
namespace Go.Proofs.YtbjkpogfgijmaaaGreat
open Go Go.RowKit
set_option linter.unusedVariables false
set_option linter.unusedSimpArgs false

/-- A new row of the call's own. -/
theorem newrow_ok {F : Fr} {g : Gh} {bk' : BId → Option Blk} {w : World} {ep : Nat} (hW : WR F g bk' w) {d : Nat} (hf : g.map (d, ep) = none) {e : ETy} {et : TypeId} {xs : List e.T} {cs : Array Value} {vs : List Value} {cap : Nat}
    (hr : PRow g.imm (flat e xs) vs) (hat : ∀ (j : Nat) u, vs[j]? = some u → cs[j]? = some u) (hcs : cs.size = cap * e.sz) (hlen : xs.length ≤ cap) (hcap : cap ≤ maxLen) :
    ∃ g', g.le g' ∧ (∀ b p, g'.map b = some p → g.map b = some p ∨ b = (d, ep)) ∧ VR g' (.lf (.own (d, ep))) (.slice (some ⟨w.heap.size, 0, none⟩) xs.length cap) ∧
      WR F g' (upB bk' [((d, ep), some (.arr e et xs))]) (w.alloc (.cells cs et)) := by
  have hle := Gh.le_add (g := g) (b := (d, ep)) (p := ⟨w.heap.size, 0, e.sz, xs.length, false, some cap, et⟩) hf
  refine ⟨g.add (d, ep) ⟨w.heap.size, 0, e.sz, xs.length, false, some cap, et⟩, hle, fun b p h => ?_, ?_, ?_⟩
  · simp only [Gh.add] at h
    split at h
    · exact .inr ‹_›
    · exact .inl h
  · exact LR.own _ ⟨w.heap.size, 0, e.sz, xs.length, false, some cap, et⟩ cap (by simp [Gh.add]) rfl hlen (fun c hc => Option.some.inj hc)
  · refine hW.new cs et hf rfl (fun _ _ => rfl) ⟨rfl, rfl, rfl, .inr ⟨rfl, cs, vs, heap_alloc_new w _, hr.mono hle.imm, fun j u hu => by simpa using hat j u hu, ?_, fun c hc => ?_⟩⟩
    · have := Nat.mul_le_mul_right e.sz hlen; simp only [Nat.zero_add]; omega
    · have := Option.some.inj hc; subst this; exact ⟨rfl, hcs, hcap⟩

section
variable {P : Program} {nt : Nat} {nb : Bool} {tm : List (Nat × AV)} {bk : BId → Option Blk} {ep : Nat} {o : Oper} {R : Type} {C : Ctx} {K : Ev → Option R} {r : R}

theorem elems_fill {g : Gh} {e : ETy} : ∀ {parts : List (Nat × AV)} {cparts : List (Nat × Value)} {n : Nat} {xs : List e.T} {cs : Array Value}, elemsOf e n parts = some xs → PartsR g parts cparts → (n + xs.length) * e.sz ≤ cs.size →
    ∃ cs' vs, Instr.fill (fun i => some (i * e.sz, e.sz)) cs cparts = some cs' ∧ cs'.size = cs.size ∧ (∀ j, j < n * e.sz → cs'[j]? = cs[j]?) ∧ PRow g.imm (flat e xs) vs ∧ ∀ (j : Nat) u, vs[j]? = some u → cs'[n * e.sz + j]? = some u
  | [], [], n, xs, cs, h, _, _ => by
    simp [elemsOf] at h; subst h
    exact ⟨cs, [], rfl, rfl, fun _ _ => rfl, ⟨rfl, fun j l v h => by simp [flat] at h⟩, fun j u h => by simp at h⟩
  | [], _ :: _, _, _, _, _, h, _ => h.elim
  | _ :: _, [], _, _, _, _, h, _ => h.elim
  | (i, a) :: r, (j, v) :: s, n, xs, cs, h, hpr, hb => by
    obtain ⟨rfl, hv, hrest⟩ := hpr
    simp only [elemsOf] at h
    obtain ⟨hi, h⟩ := cond_some h
    have hi := Nat.eq_of_beq_eq_true hi
    subst hi
    simp only [Option.bind_eq_some_iff, Option.some.injEq] at h
    obtain ⟨x, ⟨l, ⟨c, hc, hl⟩, hx⟩, ys, hys, rfl⟩ := h
    obtain ⟨hr2, hc2⟩ := cells_row hc hv
    rw [pls_some hl] at hr2
    have hr3 : PRow g.imm (e.enc x) v.cells.toList := (dec_weak hx).row (row_lvs.1 hr2)
    have hsz : v.cells.size = e.sz := by have := hr3.1; rw [ETy.enc_len] at this; simp at this; omega
    simp only [List.length_cons] at hb
    have hb2 : (i + 1 + ys.length) * e.sz ≤ cs.size := by rw [show i + 1 + ys.length = i + (ys.length + 1) from by omega]; exact hb
    have hb3 : i * e.sz + e.sz ≤ cs.size := by
      have : (i + 1) * e.sz ≤ (i + 1 + ys.length) * e.sz := Nat.mul_le_mul_right _ (by omega)
      rw [Nat.add_mul] at this; omega
    have hset := set_cells v (i * e.sz) cs (by omega)
    have hsz' : (v.cells.zipIdx.foldl (fun cs (x : Value × Nat) => cs.setIfInBounds (i * e.sz + x.2) x.1) cs).size = cs.size := by
      have := congrArg List.length hset
      rw [seg_length (by simp; omega)] at this
      simpa using this
    obtain ⟨cs', vs, h1, h2, h3, h4, h5⟩ := elems_fill (cs := v.cells.zipIdx.foldl (fun cs (x : Value × Nat) => cs.setIfInBounds (i * e.sz + x.2) x.1) cs) hys hrest (by rw [hsz']; exact hb2)
    have hget : ∀ j : Nat, (v.cells.zipIdx.foldl (fun cs (x : Value × Nat) => cs.setIfInBounds (i * e.sz + x.2) x.1) cs)[j]? = (seg cs.toList (i * e.sz) v.cells.toList)[j]? := fun j => by rw [← hset]; simp
    have hseg : i * e.sz + v.cells.toList.length ≤ cs.toList.length := by simp; omega
    have hvl : v.cells.toList.length = e.sz := by simp; omega
    refine ⟨cs', v.cells.toList ++ vs, ?_, h2.trans hsz', fun j hj => ?_, ?_, fun j u hu => ?_⟩
    · simp only [Instr.fill]
      rw [if_neg (by simp only [ne_eq, Bool.or_eq_true, decide_eq_true_eq, not_or, Decidable.not_not, gt_iff_lt, Nat.not_lt]; omega)]
      exact h1
    · rw [h3 j (by rw [Nat.add_mul]; omega), hget, seg_get hseg, if_pos hj]; simp
    · show PRow g.imm (e.enc x ++ flat e ys) _
      exact hr3.append h4
    · rw [List.getElem?_append, hvl] at hu
      split at hu
      · rename_i hj
        rw [h3 _ (by rw [Nat.add_mul]; omega), hget, seg_get hseg, if_neg (by omega), hvl, if_pos (by omega)]
        rw [← hu]; congr 1; omega
      · rename_i hj
        have := h5 _ u hu
        rw [← this]; congr 1; rw [Nat.add_mul]; omega

theorem ok_buildSlice (hty : TyOk P C.ty) {t : TypeId} {n : Nat} {parts : Array (Nat × Operand)} (ho : o.op = .buildSlice t n parts) {d : Nat} (hd : o.dst = some d) {e : ETy} {et : TypeId} {sz by' : Nat} {ag : Bool} {z : List PL}
    (hi : C.ty t = some ⟨.slice e et, sz, ag, by', z⟩) {xs : List e.T} (hx : elemsOf e 0 (parts.toList.map fun p => (p.1, evA tm p.2)) = some xs) (hn : xs.length = n) (hb : n * e.sz ≤ 16777216) :
    EvOk P nt nb (lk tm) bk ep o ⟨.lf (.own (d, ep)), [((d, ep), some (.arr e et xs))], [(d, ep)]⟩ := by
  refine EvOk.of fun F g tm' bk' a w hnb' ht hbk hT hW hdn hfr => ?_
  obtain ⟨hu, f, z', hf, hfs, hz, hzs⟩ := td_slice (hty t _ hi)
  have hmem : ∀ p ∈ parts.toList, VR g (evA tm p.2) (a.eval p.2) := fun p hp => mem_op hT ht (by simp only [ho, Op.operands]; simp; exact ⟨p.1, by simpa using hp⟩)
  have hpr := partsR_of (f' := tm') hmem
  have hpos := e.sz_pos
  obtain ⟨cs', vs, h1, h2, h3, h4, h5⟩ := elems_fill (cs := (Array.range (n * f.size)).map ((if n * f.size = 0 then #[] else z'.cells)[· % (if n * f.size = 0 then #[] else z'.cells).size]!)) hx hpr (by simp [hn, hfs])
  have h2' : cs'.size = n * e.sz := by rw [h2]; simp [hfs]
  obtain ⟨g', h6, h7, h8, h9⟩ := newrow_ok hW (et := et) (hfr d hd) h4 (fun j u hu => by simpa using h5 j u hu) h2' (by omega) (by have : n * 1 ≤ n * e.sz := Nat.mul_le_mul_left _ hpos; simp only [maxLen]; omega)
  rw [hn] at h8
  refine ⟨_, _, g', .inl ?_, h6, fun b p h => (h7 b p h).imp_right fun e => ⟨d, hd, e⟩, h8, h9⟩
  have hlim : ¬ (16777216 < n * f.size) := by rw [hfs]; omega
  rw [← hfs] at h1
  by_cases h0 : n * f.size = 0
  · rw [if_pos h0] at h1
    simp only [execOp, ho, Instr.buildSlice, Sem.run_bind, run_underlying hu, Result.andThen_ok, run_sizeOf hf, gt_iff_lt, Nat.reducePow, hlim, if_false, Sem.run_pure, if_pos h0]
    simp at h1
    simp [h1, newRow]
  · rw [if_neg h0] at h1
    simp only [execOp, ho, Instr.buildSlice, Sem.run_bind, run_underlying hu, Result.andThen_ok, run_sizeOf hf, gt_iff_lt, Nat.reducePow, hlim, if_false, Sem.run_pure, if_neg h0]
    simp [zeroValue, typeInfo, hf, hz, h1, newRow]

theorem zeroIs_eq {k : IntKind} {z : List PL} (h : zeroIs k z = true) : z = [.int k 0] := by
  unfold zeroIs at h
  split at h
  · simp only [Bool.and_eq_true, decide_eq_true_eq, beq_iff_eq] at h
    obtain ⟨rfl, rfl⟩ := h; rfl
  · cases h
theorem ok_makeSlice (hty : TyOk P C.ty) {t : TypeId} {l c : Operand} (ho : o.op = .makeSlice t l c) {d : Nat} (hd : o.dst = some d) {k : IntKind} {et : TypeId} {sz by' : Nat} {ag : Bool} {z : List PL}
    (hi : C.ty t = some ⟨.slice (.i k) et, sz, ag, by', z⟩) {ei : TI} (hei : C.ty et = some ei) {n m : Int} (hl : evA tm l = .lf (.p (.int .i64 n))) (hc : evA tm c = .lf (.p (.int .i64 m)))
    (hz : zeroIs k ei.zero = true) (hby : 0 < ei.bytes) (h0 : 0 ≤ n) (h1 : n ≤ m) (h2 : m * (ei.bytes : Int) ≤ 281474976710656) :
    EvOk P nt nb (lk tm) bk ep o ⟨.lf (.own (d, ep)), [((d, ep), some (.arr (.i k) et (List.replicate n.toNat (0 : Int))))], [(d, ep)]⟩ := by
  refine EvOk.of fun F g tm' bk' a w hnb' ht hbk hT hW hdn hfr => ?_
  obtain ⟨hu, f, z', hf, hfs, hz', hzs⟩ := td_slice (hty t _ hi)
  obtain ⟨f2, z2, hf2, hf3, hf4, hf5, hf6⟩ := tiB_info (hty et _ hei)
  rw [hf] at hf2; obtain rfl := Option.some.inj hf2
  rw [hz'] at hf5; obtain rfl := Option.some.inj hf5
  rw [zeroIs_eq hz] at hf6
  have hv1 := vr_int (hl ▸ mem_op (x := l) hT ht (by simp [ho, Op.operands]))
  have hv2 := vr_int (hc ▸ mem_op (x := c) hT ht (by simp [ho, Op.operands]))
  have hmb : m ≤ m * (ei.bytes : Int) := by
    have : (1 : Int) ≤ (ei.bytes : Int) := by omega
    have := Int.mul_le_mul_of_nonneg_left this (show 0 ≤ m by omega)
    simpa using this
  have hrun := run_make (P := P) w t et f z' hu hf hz' .i64 .i64 n m h0 h1 (by rw [hf4, Int.mul_comm]; exact h2) (by omega)
  have hzc : z'.cells = #[.int k 0] := by
    apply Array.ext'
    cases hc : z'.cells.toList with
    | nil => rw [hc] at hf6; simp [zeroB] at hf6
    | cons a l =>
      rw [hc] at hf6
      simp only [zeroB, Bool.and_eq_true] at hf6
      cases l with
      | cons => simp [zeroB] at hf6
      | nil =>
        have h3 := hf6.1
        unfold valB at h3
        split at h3
        · rename_i k1 n1 k2 n2 e2
          simp only [Bool.and_eq_true, decide_eq_true_eq, PL.int.injEq] at h3 e2
          obtain ⟨rfl, rfl⟩ := h3
          obtain ⟨rfl, rfl⟩ := e2; rfl
        · rename_i e2; cases e2
        · rename_i e2; cases e2
        · cases h3
  have hone : f.size = 1 := hfs
  rw [hzc, hone, Nat.mul_one] at hrun
  have hcsl : (madeCells #[Value.int k 0] m.toNat).toList = List.replicate m.toNat (.int k 0) := toList_madeCells_one _ _
  obtain ⟨g', h6, h7, h8, h9⟩ := newrow_ok hW (et := et) (e := .i k) (xs := List.replicate n.toNat (0 : Int)) (cs := madeCells #[Value.int k 0] m.toNat) (vs := List.replicate n.toNat (.int k 0)) (cap := m.toNat) (hfr d hd)
    (by
      refine ⟨by simp [flat_length, ETy.sz], fun j l v h1 h2 => ?_⟩
      have e1 : flat (.i k) (List.replicate n.toNat (0 : Int)) = List.replicate n.toNat (.int k 0) := by
        generalize n.toNat = q
        induction q with
        | zero => rfl
        | succ q ih => rw [List.replicate_succ, List.replicate_succ, ← ih]; rfl
      rw [e1] at h1
      have h3 := List.eq_of_mem_replicate (List.mem_of_getElem? h1)
      have h4 := List.eq_of_mem_replicate (List.mem_of_getElem? h2)
      rw [h3, h4]; exact .int _ _)
    (fun j u hu => by
      have e2 : (madeCells #[Value.int k 0] m.toNat)[j]? = (List.replicate m.toNat (Value.int k 0))[j]? := by rw [← hcsl]; simp
      rw [e2]
      have h4 := List.eq_of_mem_replicate (List.mem_of_getElem? hu)
      have h5 := (List.getElem?_eq_some_iff.1 hu).1
      simp only [List.length_replicate] at h5
      rw [h4, List.getElem?_replicate, if_pos (by omega)])
    (by simp [size_madeCells, ETy.sz]) (by simp; omega) (by simp only [maxLen]; omega)
  simp only [List.length_replicate] at h8
  exact ⟨_, _, g', .inl (by simp only [execOp, ho, hv1, hv2, Sem.run_bind, hrun, Result.andThen_ok]; rfl), h6, fun b p h => (h7 b p h).imp_right fun e => ⟨d, hd, e⟩, h8, h9⟩

/-! ### Rows cut -/
def bndV : Option Int → Option Value → Prop
  | none, none => True
  | some n, some v => ∃ k, v = .int k n
  | _, _ => False
theorem bnd_ok {x : Option Operand} {b : Option Int} (h : bnd (evA tm) x = some b) {g : Gh} {a : Act} (hm : ∀ y, x = some y → VR g (evA tm y) (a.eval y)) : bndV b (x.map a.eval) := by
  unfold bnd at h
  split at h
  · simp at h; subst h; trivial
  · rename_i y
    split at h
    · rename_i k n hy
      simp at h; subst h
      exact ⟨k, vr_int (hy ▸ hm y rfl)⟩
    · cases h
theorem sliceOk_le {n : Nat} {l h m : Option Int} (hk : sliceOk n l h m = true) : loN l ≤ hiN n h ∧ hiN n h ≤ n := by
  cases l <;> cases h <;> cases m <;> simp [sliceOk, loN, hiN] at hk ⊢ <;> omega
theorem run_slice_ok {t et : TypeId} {f : TypeInfo} (hu : P.underlying t = some (.slice et)) (hf : P.info? et = some f) {a : Option Addr} {n cap : Nat} (hnc : n ≤ cap) {l h m : Option Int} {lv hv mv : Option Value} (hl : bndV l lv) (hh : bndV h hv) (hm : bndV m mv)
    (hk : sliceOk n l h m = true) (w : World) : ∃ q, hiN n h ≤ q ∧ (m = none → q = cap) ∧ (Instr.sliceAt t (.slice a n cap) lv hv mv).run P w = .ok (.slice (if q = loN l then a else a.map (·.add (loN l * f.size))) (hiN n h - loN l) (q - loN l)) w := by
  have hel : P.elem t = et := by simp [Program.elem, hu]
  have hu' : P.underlying t = some (.slice (P.elem t)) := by rw [hel]; exact hu
  rw [run_sliceAt_slice w t _ _ _ _ hu']
  have hsz := run_sizeOf (P := P) hf w
  rw [← hel] at hsz
  cases l <;> cases lv <;> first | exact hl.elim | skip
  all_goals cases h <;> cases hv <;> first | exact hh.elim | skip
  all_goals cases m <;> cases mv <;> first | exact hm.elim | skip
  all_goals simp only [bndV] at hl hh hm
  all_goals simp [sliceOk] at hk
  all_goals try obtain ⟨kl, rfl⟩ := hl
  all_goals try obtain ⟨kh, rfl⟩ := hh
  all_goals try obtain ⟨km, rfl⟩ := hm
  · exact ⟨cap, hnc, fun _ => rfl, by rw [run_slice_all w t a n cap hu', hsz]; rfl⟩
  · exact ⟨cap, by simp [hiN]; omega, fun _ => rfl, by rw [run_slice_h w t a n cap hu' _ _ (by omega) (by omega), hsz]; rfl⟩
  · rename_i m; exact ⟨m.toNat, by simp [hiN]; omega, (fun h => by cases h), by rw [run_slice_hm w t a n cap hu' _ _ _ _ (by omega) (by omega) (by omega), hsz]; rfl⟩
  · exact ⟨cap, by simp [hiN]; omega, fun _ => rfl, by rw [run_slice_l w t a n cap hu' _ _ (by omega) (by omega), hsz]; rfl⟩
  · exact ⟨cap, by simp [hiN]; omega, fun _ => rfl, by rw [run_slice_lh w t a n cap hu' _ _ _ _ (by omega) (by omega) (by omega), hsz]; rfl⟩
  · rename_i m; exact ⟨m.toNat, by simp [hiN]; omega, (fun h => by cases h), by rw [run_slice_lhm w t a n cap hu' _ _ _ _ _ _ (by omega) (by omega) (by omega) (by omega), hsz]; rfl⟩

theorem dp_tk {T : Type} (xs : List T) (l h : Option Int) : dp (tk xs h) l = (xs.take (hiN xs.length h)).drop (loN l) := by
  cases l <;> cases h <;> simp [dp, tk, loN, hiN]

theorem evSlice_ok (hty : TyOk P C.ty) (hnbC : C.nb = nb) {t : TypeId} {x : Operand} {lo hi mx : Option Operand} (ho : o.op = .slice t x lo hi mx) (h : evSlice C (o.dst.map fun d => (d, ep)) (evA tm) bk t (evA tm x) lo hi mx K = some r) :
    ∃ e, K e = some r ∧ EvOk P nt nb (lk tm) bk ep o e := by
  have hmx : x ∈ o.op.operands.toList := by simp [ho, Op.operands]
  unfold evSlice at h
  split at h
  · rename_i e' et _ _ _ _ hty'
    obtain ⟨hu, f, z, hf, hfs, _⟩ := td_slice (hty t _ hty')
    simp only [Option.bind_eq_some_iff] at h
    obtain ⟨l, hl, hh, hhi, m, hm, h⟩ := h
    split at h
    · rename_i e xs hx
      obtain ⟨hc, h⟩ := cond_some h
      simp only [Bool.and_eq_true] at hc
      obtain ⟨hsz, hk⟩ := hc
      have hsz := Nat.eq_of_beq_eq_true hsz
      obtain ⟨k1, k2⟩ := sliceOk_le hk
      refine ⟨_, h, EvOk.ans fun g f' a w hm' => ?_⟩
      have h1 := hm' x hmx
      rw [hx] at h1
      have b1 := bnd_ok hl (fun y e => hm' y (by simp [ho, Op.operands, e]))
      have b2 := bnd_ok hhi (fun y e => hm' y (by simp [ho, Op.operands, e]))
      have b3 := bnd_ok hm (fun y e => hm' y (by simp [ho, Op.operands, e]))
      obtain ⟨⟨ad, cap, hv, hcap⟩, hne⟩ := pr_sl (vr_p h1)
      obtain ⟨q, hq, _, hrun⟩ := run_slice_ok hu hf (a := ad) hcap b1 b2 b3 hk w
      refine ⟨_, by simp only [execOp, ho, hv, Sem.run_bind, hrun, Result.andThen_ok]; rfl, vr_mk ?_⟩
      rw [dp_tk]
      by_cases hz : hiN xs.length hh = loN l
      · have : (xs.take (hiN xs.length hh)).drop (loN l) = [] := by apply List.drop_eq_nil_of_le; simp; omega
        rw [this, show hiN xs.length hh - loN l = 0 from by omega]
        exact .slE e _ _
      · obtain ⟨b, off, cap', cs, vs, hv', hmm, hrow, hat⟩ := hne (by intro e; rw [e] at k1 k2 hz; simp only [List.length_nil, Nat.le_zero] at k2; simp only [List.length_nil] at k1 hz; omega)
        rw [hv] at hv'
        simp only [Value.slice.injEq] at hv'
        obtain ⟨rfl, _, rfl⟩ := hv'
        rw [if_neg (by omega)]
        simp only [Option.map_some, addr_add, hfs, hsz]
        exact PR.part hmm hrow hat k2 (by omega)
    · rename_i b hx
      split at h
      · rename_i e et' xs hb
        obtain ⟨hc, h⟩ := cond_some h
        simp only [Bool.and_eq_true] at hc
        obtain ⟨hsz, hk⟩ := hc
        have hsz := Nat.eq_of_beq_eq_true hsz
        obtain ⟨k1, k2⟩ := sliceOk_le hk
        split at h
        · rename_i id hid hcut hold
          clear hold
          simp only [Bool.and_eq_true] at hcut
          obtain ⟨d, hd, rfl⟩ := Option.map_eq_some_iff.1 hid
          refine ⟨_, h, EvOk.of fun F g tm' bk' a w hnb' ht hbk hT hW hdn hfr => ?_⟩
          have hbor := hnb' (hnbC ▸ hcut.2)
          have hm' : ∀ y ∈ o.op.operands.toList, VR g (evA tm y) (a.eval y) := fun y hy => mem_op hT ht hy
          have h1 := hm' x hmx
          rw [hx] at h1
          have b1 := bnd_ok hl (fun y e => hm' y (by simp [ho, Op.operands, e]))
          have b2 := bnd_ok hhi (fun y e => hm' y (by simp [ho, Op.operands, e]))
          have b3 := bnd_ok hm (fun y e => hm' y (by simp [ho, Op.operands, e]))
          have hb' := (hbk b (by simp)).trans hb
          obtain ⟨p, hp, hcase⟩ := h1.own
          obtain ⟨p', hp', hesz, hlen, hpty, hor⟩ := hW.blk b _ hb'
          rw [hp] at hp'; obtain rfl := Option.some.inj hp'
          have hW1 : WR F g (upB bk' (dead [b])) w := hW.sub (fun c z hz => by rw [upB_dead] at hz; split at hz; cases hz; exact hz)
          have hmapadd : ∀ (p : Pl) c q, (g.add (d, ep) p).map c = some q → g.map c = some q ∨ ∃ d', o.dst = some d' ∧ c = (d', ep) := by
            intro p c q h
            simp only [Gh.add] at h
            split at h
            · rename_i hc; exact .inr ⟨d, hd, hc⟩
            · exact .inl h
          have hself : ∀ p, (g.add (d, ep) p).map (d, ep) = some p := fun p => by simp [Gh.add]
          have htk : tk xs hh = xs.take (hiN xs.length hh) := by cases hh <;> simp [tk, hiN]
          have hsub : ∀ (X : Blk) c z, upB bk' [(b, none), ((d, ep), some X)] c = some z → upB (upB bk' (dead [b])) [((d, ep), some X)] c = some z := by
            intro X c z hz
            simp only [upB, dead, List.map] at hz ⊢
            cases hq : bidEq b c with
            | true => rw [hq] at hz; cases hz
            | false =>
              rw [hq] at hz
              simpa using hz
          rcases hcase with ⟨hn, cap, hv, hcp, hce⟩ | ⟨hn, hv⟩
          · rcases hor with ⟨hnil, _⟩ | ⟨_, cs, vs, hcs, hrow, hat, hbd, hcapd⟩
            · rw [hn] at hnil; cases hnil
            obtain ⟨him, hmine, _, hcs'⟩ := hW.live b _ p hb' hp hn
            obtain ⟨cp, hcpe⟩ := Option.isSome_iff_exists.1 (hcs' hbor)
            obtain ⟨hb0, hsz', hmax⟩ := hcapd cp hcpe
            have hce' := hce cp hcpe
            subst hce'
            obtain ⟨q, hq, hqc, hrun⟩ := run_slice_ok hu hf (a := some ⟨p.blk, p.base, none⟩) (n := xs.length) (cap := cap) (by omega) b1 b2 b3 hk w
            have hqc := hqc rfl
            subst hqc
            have htl : (tk xs hh).length = hiN xs.length hh := by rw [htk]; simp; omega
            have hle := Gh.le_add (g := g) (b := (d, ep)) (p := ⟨p.blk, 0, e.sz, (tk xs hh).length, false, some q, et'⟩) (hfr d hd)
            have hval : (if q = loN none then some (⟨p.blk, p.base, none⟩ : Addr) else (some (⟨p.blk, p.base, none⟩ : Addr)).map (·.add (loN none * f.size))) = some ⟨p.blk, 0, none⟩ := by
              simp only [loN, Nat.zero_mul, Option.map_some, addr_add, hb0, Nat.add_zero]
              split <;> rfl
            rw [hval] at hrun
            simp only [loN, Nat.sub_zero] at hrun
            refine ⟨_, w, g.add (d, ep) ⟨p.blk, 0, e.sz, (tk xs hh).length, false, some q, et'⟩, .inl (by rw [hlen] at hv; simp only [execOp, ho, hv, Sem.run_bind, hrun, Result.andThen_ok]; rfl), hle, hmapadd _, ?_, (hW1.add (hfr d hd) (p := ⟨p.blk, 0, e.sz, (tk xs hh).length, false, some q, et'⟩) (x := .arr e et' (tk xs hh)) ⟨rfl, rfl, rfl, .inr ⟨rfl, cs, vs.take ((hiN xs.length hh) * e.sz), hcs, ?_, fun j u hu => ?_, ?_, fun c hc => ?_⟩⟩ (fun _ => ⟨him, ?_, fun b2 x2 p2 hx2 hp2 hn2 he2 => ?_⟩) (fun _ k' c n hk' => by rw [hbor] at hk'; cases hk') (fun _ _ => rfl)).sub (hsub _)⟩
            · rw [← htl]
              exact LR.own _ ⟨p.blk, 0, e.sz, (tk xs hh).length, false, some q, et'⟩ q (hself _) rfl (by show (tk xs hh).length ≤ q; omega) (fun c hc => Option.some.inj hc)
            · rw [htk, take_flat]; exact (hrow.take _).mono hle.imm
            · rw [List.getElem?_take] at hu
              split at hu
              · have := hat j u hu; rwa [hb0] at this
              · cases hu
            · rw [htl, hsz']
              show 0 + hiN xs.length hh * e.sz ≤ q * e.sz
              rw [Nat.zero_add]; exact Nat.mul_le_mul_right _ hq
            · have := Option.some.inj hc; subst this; exact ⟨rfl, hsz', hmax⟩
            · rcases hmine with h5 | ⟨c, n, h5⟩
              · exact h5
              · rw [hbor] at h5; cases h5
            · rw [upB_dead] at hx2
              split at hx2
              · cases hx2
              · rename_i hnm
                have := hW.inj b2 b x2 _ p2 p hx2 hb' hp2 hp hn2 hn he2
                exact hnm (by simp [this])
          · rcases hor with ⟨_, hxs⟩ | ⟨hn', _⟩
            · subst hxs
              obtain ⟨q, hq, hqc, hrun⟩ := run_slice_ok hu hf (a := none) (n := 0) (cap := 0) (Nat.le_refl _) b1 b2 b3 hk w
              have hqc := hqc rfl
              subst hqc
              have h0 : hiN 0 hh = 0 := by simp only [List.length_nil] at k2; omega
              have ht0 : tk ([] : List e.T) hh = [] := by cases hh <;> simp [tk]
              rw [h0] at hrun
              simp only [loN, if_pos, Nat.sub_zero] at hrun
              rw [ht0]
              refine ⟨_, w, g.add (d, ep) ⟨0, 0, e.sz, 0, true, none, et'⟩, .inl (by simp only [execOp, ho, hv, Sem.run_bind, hrun, Result.andThen_ok]; rfl), Gh.le_add (hfr d hd), hmapadd _, LR.ownN _ _ (hself _) rfl, ?_⟩
              exact (hW1.add (hfr d hd) (p := ⟨0, 0, e.sz, 0, true, none, et'⟩) (x := .arr e et' []) ⟨rfl, rfl, rfl, .inl ⟨rfl, rfl⟩⟩ (fun h => by cases h) (fun h => by cases h) (fun h => by cases h)).sub (hsub _)
            · rw [hn] at hn'; cases hn'
        · refine ⟨_, h, EvOk.of fun F g tm' bk' a w hnb' ht hbk hT hW hdn hfr => ?_⟩
          have hm' : ∀ y ∈ o.op.operands.toList, VR g (evA tm y) (a.eval y) := fun y hy => mem_op hT ht hy
          have h1 := hm' x hmx
          rw [hx] at h1
          have b1 := bnd_ok hl (fun y e => hm' y (by simp [ho, Op.operands, e]))
          have b2 := bnd_ok hhi (fun y e => hm' y (by simp [ho, Op.operands, e]))
          have b3 := bnd_ok hm (fun y e => hm' y (by simp [ho, Op.operands, e]))
          obtain ⟨p, ad, cap, hp, hv, hcap, hesz, hlen, hne⟩ := h1.own_slice hW ((hbk b (by simp)).trans hb)
          obtain ⟨q, hq, _, hrun⟩ := run_slice_ok hu hf (a := ad) hcap b1 b2 b3 hk w
          refine ⟨_, w, g, .inl (by simp only [execOp, ho, hv, Sem.run_bind, hrun, Result.andThen_ok]; rfl), Gh.le_refl g, fun b p h => .inl h, LR.osl b _ _ p _ _ hp (by omega) (by omega) (fun hlt => ?_), hW⟩
          obtain ⟨rfl, hn⟩ := hne (by intro e; rw [e] at k1 k2 hlt; simp only [List.length_nil, Nat.le_zero] at k2; simp only [List.length_nil] at k1 hlt; omega)
          refine ⟨?_, hn⟩
          rw [if_neg (by omega)]
          simp only [Option.map_some, addr_add, hfs, hsz, hesz]
      · cases h
    · cases h
  · cases h

/-! ### Lengths, least and greatest -/
theorem sliceTy_ok (hty : TyOk P C.ty) {t : Option TypeId} (h : sliceTy C.ty t = true) : ∃ t' et, t = some t' ∧ P.underlying t' = some (.slice et) := by
  unfold sliceTy at h
  split at h
  · rename_i t'
    split at h
    · rename_i e et _ _ _ _ hi
      exact ⟨t', et, rfl, (td_slice (hty t' _ hi)).1⟩
    · cases h
  · cases h
theorem evLen_ok (hty : TyOk P C.ty) {c : Call} {x : Operand} {ats : Array TypeId} (ho : o.op = .call c) (hcal : c.callee = .builtin .len) (hargs : c.args = #[x]) (hst : sliceTy C.ty c.argTypes.toList.head? = true)
    (h : evLen bk (evA tm x) K = some r) : ∃ e, K e = some r ∧ EvOk P nt nb (lk tm) bk ep o e := by
  have hmx : x ∈ o.op.operands.toList := by simp [ho, Op.operands, Call.operands, hcal, hargs]
  obtain ⟨t', et, ht', hu⟩ := sliceTy_ok hty hst
  have ht2 : c.argTypes[0]? = some t' := by rw [← ht']; simp [List.head?_eq_getElem?]
  have hrun : ∀ (a : Act) (w : World) (ad : Option Addr) (n cap : Nat), a.eval x = .slice ad n cap → (execOp a.eval o).run P w = .ok (.value (.int .i64 (n : Int))) w := by
    intro a w ad n cap hv
    simp [execOp, ho, resolve, hcal, invoke, builtin, Builtin.len_, ht2, hargs, hv, run_underlying hu, goInt]
  unfold evLen at h
  split at h
  · rename_i e xs hx
    refine ⟨_, h, EvOk.ans fun g f' a w hm' => ?_⟩
    obtain ⟨⟨ad, cap, hv, hcap⟩, _⟩ := pr_sl (vr_p (hx ▸ hm' x hmx))
    exact ⟨_, hrun a w ad _ cap hv, vr_mk (.int _ _)⟩
  · rename_i hx
    refine ⟨_, h, EvOk.ans fun g f' a w hm' => ?_⟩
    have h1 := vr_p (hx ▸ hm' x hmx)
    generalize hv : a.eval x = v at h1
    cases h1
    exact ⟨_, hrun a w none 0 0 hv, vr_mk (.int _ _)⟩
  · rename_i b hx
    split at h
    · rename_i e et' xs hb
      refine ⟨_, h, EvOk.of fun F g tm' bk' a w hnb' ht hbk hT hW hdn hfr => ?_⟩
      obtain ⟨p, ad, cap, hp, hv, hcap, hesz, hlen, hne⟩ := VR.own_slice (hx ▸ mem_op hT ht hmx) hW ((hbk b (by simp)).trans hb)
      exact ⟨_, w, g, .inl (hrun a w ad _ cap hv), Gh.le_refl g, fun b p h => .inl h, vr_mk (.int _ _), hW⟩
    · cases h
  · rename_i b lo hi hx
    refine ⟨_, h, EvOk.ans fun g f' a w hm' => ?_⟩
    obtain ⟨p, ad, cap, hp, hv, hcap, _⟩ := (hx ▸ hm' x hmx : VR g (.lf (.osl b lo hi)) (a.eval x)).osl
    exact ⟨_, hrun a w ad _ cap hv, vr_mk (.int _ _)⟩
  · cases h

theorem minL_ok {g : Gh} {k : IntKind} {w : World} : ∀ {l : List AV} {vs : List Value} {x m : Int}, minL k x l = some m → VRs g l vs → (vs.foldlM Builtin.min2 (Value.int k x)).run P w = .ok (.int k m) w
  | [], [], x, m, h, _ => by simp [minL] at h; subst h; rfl
  | [], _ :: _, _, _, _, h => h.elim
  | _ :: _, [], _, _, _, h => h.elim
  | a :: l, v :: vs, x, m, h, hv => by
    unfold minL at h
    split at h
    · rename_i h1 h2; cases h2
    · rename_i y r x' k' y' h1 h2
      cases h2
      have e1 := vr_int (VR.of1 hv.1)
      subst e1
      rw [List.foldlM_cons, Sem.run_bind]
      simp only [Builtin.min2, Sem.run_pure, Result.andThen_ok]
      exact minL_ok h hv.2
    · cases h
theorem maxL_ok {g : Gh} {k : IntKind} {w : World} : ∀ {l : List AV} {vs : List Value} {x m : Int}, maxL k x l = some m → VRs g l vs → (vs.foldlM Builtin.max2 (Value.int k x)).run P w = .ok (.int k m) w
  | [], [], x, m, h, _ => by simp [maxL] at h; subst h; rfl
  | [], _ :: _, _, _, _, h => h.elim
  | _ :: _, [], _, _, _, h => h.elim
  | a :: l, v :: vs, x, m, h, hv => by
    unfold maxL at h
    split at h
    · rename_i h1 h2; cases h2
    · rename_i y r x' k' y' h1 h2
      cases h2
      have e1 := vr_int (VR.of1 hv.1)
      subst e1
      rw [List.foldlM_cons, Sem.run_bind]
      simp only [Builtin.max2, Sem.run_pure, Result.andThen_ok]
      exact maxL_ok h hv.2
    · cases h
end
end Go.Proofs.YtbjkpogfgijmaaaGreat
