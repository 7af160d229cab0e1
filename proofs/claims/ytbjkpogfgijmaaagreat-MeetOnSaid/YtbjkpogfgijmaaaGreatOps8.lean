/- Closures and calls. -/
import Derived.Test.YtbjkpogfgijmaaaGreatOps7
namespace Go.Proofs.YtbjkpogfgijmaaaGreat
open Go Go.RowKit
set_option linter.unusedVariables false
set_option linter.unusedSimpArgs false

theorem scal_leaf {g g' : Gh} {l : Leaf} {v : Value} (h : l.scal = true) (hv : LR g l v) : LR g' l v := by
  unfold Leaf.scal at h
  split at h
  · cases hv with
    | p _ _ hp => cases hp; exact .p _ _ (.int _ _)
  · cases hv with
    | p _ _ hp => cases hp; exact .p _ _ (.bool _)
  · cases h
theorem scal_vr1 {g g' : Gh} {a : AV} {v : Value} (h : a.scal1 = true) (hv : VR1 g a v) : VR1 g' a v := by
  cases a with
  | lf l => exact scal_leaf h hv
  | st ls =>
    obtain ⟨cs, h1, h2, h3⟩ := hv
    refine ⟨cs, h1, ⟨h2.1, fun j l v hl hv' => scal_leaf ?_ (h2.2 j l v hl hv')⟩, h3⟩
    simp only [AV.scal1, List.all_eq_true] at h
    exact h l (List.mem_of_getElem? hl)
  | tup vs => exact hv
theorem scal_vrs {g g' : Gh} : ∀ {as : List AV} {vs : List Value}, as.all AV.scal1 = true → VRs g as vs → VRs g' as vs
  | [], [], _, _ => trivial
  | [], _ :: _, _, h => h.elim
  | _ :: _, [], _, h => h.elim
  | a :: as, v :: vs, h, hv => by
    simp only [List.all_cons, Bool.and_eq_true] at h
    exact ⟨scal_vr1 h.1 hv.1, scal_vrs h.2 hv.2⟩
theorem scal_vr {g g' : Gh} {a : AV} {v : Value} (h : a.scal = true) (hv : VR g a v) : VR g' a v := by
  cases a with
  | lf l => exact scal_leaf h hv
  | st ls => exact scal_vr1 (a := .st ls) h hv
  | tup vs => obtain ⟨xs, h1, h2⟩ := hv; exact ⟨xs, h1, scal_vrs h h2⟩
theorem scal_out {m : Imm} {w w' : World} {a : AV} {v : Value} (h : a.scal = true) (hv : OutR m w w' a v) : VR (Gh.of m) a v := by
  unfold OutR at hv
  split at hv
  · cases h
  · simp [AV.scal, AV.scal1, Leaf.scal] at h
  · exact hv

theorem frzA_vr1 {bk : BId → Option Blk} {g : Gh} {a : AV} {v : Value} {x : AV × List BId} (h : frzA bk a = some x) (hv : VR g a v) : VR1 g a v := by
  cases a with
  | lf l => exact hv
  | st ls => exact hv
  | tup vs => simp [frzA] at h
theorem frzAs_vrs {bk : BId → Option Blk} {g : Gh} {tm : List (Nat × AV)} {a : Act} : ∀ {xs : List Operand} {y : List AV × List BId}, frzAs bk (xs.map (evA tm)) = some y → (∀ x ∈ xs, VR g (evA tm x) (a.eval x)) → VRs g (xs.map (evA tm)) (xs.map a.eval)
  | [], _, _, _ => trivial
  | x :: xs, y, h, hv => by
    simp only [List.map_cons, frzAs, Option.bind_eq_some_iff] at h
    obtain ⟨p, h1, q, h2, _⟩ := h
    exact ⟨frzA_vr1 h1 (hv x (by simp)), frzAs_vrs h2 (fun x hx => hv x (by simp [hx]))⟩
theorem VRs.append {g : Gh} : ∀ {as bs : List AV} {vs us : List Value}, VRs g as vs → VRs g bs us → VRs g (as ++ bs) (vs ++ us)
  | [], _, [], _, _, h => h
  | [], _, _ :: _, _, h, _ => h.elim
  | _ :: _, _, [], _, h, _ => h.elim
  | _ :: _, _, _ :: _, _, h, k => ⟨h.1, VRs.append h.2 k⟩
theorem caps_vrs {g : Gh} : ∀ {caps : List (List PL)} {cv : List Value}, caps.length = cv.length → (∀ (j : Nat) l v, caps[j]? = some l → cv[j]? = some v → ImmAt g.imm l 0 v) → VRs g (capAVs caps) cv
  | [], [], _, _ => trivial
  | [], _ :: _, h, _ => by simp at h
  | _ :: _, [], h, _ => by simp at h
  | c :: caps, v :: cv, h, hi => ⟨LR.imm _ _ _ (hi 0 c v rfl rfl), caps_vrs (by simpa using h) (fun j l v h1 h2 => hi (j + 1) l v (by simpa using h1) (by simpa using h2))⟩

theorem VR.clo {g : Gh} {f : FuncId} {caps : List (List PL)} {v : Value} (h : VR g (.lf (.clo f caps)) v) :
    ∃ cv : List Value, v = .func (.func f) #[] cv.toArray ∧ caps.length = cv.length ∧ ∀ (j : Nat) l v, caps[j]? = some l → cv[j]? = some v → ImmAt g.imm l 0 v := by
  have h1 : LR g (.clo f caps) v := h
  cases h1 with
  | clo _ _ cv h2 h3 => exact ⟨cv, rfl, h2, h3⟩

section
variable {P : Program} {nt : Nat} {nb : Bool} {tm : List (Nat × AV)} {bk : BId → Option Blk} {ep : Nat} {o : Oper} {R : Type} {C : Ctx} {K : Ev → Option R} {r : R}

theorem capsOf_ok {F : Fr} {g : Gh} {bk' : BId → Option Blk} {w : World} (hW : WR F g bk' w) {a : Act} {cs : List BId} : ∀ {xs : List Operand} {y : List (List PL) × List BId}, capsOf bk (xs.map (evA tm)) = some y → (∀ b ∈ y.2, bk' b = bk b) → (∀ b ∈ y.2, b ∈ cs) → (∀ x ∈ xs, VR g (evA tm x) (a.eval x)) →
    y.1.length = (xs.map a.eval).length ∧ (∀ (j : Nat) l v, y.1[j]? = some l → (xs.map a.eval)[j]? = some v → ImmAt (frzM g w cs) l 0 v) ∧ ∀ b ∈ y.2, ∃ x, bk' b = some x
  | [], y, h, hb, hs, hv => by
    simp [capsOf] at h; subst h
    exact ⟨rfl, fun j l v h => by simp at h, by simp⟩
  | x :: xs, y, h, hb, hs, hv => by
    rw [List.map_cons] at h
    unfold capsOf at h
    split at h
    · rename_i hx; cases hx
    · rename_i b r hx
      simp only [List.cons.injEq] at hx
      obtain ⟨hx, rfl⟩ := hx
      split at h
      · rename_i ls hbk
        simp only [Option.bind_eq_some_iff, Option.some.injEq] at h
        obtain ⟨f, hf, y', hy', rfl⟩ := h
        obtain ⟨h1, h2, h3⟩ := capsOf_ok hW hy' (fun b hbm => hb b (by simp [hbm])) (fun b hbm => hs b (by simp [hbm])) (fun x hx => hv x (by simp [hx]))
        have hb' := (hb b (by simp)).trans hbk
        refine ⟨by simp [h1], fun j => ?_, fun b' hbm => ?_⟩
        · cases j with
          | succ j => intro l v k1 k2; exact h2 j l v (by simpa using k1) (by simpa using k2)
          | zero =>
            intro l v k1 k2
            simp at k1 k2; subst k1 k2
            have hvx := hv x (by simp)
            rw [hx] at hvx
            obtain ⟨p, hp, hpv⟩ := hvx.ref
            obtain ⟨p', hp', hn, hbase, hesz, hlen, cs', hcs, hrow, _⟩ := hW.blk b _ hb'
            rw [hp] at hp'; obtain rfl := Option.some.inj hp'
            have hi := (hW.live b _ p hb' hp hn).1
            rw [pls_some hf] at hrow
            refine ⟨p.blk, 0, cs', cs'.toList, by rw [hpv, hbase], frzM_at (hs b (by simp)) hp hn hi hcs, fun j u hu => by simpa using hu, (row_lvs.1 hrow).mono (frzM_mono g w cs)⟩
        · simp only [List.mem_cons] at hbm
          rcases hbm with rfl | hbm
          · exact ⟨_, hb'⟩
          · exact h3 b' hbm
      · cases h
    · cases h

theorem ok_makeFunc {f : FuncId} {first caps : Array Operand} (ho : o.op = .makeFunc (.func f) first caps) (hfirst : first.toList = []) {c : List (List PL) × List BId} (hc : capsOf bk (caps.toList.map (evA tm)) = some c)
    (hnb : (nb || c.2.isEmpty) = true) : EvOk P nt nb (lk tm) bk ep o ⟨.lf (.clo f c.1), dead c.2, c.2⟩ := by
  refine EvOk.of fun F g tm' bk' a w hnb' ht hbk hT hW hdn hfr => ?_
  have hfe : first = #[] := by simpa using hfirst
  obtain ⟨h1, h2, h3⟩ := capsOf_ok hW (cs := c.2) hc hbk (fun b h => h) (fun x hx => mem_op hT ht (by simp only [ho, Op.operands]; simp; exact .inr (by simpa using hx)))
  have hbor : F.bor = none ∨ c.2 = [] := by
    rw [Bool.or_eq_true] at hnb
    rcases hnb with h1 | h1
    · exact .inl (hnb' h1)
    · exact .inr (List.isEmpty_iff.1 h1)
  refine ⟨_, w, ⟨frzM g w c.2, g.map⟩, .inl ?_, ⟨frzM_mono g w _, fun _ _ h => h⟩, fun b p h => .inl h, LR.clo f c.1 (caps.toList.map a.eval) h1 h2, hW.freeze hbor h3⟩
  simp [execOp, ho, Instr.makeFunc, hfe]
  apply Array.ext'; simp

theorem enter_run {c : Call} {fo : Operand} {q : FuncId} {cv : List Value} {fn : Func} {a : Act} {w : World} (ho : o.op = .call c) (hcal : c.callee = .value fo) (hf : a.eval fo = .func (.func q) #[] cv.toArray)
    (h1 : P.funcs[q]? = some fn) (h2 : fn.body.isNone = false) (h3 : (fn.name == "runtime.NumGoroutine") = false) :
    (execOp a.eval o).run P w = .ok (.enter q (c.args.toList.map a.eval ++ cv).toArray) w := by
  simp only [execOp, ho, resolve, hcal, hf, Deferred.ofValue, Sem.run_bind, Sem.run_pure, Result.andThen_ok, invoke, callFunc, run_program, h1, h3, h2]
  simp

/-- A result that was made for the caller becomes a row of the caller's own. -/
theorem thaw_ok {F : Fr} {g : Gh} {bk' : BId → Option Blk} {w w' : World} {m' : Imm} (hW : WR F ⟨m', g.map⟩ bk' w') (hsz : F.w0.heap.size ≤ w.heap.size) (hold : ∀ b x p, bk' b = some x → g.map b = some p → p.isNil = false → p.blk < w.heap.size) {id : BId} (hf : g.map id = none) {out : AV} {v : Value} (hv : OutR m' w w' out v) :
    ∃ g', (⟨m', g.map⟩ : Gh).le g' ∧ (∀ b p, g'.map b = some p → g.map b = some p ∨ b = id) ∧ VR g' (thaw id out).1 v ∧ WR F g' (upB bk' (thaw id out).2) w' := by
  have hfresh : ∀ {e : ETy} {et : TypeId} {xs : List e.T} {v : Value}, FreshR m' w w' e et xs v → ∃ g', (⟨m', g.map⟩ : Gh).le g' ∧ (∀ b p, g'.map b = some p → g.map b = some p ∨ b = id) ∧ LR g' (.own id) v ∧ WR F g' (upB bk' [(id, some (.arr e et xs))]) w' := by
    intro e et xs v hv
    have hmapadd : ∀ (p : Pl) b q, ((⟨m', g.map⟩ : Gh).add id p).map b = some q → g.map b = some q ∨ b = id := by
      intro p b q h
      simp only [Gh.add] at h
      split at h
      · exact .inr ‹_›
      · exact .inl h
    have hself : ∀ p, ((⟨m', g.map⟩ : Gh).add id p).map id = some p := fun p => by simp [Gh.add]
    rcases hv with ⟨rfl, rfl⟩ | ⟨k, cap, cs, vs, rfl, h1, h2, h3, h4, h5, h6, h7, h8⟩
    · refine ⟨(⟨m', g.map⟩ : Gh).add id ⟨0, 0, e.sz, 0, true, none, et⟩, Gh.le_add hf, hmapadd _, LR.ownN _ _ (hself _) rfl, ?_⟩
      exact hW.add hf ⟨rfl, rfl, rfl, .inl ⟨rfl, rfl⟩⟩ (fun h => by cases h) (fun h => by cases h) (fun h => by cases h)
    · have hle := Gh.le_add (g := ⟨m', g.map⟩) (b := id) (p := ⟨k, 0, e.sz, xs.length, false, some cap, et⟩) hf
      refine ⟨(⟨m', g.map⟩ : Gh).add id ⟨k, 0, e.sz, xs.length, false, some cap, et⟩, hle, hmapadd _, LR.own _ ⟨k, 0, e.sz, xs.length, false, some cap, et⟩ cap (hself _) rfl h3 (fun c hc => Option.some.inj hc), ?_⟩
      refine hW.add hf ⟨rfl, rfl, rfl, .inr ⟨rfl, cs, vs, h2, h7, fun j u hu => by simpa using h8 j u hu, ?_, fun c hc => ?_⟩⟩ (fun _ => ⟨h6, Nat.le_trans hsz h1, fun b x p hx hp hn he => ?_⟩) (fun _ k' c n hk he => ?_) (fun _ _ => rfl)
      · have := Nat.mul_le_mul_right e.sz h3; simp only [Nat.zero_add]; omega
      · have := Option.some.inj hc; subst this; exact ⟨rfl, h4, h5⟩
      · have := hold b x p hx hp hn; simp only at he; omega
      · obtain ⟨cs0, cs1, t, a1, _⟩ := hW.frame.bor k' c n hk
        have := (Array.getElem?_eq_some_iff.1 a1).1
        simp only at he; omega
  unfold OutR at hv
  split at hv
  · exact hfresh hv
  · rename_i e et xs r
    obtain ⟨v0, vs, rfl, h1, h2⟩ := hv
    obtain ⟨g', k1, k2, k3, k4⟩ := hfresh h1
    refine ⟨g', k1, k2, ⟨_, rfl, ?_⟩, k4⟩
    show VRs g' (.lf (.own id) :: r) (v0 :: vs)
    exact ⟨k3, h2.mono (Gh.le_trans (Gh.of_le m' g.map) k1)⟩
  · rename_i h1 h2
    have e1 : thaw id out = (out, []) := by
      unfold thaw
      split
      · exact absurd rfl (h1 _ _ _)
      · exact absurd rfl (h2 _ _ _ _)
      · rfl
    rw [e1]
    exact ⟨⟨m', g.map⟩, Gh.le_refl _, fun b p h => .inl h, hv.mono (Gh.of_le m' g.map), hW⟩

theorem ints_of {m : Imm} : ∀ {xs : List Int} {vs : List Value}, PRow m (flat (.i .u32) xs) vs → vs = ints xs
  | [], [], _ => rfl
  | [], _ :: _, h => by have := h.1; simp [flat] at this
  | _ :: _, [], h => by have := h.1; simp [flat, ETy.enc] at this
  | x :: xs, v :: vs, h => by
    have h1 : PR m (.int .u32 x) v := h.2 0 _ _ rfl rfl
    cases h1
    have : PRow m (flat (.i .u32) xs) vs := ⟨by have := h.1; simpa [flat, ETy.enc] using this, fun j l v h1 h2 => h.2 (j + 1) l v (by simpa [flat, ETy.enc] using h1) (by simpa using h2)⟩
    rw [ints_of this]; rfl
theorem prow_ints (m : Imm) : ∀ xs : List Int, PRow m (flat (.i .u32) xs) (ints xs)
  | [] => ⟨rfl, fun j l v h => by simp [flat] at h⟩
  | x :: xs => by
    have ih := prow_ints m xs
    refine ⟨by have := ih.1; simpa [flat, ETy.enc, ints] using this, fun j => ?_⟩
    cases j with
    | zero =>
      intro l v h1 h2
      simp [flat, ETy.enc, ints] at h1 h2; subst h1 h2; exact .int _ _
    | succ j => intro l v h1 h2; exact ih.2 j l v (by simpa [flat, ETy.enc] using h1) (by simpa [ints] using h2)

theorem evCallF_ok (hC : CtxOk P C) (hnbC : C.nb = nb) {c : Call} {fo : Operand} {q : FuncId} {caps : List (List PL)} {d : Nat} (ho : o.op = .call c) (hcal : c.callee = .value fo) (hd : o.dst = some d) (hfo : evA tm fo = .lf (.clo q caps))
    (h : evCallF C bk (d, ep) q caps (c.args.toList.map (evA tm)) K = some r) : ∃ e, K e = some r ∧ EvOk P nt nb (lk tm) bk ep o e := by
  have hmf : fo ∈ o.op.operands.toList := by simp [ho, Op.operands, Call.operands, hcal]
  have hma : ∀ x ∈ c.args.toList, x ∈ o.op.operands.toList := fun x hx => by simp [ho, Op.operands, Call.operands, hcal]; exact .inr (by simpa using hx)
  unfold evCallF at h
  cases hmut : C.mutf q with
  | false =>
    rw [hmut] at h
    simp only [cond_false] at h
    obtain ⟨as, has, h⟩ := Option.bind_eq_some_iff.1 h
    obtain ⟨hnb, h⟩ := cond_some h
    obtain ⟨fn, hfn, hbody, hname⟩ := hC.body q _ _ _ h
    obtain ⟨out, h, hcall⟩ := hC.call q _ _ _ h
    -- the call itself
    have main : ∀ (F : Fr) (g : Gh) (tm' : Nat → AV) (bk' : BId → Option Blk) (a : Act) (w : World) (next : Act → World → Prop) (Q : Exit → Act → World → Prop), (∀ t ∈ tmpsOf o.op.operands.toList, tm' t = lk tm t) → (∀ b ∈ as.2, bk' b = bk b) → TR nt g tm' a → WR F g bk' w →
        (∀ v m' w', (∀ k cs, frzM g w as.2 k = some cs → m' k = some cs) → (∀ k cs, m' k = some cs → frzM g w as.2 k = some cs ∨ w.heap.size ≤ k) → ImmIn m' w' → OutR m' w w' out v → Below w.heap.size w w' → (∀ b ∈ as.2, ∃ x, bk' b = some x) → next (a.put o.dst v) w') → o.wp P a w next Q := by
      intro F g tm' bk' a w next Q ht hbk hT hW hnext
      obtain ⟨cv, hcv, hcl, hci⟩ := (hfo ▸ mem_op hT ht hmf : VR g (.lf (.clo q caps)) (a.eval fo)).clo
      have hargs := frzAs_vrs (g := g) (a := a) has (fun x hx => mem_op hT ht (hma x hx))
      obtain ⟨hargs2, hlive⟩ := frzAs_ok hW (cs := as.2) has hbk (fun b h => h) hargs
      have hcaps : VRs (Gh.of (frzM g w as.2)) (capAVs caps) cv := caps_vrs hcl (fun j l v h1 h2 => (hci j l v h1 h2).mono (frzM_mono g w as.2))
      have hrun := enter_run (P := P) (w := w) ho hcal hcv hfn hbody hname
      unfold Oper.wp
      rw [hrun]
      refine (hcall (frzM g w as.2) w _ (hW.frz_imm as.2) (hargs2.append hcaps)).mono fun e w' he => ?_
      obtain ⟨v, m', rfl, h1, h2, h3, h4, h5⟩ := he
      exact hnext v m' w' h1 h2 h3 h4 h5 hlive
    cases hs : out.scal with
    | true =>
      rw [hs] at h
      simp only [cond_true] at h
      refine ⟨_, h, fun F g tm' bk' a w next Q hnb' ht hbk hT hW hdn hfr hnext => main F g tm' bk' a w next Q ht hbk hT hW fun v m' w' h1 h2 h3 h4 h5 _ => ?_⟩
      exact hnext g _ w' (Gh.le_refl g) (fun b p h => .inl h) (hT.put hdn (scal_vr hs (scal_out hs h4))) (hW.below h5)
    | false =>
      rw [hs] at h
      simp only [cond_false] at h
      refine ⟨_, h, fun F g tm' bk' a w next Q hnb' ht hbk hT hW hdn hfr hnext => main F g tm' bk' a w next Q ht (fun b hb => hbk b (by simp [hb])) hT hW fun v m' w' h1 h2 h3 h4 h5 hlive => ?_⟩
      have hbor : F.bor = none ∨ as.2 = [] := by
        rw [Bool.or_eq_true] at hnb
        rcases hnb with h1 | h1
        · exact .inl (hnb' (hnbC ▸ h1))
        · exact .inr (List.isEmpty_iff.1 h1)
      have hW1 := hW.freeze hbor hlive
      have hW2 := hW1.grow (m := m') h5 h1 h2 h3
      obtain ⟨g', k1, k2, k3, k4⟩ := thaw_ok (g := g) hW2 hW.frame.size (fun b x p hx hp hn => by
        rw [upB_dead] at hx
        split at hx
        · cases hx
        · obtain ⟨p', hp', hbr⟩ := hW.blk b x hx
          rw [hp] at hp'; obtain rfl := Option.some.inj hp'
          exact hbr.lt hn) (hfr d hd) h4
      have hle : g.le g' := Gh.le_trans (b := ⟨m', g.map⟩) ⟨fun k cs hk => h1 k cs (frzM_mono g w as.2 k cs hk), fun _ _ h => h⟩ k1
      refine hnext g' _ w' hle (fun b p h => (k2 b p h).imp_right fun e => ⟨d, hd, e⟩) ((hT.mono hle).put hdn k3) ?_
      show WR F g' (upB bk' ((thaw (d, ep) out).2 ++ dead as.2)) w'
      rw [upB_append]; exact k4
  | true =>
    rw [hmut] at h
    simp only [cond_true] at h
    split at h
    · rename_i x rest hargsE
      split at h
      · rename_i b lo hi et e xs hrange
        split at h
        · rename_i he; subst he
          obtain ⟨hc, h⟩ := cond_some h
          simp only [Bool.and_eq_true, decide_eq_true_eq] at hc
          obtain ⟨hu32, hc⟩ := hc
          have hu32 := Nat.eq_of_beq_eq_true hu32
          obtain ⟨rs, hrs, h⟩ := Option.bind_eq_some_iff.1 h
          split at h
          · rename_i hnone
            obtain ⟨fn, hfn, hbody, hname⟩ := hC.mbody q _ _ _ _ h
            obtain ⟨out, seg', h, hsc, hcall⟩ := hC.mcall q _ _ _ _ h
            refine ⟨_, h, fun F g tm' bk' a w next Q hnb' ht hbk hT hW hdn hfr hnext => ?_⟩
            obtain ⟨cv, hcv, hcl, hci⟩ := (hfo ▸ mem_op hT ht hmf : VR g (.lf (.clo q [])) (a.eval fo)).clo
            have hcv0 : cv = [] := by cases cv with | nil => rfl | cons => simp at hcl
            subst hcv0
            -- the arguments
            cases hal : c.args.toList with
            | nil => rw [hal] at hargsE; cases hargsE
            | cons x0 xr =>
              rw [hal, List.map_cons] at hargsE
              simp only [List.cons.injEq] at hargsE
              obtain ⟨rfl, rfl⟩ := hargsE
              have hx0 : VR g (evA tm x0) (a.eval x0) := mem_op hT ht (hma x0 (by simp [hal]))
              have hrest := frzAs_vrs (g := g) (a := a) hrs (fun x hx => mem_op hT ht (hma x (by simp [hal, hx])))
              obtain ⟨hrest2, _⟩ := frzAs_ok hW (cs := rs.2) hrs (by rw [hnone]; simp) (fun b h => h) hrest
              rw [hnone, frzM_nil] at hrest2
              have hb' : bk' b = bk b := hbk b (by simp)
              -- where the row lies
              have hplace : ∃ p cap, bk b = some (.arr (.i .u32) et xs) ∧ g.map b = some p ∧ p.isNil = false ∧ a.eval x0 = .slice (some ⟨p.blk, p.base + lo, none⟩) (hi - lo) cap ∧ hi - lo ≤ cap := by
                unfold ownRange at hrange
                split at hrange
                · rename_i b0 hxe
                  split at hrange
                  · rename_i e1 et1 xs1 hb1
                    simp only [Option.some.injEq, Prod.mk.injEq] at hrange
                    obtain ⟨rfl, rfl, rfl, rfl, hsig⟩ := hrange
                    cases hsig
                    obtain ⟨p, ad, cap, hp, hv, hcap, hesz, hplen, hne⟩ := VR.own_slice (hxe ▸ hx0) hW (hb'.trans hb1)
                    obtain ⟨rfl, hn⟩ := hne (by intro e; rw [e] at hc; simp at hc)
                    exact ⟨p, cap, hb1, hp, hn, by simpa using hv, by simpa using hcap⟩
                  · cases hrange
                · rename_i b0 lo0 hi0 hxe
                  split at hrange
                  · rename_i e1 et1 xs1 hb1
                    simp only [Option.some.injEq, Prod.mk.injEq] at hrange
                    obtain ⟨rfl, rfl, rfl, rfl, hsig⟩ := hrange
                    cases hsig
                    obtain ⟨p, ad, cap, hp, hv, hcap, hne⟩ := (hxe ▸ hx0 : VR g (.lf (.osl _ _ _)) (a.eval x0)).osl
                    obtain ⟨rfl, hn⟩ := hne hc.1
                    obtain ⟨p', hp', hesz, _⟩ := hW.blk _ _ (hb'.trans hb1)
                    rw [hp] at hp'; obtain rfl := Option.some.inj hp'
                    exact ⟨p, cap, hb1, hp, hn, by rw [hv, hesz]; simp [ETy.sz], hcap⟩
                  · cases hrange
                · cases hrange
              obtain ⟨p, cap, hb1, hp, hn, hv, hcap⟩ := hplace
              obtain ⟨p', hp', hesz, hplen, hpty, hor⟩ := hW.blk b _ (hb'.trans hb1)
              rw [hp] at hp'; obtain rfl := Option.some.inj hp'
              rcases hor with ⟨hnil, _⟩ | ⟨_, cs, vs, hcs, hrow, hat, hbd, hcapd⟩
              · rw [hn] at hnil; cases hnil
              have hvs := ints_of hrow
              subst hvs
              have him := (hW.live b _ p (hb'.trans hb1) hp hn).1
              have hsl : ((List.take hi (castE rfl xs)).drop lo).length = hi - lo := by simp; omega
              have hrun := enter_run (P := P) (w := w) ho hcal hcv hfn hbody hname
              have hbd' : p.base + xs.length ≤ cs.size := by simpa [ETy.sz] using hbd
              unfold Oper.wp
              rw [hrun, hal]
              simp only [List.map_cons, List.append_nil, hv]
              have hgetseg : ∀ (j : Nat) u, (ints ((List.take hi (castE rfl xs)).drop lo))[j]? = some u → cs[p.base + lo + j]? = some u := by
                intro j u hu
                rw [Nat.add_assoc]; refine hat _ _ ?_
                simp only [ints, castE_self, List.getElem?_map, List.getElem?_drop, List.getElem?_take] at hu ⊢
                split at hu
                · exact hu
                · cases hu
              have hmo := hcall g.imm w (xr.map a.eval) p.blk (p.base + lo) cap cs hW.imm hrest2 (hu32 ▸ hcs) him (by rw [hsl]; omega) (by rw [hsl]; omega) hgetseg (by rw [hsl]; exact hcap)
              rw [hsl] at hmo
              refine hmo.mono fun e w' he => ?_
              obtain ⟨v, cs', rfl, hlen, h1, h2, h3, h4, h5, h6, h7, h8, h9, h10⟩ := he
              rw [← hu32] at h2
              have hnl : (List.take lo xs ++ seg' ++ List.drop hi xs).length = xs.length := by simp; omega
              refine hnext g _ w' (Gh.le_refl g) (fun b p h => .inl h) (hT.put hdn (scal_vr hsc h1)) (hW.write' (hb'.trans hb1) hp hn hcs h3 (fun j hj => ?_) h6 h7 h8 h9 h2 h10 ⟨hesz, hplen.trans hnl.symm, hpty, .inr ⟨hn, cs', ints (List.take lo xs ++ seg' ++ List.drop hi xs), h2, prow_ints _ _, fun j u hu => ?_, ?_, fun c' hc' => ?_⟩⟩)
              · rw [hesz, hplen] at hj
                exact h4 j (by simp only [ETy.sz, Nat.mul_one] at hj; omega)
              · simp only [ints, List.getElem?_map, List.getElem?_append, List.length_append, List.length_take] at hu
                by_cases hj : j < min lo xs.length + seg'.length
                · rw [if_pos hj] at hu
                  by_cases hj2 : j < min lo xs.length
                  · rw [if_pos hj2, List.getElem?_take, if_pos (by omega)] at hu
                    rw [h4 _ (by omega)]
                    exact hat j u (by simpa [ints] using hu)
                  · rw [if_neg hj2] at hu
                    have := h5 (j - min lo xs.length) u (by simpa [ints] using hu)
                    rw [← this]; congr 1; omega
                · rw [if_neg hj, List.getElem?_drop] at hu
                  rw [h4 _ (by omega)]
                  refine hat j u ?_
                  simp only [ints, List.getElem?_map]
                  rw [← hu]; congr 2; omega
              · simp only [castE_self]; rw [h3, hnl]; exact hbd
              · rw [h3]; exact hcapd c' hc'
          · cases h
        · cases h
      · cases h
    · cases h
end
end Go.Proofs.YtbjkpogfgijmaaaGreat
