/- Functions: what the interpreter gives is what a call comes to. -/
import Derived.Test.YtbjkpogfgijmaaaGreatCode
namespace Go.Proofs.YtbjkpogfgijmaaaGreat
open Go Go.RowKit
set_option linter.unusedVariables false
set_option linter.unusedSimpArgs false

section
variable {P : Program} {R : Type} {C : Ctx} {r : R}

theorem lk_numbered : ∀ (args : List AV) (n t : Nat), lk (numbered n args) t = if n ≤ t then (args[t - n]?).getD (.lf .undef) else .lf .undef
  | [], n, t => by simp [numbered, lk]
  | v :: r, n, t => by
    show (bif Nat.beq n t then v else lk (numbered (n + 1) r) t) = _
    cases hb : Nat.beq n t with
    | true => have := Nat.eq_of_beq_eq_true hb; subst this; simp
    | false =>
      have hne : n ≠ t := by rintro rfl; rw [Nat.beq_refl] at hb; cases hb
      rw [cond_false, lk_numbered r (n + 1) t]
      by_cases h : n + 1 ≤ t
      · rw [if_pos h, if_pos (by omega), show t - n = (t - (n + 1)) + 1 from by omega, List.getElem?_cons_succ]
      · rw [if_neg h, if_neg (by omega)]
theorem VRs.length {g : Gh} : ∀ {as : List AV} {vs : List Value}, VRs g as vs → as.length = vs.length
  | [], [], _ => rfl
  | [], _ :: _, h => h.elim
  | _ :: _, [], h => h.elim
  | _ :: _, _ :: _, h => congrArg (· + 1) (VRs.length h.2)
theorem VRs.at {g : Gh} : ∀ {as : List AV} {vs : List Value} (t : Nat), VRs g as vs → VR g ((as[t]?).getD (.lf .undef)) (vs.getD t undef)
  | [], [], t, _ => by
    show VR g (([] : List AV)[t]?.getD (.lf .undef)) (([] : List Value).getD t undef)
    simp only [List.getElem?_nil, Option.getD_none]; exact LR.undef _
  | [], _ :: _, _, h => h.elim
  | _ :: _, [], _, h => h.elim
  | a :: as, v :: vs, 0, h => VR.of1 h.1
  | a :: as, v :: vs, t + 1, h => by simpa using VRs.at t h.2
theorem TR.args {g : Gh} {args : List AV} {cargs : List Value} (h : VRs g args cargs) {nt : Nat} (hn : args.length ≤ nt) : TR nt g (lk (numbered 0 args)) { tmps := cargs.toArray ++ Array.replicate (nt - cargs.toArray.size) undef, defers := [] } := by
  have hl := h.length
  refine ⟨by simp; omega, rfl, fun t => ?_⟩
  rw [lk_numbered, if_pos (Nat.zero_le t), Nat.sub_zero]
  have : (cargs.toArray ++ Array.replicate (nt - cargs.toArray.size) undef).getD t undef = cargs.getD t undef := by
    rw [Array.getD_eq_getD_getElem?, List.getD_eq_getElem?_getD, Array.getElem?_append]
    split
    · simp
    · rename_i hlt
      rw [List.getElem?_eq_none (by simpa using hlt), Array.getElem?_replicate]
      split <;> rfl
  show VR g _ ((cargs.toArray ++ Array.replicate (nt - cargs.toArray.size) undef).getD t undef)
  rw [this]; exact h.at t

/-- How a result is read. -/
def resF (tmps : Array Value) (x : ResultVar) : Sem Value := match x with
  | .tmp t => pure (tmps.getD t undef)
  | .cell ad t => do loadVar t (← asAddr (tmps.getD ad undef))
theorem results_eq (fn : Func) (tmps : Array Value) : results fn tmps = (do let vs ← fn.results.mapM (resF tmps); pure (if h : vs.size = 1 then vs[0] else .tuple vs)) := by
  unfold results
  congr 2
theorem resV_ok (hty : TyOk P C.ty) {nt : Nat} {F : Fr} {g : Gh} {st : St} {a : Act} {w : World} (hs : SR nt F g st a w) {x : ResultVar} {v : AV} (h : resV C.ty st x = some v) :
    ∃ u, (resF a.tmps x).run P w = .ok u w ∧ VR g v u := by
  cases x with
  | tmp t => simp [resV] at h; subst h; exact ⟨_, rfl, hs.tr.vals t⟩
  | cell ad t =>
    simp only [resV] at h
    split at h
    · rename_i b hb
      split at h
      · rename_i ls i hbk hi
        obtain ⟨hl, h⟩ := cond_some h
        have hl := Nat.eq_of_beq_eq_true hl
        have hv := hs.tr.vals ad
        rw [hb] at hv
        obtain ⟨p, hp, hpv⟩ := hv.ref
        obtain ⟨p', hp', hn, hbase, hesz, hlen, cs, hcs, hrow, hc1⟩ := hs.wr.blk b _ hbk
        rw [hp] at hp'; obtain rfl := Option.some.inj hp'
        obtain ⟨u, hu, hvu⟩ := load_ok (P := P) (w := w) (g := g) (hty t i hi) (b := p.blk) (off := 0) (ls := ls) (vs := cs.toList) hl hrow hc1 (fun j u hu => by rw [cell_at hcs]; simpa using hu) h
        refine ⟨u, ?_, hvu⟩
        have : (Instr.loadAt t (.pointer (some ⟨p.blk, 0, none⟩))).run P w = (loadVar t ⟨p.blk, 0, none⟩).run P w := by simp [Instr.loadAt, Instr.sureAddr]
        rw [this] at hu
        simp only [resF, hpv, hbase, asAddr, Sem.run_bind, Sem.run_pure, Result.andThen_ok]
        exact hu
      · cases h
    · cases h
theorem resVs_ok (hty : TyOk P C.ty) {nt : Nat} {F : Fr} {g : Gh} {st : St} {a : Act} {w : World} (hs : SR nt F g st a w) : ∀ {xs : List ResultVar} {vs : List AV}, resVs C.ty st xs = some vs →
    ∃ us, (xs.mapM (resF a.tmps)).run P w = .ok us w ∧ us.length = vs.length ∧ ∀ (j : Nat) v u, vs[j]? = some v → us[j]? = some u → VR g v u
  | [], vs, h => by simp [resVs] at h; subst h; exact ⟨[], rfl, rfl, fun j v u h => by simp at h⟩
  | x :: xs, vs, h => by
    simp only [resVs, Option.bind_eq_some_iff, Option.some.injEq] at h
    obtain ⟨v, h1, vs', h2, rfl⟩ := h
    obtain ⟨u, h3, h4⟩ := resV_ok hty hs h1
    obtain ⟨us, h5, h6, h7⟩ := resVs_ok hty hs h2
    refine ⟨u :: us, ?_, by simp [h6], fun j => ?_⟩
    · rw [List.mapM_cons, Sem.run_bind, h3, Result.andThen_ok, Sem.run_bind, h5]; rfl
    · cases j with
      | zero => intro a b h8 h9; simp at h8 h9; subst h8 h9; exact h4
      | succ j => intro a b h8 h9; exact h7 j a b (by simpa using h8) (by simpa using h9)

def resU (us : List Value) : Value := match us with
  | [u] => u
  | us => .tuple us.toArray
/-- A relation of values that are parts of a result. -/
def VRl (g : Gh) (vs : List AV) (us : List Value) : Prop := us.length = vs.length ∧ ∀ (j : Nat) v u, vs[j]? = some v → us[j]? = some u → VR g v u
theorem results_ok (hty : TyOk P C.ty) {nt : Nat} {F : Fr} {g : Gh} {st : St} {a : Act} {w : World} (hs : SR nt F g st a w) {fn : Func} {vs : List AV} (h : resVs C.ty st fn.results.toList = some vs) :
    ∃ us : List Value, VRl g vs us ∧ (results fn a.tmps).run P w = .ok (resU us) w := by
  obtain ⟨us, h1, h2, h3⟩ := resVs_ok hty hs h
  refine ⟨us, ⟨h2, h3⟩, ?_⟩
  rw [results_eq, Sem.run_bind, Array.mapM_eq_mapM_toList, Sem.run_map, h1]
  cases us with
  | nil => rfl
  | cons u us => cases us <;> rfl

theorem frzAs_vrl {bk : BId → Option Blk} {g : Gh} : ∀ {vs : List AV} {us : List Value} {y : List AV × List BId}, frzAs bk vs = some y → VRl g vs us → VRs g vs us
  | [], [], _, _, _ => trivial
  | [], _ :: _, _, _, h => by have := h.1; simp at this
  | _ :: _, [], _, _, h => by have := h.1; simp at this
  | v :: vs, u :: us, y, h, hv => by
    simp only [frzAs, Option.bind_eq_some_iff] at h
    obtain ⟨p, h1, q, h2, _⟩ := h
    exact ⟨frzA_vr1 h1 (hv.2 0 v u rfl rfl), frzAs_vrl h2 ⟨by have := hv.1; simpa using this, fun j v u h3 h4 => hv.2 (j + 1) v u (by simpa using h3) (by simpa using h4)⟩⟩
theorem frzR_vr {bk : BId → Option Blk} {g : Gh} {vs : List AV} {us : List Value} {y : AV × List BId} (h : frzR bk (resOf vs) = some y) (hv : VRl g vs us) : VR g (resOf vs) (resU us) := by
  cases vs with
  | nil =>
    have : us = [] := by have := hv.1; cases us with | nil => rfl | cons => simp at this
    subst this; exact ⟨#[], rfl, trivial⟩
  | cons v vs =>
    cases vs with
    | nil =>
      obtain ⟨u, rfl⟩ : ∃ u, us = [u] := by
        have := hv.1
        cases us with
        | nil => simp at this
        | cons u us => cases us with | nil => exact ⟨u, rfl⟩ | cons => simp at this
      exact hv.2 0 v u rfl rfl
    | cons v2 vs =>
      cases us with
      | nil => have := hv.1; simp at this
      | cons u us =>
        cases us with
        | nil => have := hv.1; simp at this
        | cons u2 us =>
          simp only [resOf, frzR, Option.bind_eq_some_iff] at h
          obtain ⟨p, h1, _⟩ := h
          exact ⟨_, rfl, frzAs_vrl h1 hv⟩
theorem scal_vrl {g : Gh} {vs : List AV} {us : List Value} (hs : (resOf vs).scal = true) (hv : VRl g vs us) : VR g (resOf vs) (resU us) := by
  cases vs with
  | nil =>
    have : us = [] := by have := hv.1; cases us with | nil => rfl | cons => simp at this
    subst this; exact ⟨#[], rfl, trivial⟩
  | cons v vs =>
    cases vs with
    | nil =>
      obtain ⟨u, rfl⟩ : ∃ u, us = [u] := by
        have := hv.1
        cases us with
        | nil => simp at this
        | cons u us => cases us with | nil => exact ⟨u, rfl⟩ | cons => simp at this
      exact hv.2 0 v u rfl rfl
    | cons v2 vs =>
      cases us with
      | nil => have := hv.1; simp at this
      | cons u us =>
        cases us with
        | nil => have := hv.1; simp at this
        | cons u2 us =>
          refine ⟨_, rfl, ?_⟩
          have hs : (v :: v2 :: vs).all AV.scal1 = true := hs
          have : ∀ (vs : List AV) (us : List Value), vs.all AV.scal1 = true → VRl g vs us → VRs g vs us := by
            intro vs
            induction vs with
            | nil => intro us _ h; cases us with | nil => trivial | cons => have := h.1; simp at this
            | cons v vs ih =>
              intro us hs h
              simp only [List.all_cons, Bool.and_eq_true] at hs
              cases us with
              | nil => have := h.1; simp at this
              | cons u us =>
                refine ⟨?_, ih us hs.2 ⟨by have := h.1; simpa using this, fun j v u h3 h4 => h.2 (j + 1) v u (by simpa using h3) (by simpa using h4)⟩⟩
                have h1 := h.2 0 v u rfl rfl
                cases v with
                | lf l => exact h1
                | st ls => exact h1
                | tup vs => have := hs.1; simp [AV.scal1] at this
          exact this _ _ hs hv

theorem frame0_refl (F : Fr) (h : ∀ k b n, F.bor = some (k, b, n) → ∃ cs ty, F.w0.heap[k]? = some (.cells cs ty (0, 0))) : Frame0 F F.w0 :=
  ⟨rfl, rfl, rfl, Nat.le_refl _, fun _ _ _ => rfl, fun k b n hk => by obtain ⟨cs, ty, h1⟩ := h k b n hk; exact ⟨cs, cs, ty, h1, h1, rfl, fun _ _ => rfl⟩⟩

theorem giveV_ok {F : Fr} {g : Gh} {bk : BId → Option Blk} {w : World} (hW : WR F g bk w) (hb : F.bor = none) {ge : ETy} {gt : TypeId} {vs : List AV} {us : List Value} (hv : VRl g vs us) {y : AV × List BId} (h : giveV bk ge gt (resOf vs) = some y) :
    y.2 = [] ∧ OutR g.imm F.w0 w y.1 (resU us) := by
  have hfresh : ∀ {b : BId} {e : ETy} {et : TypeId} {xs : List e.T} {v : Value}, bk b = some (.arr e et xs) → VR g (.lf (.own b)) v → FreshR g.imm F.w0 w e et xs v := by
    intro b e et xs v hbk hv
    obtain ⟨p, hp, h1⟩ := hv.own
    obtain ⟨p', hp', hesz, hlen, hpty, hor⟩ := hW.blk b _ hbk
    rw [hp] at hp'; obtain rfl := Option.some.inj hp'
    rcases h1 with ⟨hn, cap, hv, hc, hce⟩ | ⟨hn, hv⟩
    · rcases hor with ⟨hnil, _⟩ | ⟨_, cs, vs, hcs, hrow, hat, hbd, hcapd⟩
      · rw [hn] at hnil; cases hnil
      obtain ⟨him, hmine, _, hcs'⟩ := hW.live b _ p hbk hp hn
      obtain ⟨cp, hcp⟩ := Option.isSome_iff_exists.1 (hcs' hb)
      obtain ⟨hb0, hsz, hmax⟩ := hcapd cp hcp
      have := hce cp hcp; subst this
      refine .inr ⟨p.blk, cap, cs, vs, by rw [hv, hb0, hlen], ?_, hcs, by omega, hsz, hmax, him, hrow, fun j u hu => by have := hat j u hu; rwa [hb0, Nat.zero_add] at this⟩
      rcases hmine with h1 | ⟨c, n, h1⟩
      · exact h1
      · rw [hb] at h1; cases h1
    · rcases hor with ⟨_, hx⟩ | ⟨hn', _⟩
      · exact .inl ⟨hx, hv⟩
      · rw [hn] at hn'; cases hn'
  have htup : ∀ {v0 : AV} {r : List AV} {yr : List AV × List BId}, resOf vs = .tup (v0 :: r) → frzAs bk r = some yr → yr.2 = [] → ∃ u0 ur, resU us = .tuple (u0 :: ur).toArray ∧ VR g v0 u0 ∧ VRs (Gh.of g.imm) yr.1 ur := by
    intro v0 r yr hres hf hnil
    have hfin : ∀ ur, VRs g r ur → VRs (Gh.of g.imm) yr.1 ur := by
      intro ur hvs
      obtain ⟨h1, _⟩ := frzAs_ok hW (cs := []) hf (by rw [hnil]; simp) (by rw [hnil]; simp) hvs
      rw [frzM_nil] at h1; exact h1
    cases vs with
    | nil => simp [resOf] at hres
    | cons v vs =>
      cases vs with
      | nil =>
        have : v = .tup (v0 :: r) := hres
        subst this
        obtain ⟨u, rfl⟩ : ∃ u, us = [u] := by
          have := hv.1
          cases us with
          | nil => simp at this
          | cons u us => cases us with | nil => exact ⟨u, rfl⟩ | cons => simp at this
        obtain ⟨xs, hu, hxs⟩ := hv.2 0 _ u rfl rfl
        cases hl : xs.toList with
        | nil => rw [hl] at hxs; exact hxs.elim
        | cons u0 ur =>
          rw [hl] at hxs
          refine ⟨u0, ur, ?_, VR.of1 hxs.1, hfin ur hxs.2⟩
          show u = _
          rw [hu, ← hl]
      | cons v2 vs =>
        have hres2 : AV.tup (v :: v2 :: vs) = .tup (v0 :: r) := hres
        simp only [AV.tup.injEq, List.cons.injEq] at hres2
        obtain ⟨rfl, rfl⟩ := hres2
        cases us with
        | nil => have := hv.1; simp at this
        | cons u us =>
          cases us with
          | nil => have := hv.1; simp at this
          | cons u2 us =>
            have hvl : VRl g (v2 :: vs) (u2 :: us) := ⟨by have := hv.1; simpa using this, fun j v u h3 h4 => hv.2 (j + 1) v u (by simpa using h3) (by simpa using h4)⟩
            exact ⟨u, u2 :: us, rfl, hv.2 0 _ u rfl rfl, hfin _ (frzAs_vrl hf hvl)⟩
  unfold giveV at h
  split at h
  · rename_i b hres
    split at h
    · rename_i e et xs hbk
      simp only [Option.some.injEq] at h; subst h
      refine ⟨rfl, ?_⟩
      cases vs with
      | nil => simp [resOf] at hres
      | cons v vs =>
        cases vs with
        | cons => simp [resOf] at hres
        | nil =>
          have : v = .lf (.own b) := hres
          subst this
          obtain ⟨u, rfl⟩ : ∃ u, us = [u] := by
            have := hv.1
            cases us with
            | nil => simp at this
            | cons u us => cases us with | nil => exact ⟨u, rfl⟩ | cons => simp at this
          exact hfresh hbk (hv.2 0 _ u rfl rfl)
    · cases h
  · rename_i b r hres
    split at h
    · rename_i e et xs hbk
      obtain ⟨yr, hyr, h⟩ := Option.bind_eq_some_iff.1 h
      split at h
      · rename_i hnil
        simp only [Option.some.injEq] at h; subst h
        obtain ⟨u0, ur, h1, h2, h3⟩ := htup hres hyr hnil
        exact ⟨rfl, u0, ur, h1, hfresh hbk h2, h3⟩
      · cases h
    · cases h
  · rename_i r hres
    obtain ⟨yr, hyr, h⟩ := Option.bind_eq_some_iff.1 h
    split at h
    · rename_i hnil
      simp only [Option.some.injEq] at h; subst h
      obtain ⟨u0, ur, h1, h2, h3⟩ := htup hres hyr hnil
      refine ⟨rfl, u0, ur, h1, .inl ⟨rfl, ?_⟩, h3⟩
      have := vr_p h2
      cases this; rfl
    · cases h
  · cases h

theorem vr_not_fresh {g : Gh} {e : ETy} {et : TypeId} {xs : List e.T} {v : Value} (h : VR g (.lf (.fresh e et xs)) v) : False := by
  have h1 : LR g (.fresh e et xs) v := h
  cases h1
theorem out_of_vr {m : Imm} {w w' : World} {a : AV} {v : Value} (h : VR (Gh.of m) a v) : OutR m w w' a v := by
  unfold OutR
  split
  · exact (vr_not_fresh h).elim
  · obtain ⟨xs, _, h2⟩ := h
    cases hl : xs.toList with
    | nil => rw [hl] at h2; exact h2.elim
    | cons u us => rw [hl] at h2; exact (vr_not_fresh (VR.of1 h2.1)).elim
  · exact h

theorem frame_below {F : Fr} {w : World} (h : Frame0 F w) (hb : F.bor = none) : Below F.w0.heap.size F.w0 w :=
  ⟨h.os, h.tape, h.output, h.size, fun k hk => h.block k hk (fun b n => by rw [hb]; simp)⟩

/-- A function whose body comes to a result. -/
theorem func_ok (hC : CtxOk P C) (hm : P.follows .mixedOrders = true) (hnb : C.nb = true) {f : FuncId} {fn : Func} {code : Code} (hf : P.funcs[f]? = some fn) (hb : fn.body = some code) (hnt : fn.ntmps = C.nt) {rs : List ResultVar} (hrs : fn.results.toList = rs)
    {give : Option (ETy × TypeId)} {args : List AV} (hlen : args.length ≤ C.nt) {dec : AV → Option R} (h : runF C code rs give args dec = some r) {ox : AV} (hdec : ∀ out, dec out = some r → ∀ m w w' v, OutR m w w' out v → OutR m w w' ox v) : CallOk P f args ox := by
  intro m w cargs hi hv
  have hs0 : SR C.nt ⟨w, m, none⟩ (Gh.of m) ⟨numbered 0 args, [], 0⟩ { tmps := cargs.toArray ++ Array.replicate (fn.ntmps - cargs.toArray.size) undef, defers := [] } w := by
    rw [hnt]
    refine ⟨TR.args hv hlen, ⟨frame0_refl ⟨w, m, none⟩ (fun k b n hk => by cases hk), hi, fun _ _ h => h, fun _ _ h => .inl h, fun b x hx => by simp [lkb] at hx, fun b x p hx => by simp [lkb] at hx, fun b b' x x' p p' hx => by simp [lkb] at hx⟩, fun b p hb => by simp [Gh.of] at hb, fun k c n p hk => by cases hk⟩
  unfold runF at h
  refine calls_of_wp hf hb (wp_mono (cI_ok hC hm code 0 _ _ r h ⟨w, m, none⟩ (fun _ => rfl) _ _ _ hs0) fun x a w' ⟨e, st, g, h1, h2, h3⟩ => ?_)
  have hend : (outV C rs give st).bind dec = some r → a.defers = [] ∧ ∃ v, (results fn a.tmps).run P w' = .ok v w' ∧ ∃ v0 m', Ending.returned v = .returned v0 ∧ (∀ k cs, m k = some cs → m' k = some cs) ∧ (∀ k cs, m' k = some cs → m k = some cs ∨ w.heap.size ≤ k) ∧ ImmIn m' w' ∧ OutR m' w w' ox v0 ∧ Below w.heap.size w w' := by
    intro h2
    refine ⟨h3.tr.defers, ?_⟩
    obtain ⟨out, hout, hdo⟩ := Option.bind_eq_some_iff.1 h2
    unfold outV at hout
    obtain ⟨vs, hvs, hout⟩ := Option.bind_eq_some_iff.1 hout
    obtain ⟨y, hy, hout⟩ := Option.bind_eq_some_iff.1 hout
    obtain rfl := Option.some.inj hout
    rw [← hrs] at hvs
    obtain ⟨us, hvl, hrun⟩ := results_ok (fn := fn) hC.ty h3 hvs
    refine ⟨resU us, hrun, resU us, ?_⟩
    cases give with
    | none =>
      dsimp only at hy
      obtain ⟨h4, h5⟩ := frzR_ok h3.wr (cs := y.2) hy (fun _ _ => rfl) (fun _ h => h) (frzR_vr hy hvl)
      have hW := h3.wr.freeze (.inl rfl) h5
      exact ⟨frzM g w' y.2, rfl, hW.ext, hW.newOnly, hW.imm, hdec _ hdo _ _ _ _ (out_of_vr h4), frame_below h3.wr.frame rfl⟩
    | some gg =>
      obtain ⟨ge, gt⟩ := gg
      dsimp only at hy
      obtain ⟨_, h5⟩ := giveV_ok h3.wr rfl hvl hy
      exact ⟨g.imm, rfl, h3.wr.ext, h3.wr.newOnly, h3.wr.imm, hdec _ hdo _ _ _ _ h5, frame_below h3.wr.frame rfl⟩
  cases e with
  | normal => subst h1; exact hend h2
  | ret => subst h1; exact hend h2
  | exit i => cases h2

/-- A function that writes into the row that its first argument leads to. -/
theorem mut_ok (hC : CtxOk P C) (hm : P.follows .mixedOrders = true) (hnb : C.nb = false) {f : FuncId} {fn : Func} {code : Code} (hf : P.funcs[f]? = some fn) (hb : fn.body = some code) (hnt : fn.ntmps = C.nt) {rs : List ResultVar} (hrs : fn.results.toList = rs)
    {seg sx : List Int} {args : List AV} (hlen : args.length + 1 ≤ C.nt) {dec : AV → List Int → Option R} (h : runM C code rs seg args dec = some r) {ox : AV} (hsc : ox.scal = true)
    (hdec : ∀ out seg', dec out seg' = some r → seg' = sx ∧ ∀ g v, VR g out v → VR g ox v) : MutOk P C.u32 f seg args ox sx := by
  refine ⟨hsc, fun m w cargs k b cap cs hi hv hk hmk hpos hbd hat hcap => ?_⟩
  have hgm : ∀ x p, (⟨m, fun x => if x = (0, 0) then some ⟨k, b, 1, seg.length, false, none, C.u32⟩ else none⟩ : Gh).map x = some p → x = (0, 0) ∧ p = ⟨k, b, 1, seg.length, false, none, C.u32⟩ := by
    intro x p hx
    by_cases h0 : x = (0, 0)
    · simp only [h0, if_true, Option.some.injEq] at hx; exact ⟨h0, hx.symm⟩
    · simp only [h0, if_false] at hx; cases hx
  have hbk : ∀ x y, lkb [((0, 0), some (Blk.arr (.i .u32) C.u32 seg))] x = some y → x = (0, 0) ∧ y = .arr (.i .u32) C.u32 seg := by
    intro x y hx
    by_cases h0 : x = (0, 0)
    · subst h0; exact ⟨rfl, (Option.some.inj hx).symm⟩
    · simp only [lkb, bidEq_false (fun e => h0 e.symm), cond_false] at hx; cases hx
  have hle : (Gh.of m).le ⟨m, fun x => if x = (0, 0) then some ⟨k, b, 1, seg.length, false, none, C.u32⟩ else none⟩ := Gh.of_le _ _
  have hs0 : SR C.nt ⟨w, m, some (k, b, seg.length)⟩ ⟨m, fun x => if x = (0, 0) then some ⟨k, b, 1, seg.length, false, none, C.u32⟩ else none⟩ ⟨numbered 0 (.lf (.own (0, 0)) :: args), [((0, 0), some (.arr (.i .u32) C.u32 seg))], 0⟩
      { tmps := (Value.slice (some ⟨k, b, none⟩) seg.length cap :: cargs).toArray ++ Array.replicate (fn.ntmps - (Value.slice (some ⟨k, b, none⟩) seg.length cap :: cargs).toArray.size) undef, defers := [] } w := by
    rw [hnt]
    refine ⟨TR.args (show VRs _ (AV.lf (.own (0, 0)) :: args) (Value.slice (some ⟨k, b, none⟩) seg.length cap :: cargs) from ⟨LR.own (0, 0) ⟨k, b, 1, seg.length, false, none, C.u32⟩ cap (by simp) rfl hcap (fun c hc => by cases hc), hv.mono hle⟩) (by simpa using hlen), ⟨frame0_refl ⟨w, m, some (k, b, seg.length)⟩ (fun k' b' n hk' => ?_), hi, fun _ _ h => h, fun _ _ h => .inl h, fun x y hx => ?_, fun x y p hx hp hn => ?_, fun x x' y y' p p' hx hx' hp hp' _ _ _ => ?_⟩, fun x p hx => ?_, fun k' c n p hk' hp => ?_⟩
    · simp only [Option.some.injEq, Prod.mk.injEq] at hk'; obtain ⟨rfl, _⟩ := hk'; exact ⟨cs, _, hk⟩
    · obtain ⟨rfl, rfl⟩ := hbk x y hx
      refine ⟨_, by simp; rfl, rfl, rfl, rfl, .inr ⟨rfl, cs, ints seg, hk, prow_ints m seg, hat, by simpa [ETy.sz] using hbd, fun c hc => by cases hc⟩⟩
    · obtain ⟨rfl, rfl⟩ := hbk x y hx
      obtain ⟨_, rfl⟩ := hgm _ _ hp
      refine ⟨hmk, .inr ⟨b, seg.length, rfl⟩, fun k' c n hk' _ => ?_, fun hb => by cases hb⟩
      simp only [Option.some.injEq, Prod.mk.injEq] at hk'
      obtain ⟨_, rfl, rfl⟩ := hk'; exact ⟨rfl, by simp⟩
    · exact ((hbk x y hx).1).trans ((hbk x' y' hx').1).symm
    · obtain ⟨rfl, _⟩ := hgm _ _ hx; exact Nat.le_refl _
    · obtain ⟨_, rfl⟩ := hgm _ _ hp
      simp only [Option.some.injEq, Prod.mk.injEq] at hk'
      exact hk'.1
  unfold runM at h
  refine calls_of_wp hf hb (wp_mono (cI_ok hC hm code 0 _ _ r h ⟨w, m, some (k, b, seg.length)⟩ (fun h => by rw [hnb] at h; cases h) _ _ _ hs0) fun x a w' ⟨e, st, g, h1, h2, h3⟩ => ?_)
  have hend : ((resVs C.ty st rs).bind fun vs => bif (resOf vs).scal then (match lkb st.bk (0, 0) with
        | some (.arr (.i .u32) _ seg') => bif Nat.beq seg'.length seg.length then dec (resOf vs) seg' else none
        | _ => none) else none) = some r → a.defers = [] ∧ ∃ v, (results fn a.tmps).run P w' = .ok v w' ∧ ∃ v0 cs', Ending.returned v = .returned v0 ∧ sx.length = seg.length ∧ VR (Gh.of m) ox v0 ∧ w'.heap[k]? = some (.cells cs' C.u32 (0, 0)) ∧ cs'.size = cs.size ∧
      (∀ j, (j < b ∨ b + seg.length ≤ j) → cs'[j]? = cs[j]?) ∧ (∀ (j : Nat) u, (ints sx)[j]? = some u → cs'[b + j]? = some u) ∧
      w'.os = w.os ∧ w'.tape = w.tape ∧ w'.output = w.output ∧ w.heap.size ≤ w'.heap.size ∧ ∀ i, i < w.heap.size → i ≠ k → w'.heap[i]? = w.heap[i]? := by
    intro h2
    refine ⟨h3.tr.defers, ?_⟩
    obtain ⟨vs, hvs, h2⟩ := Option.bind_eq_some_iff.1 h2
    obtain ⟨hscal, h2⟩ := cond_some h2
    rw [← hrs] at hvs
    obtain ⟨us, hvl, hrun⟩ := results_ok (fn := fn) hC.ty h3 hvs
    split at h2
    · rename_i et' seg' hb0
      obtain ⟨hl0, h2⟩ := cond_some h2
      obtain ⟨rfl, hox⟩ := hdec _ _ h2
      obtain ⟨p, hp, hesz, hplen, hpty, hor⟩ := h3.wr.blk (0, 0) _ hb0
      have hpk : p.blk = k := h3.inv0 k b seg.length p rfl hp
      have hsl := Nat.eq_of_beq_eq_true hl0
      have hne : seg' ≠ [] := by intro h0; subst h0; simp at hsl; omega
      rcases hor with ⟨_, h0⟩ | ⟨hn, cs', vs', hcs', hrow, hat', hbd', _⟩
      · exact absurd h0 hne
      obtain ⟨_, _, hbor, _⟩ := h3.wr.live (0, 0) _ p hb0 hp hn
      obtain ⟨hbase, hplen2⟩ := hbor k b seg.length rfl hpk
      have hvs' := ints_of hrow
      subst hvs'
      obtain ⟨cs0, cs1, ty1, f1, f2, f3, f4⟩ := h3.wr.frame.bor k b seg.length rfl
      have f1' : w.heap[k]? = some (.cells cs0 ty1 (0, 0)) := f1
      rw [hk] at f1'
      simp only [Option.some.injEq, Obj.cells.injEq] at f1'
      obtain ⟨rfl, rfl, _⟩ := f1'
      rw [hpk, f2] at hcs'
      simp only [Option.some.injEq, Obj.cells.injEq] at hcs'
      obtain ⟨rfl, _, _⟩ := hcs'
      refine ⟨resU us, hrun, resU us, cs1, rfl, hsl, hox _ _ (scal_vr hscal (scal_vrl hscal hvl)), f2, f3, f4, fun j u hu => by have := hat' j u hu; rwa [hbase] at this, h3.wr.frame.os, h3.wr.frame.tape, h3.wr.frame.output, h3.wr.frame.size, fun i hi hne => h3.wr.frame.block i hi fun b' n' hb' => ?_⟩
      simp only [Option.some.injEq, Prod.mk.injEq] at hb'
      exact hne hb'.1.symm
    · cases h2
  cases e with
  | normal => subst h1; exact hend h2
  | ret => subst h1; exact hend h2
  | exit i => cases h2
end
end Go.Proofs.YtbjkpogfgijmaaaGreat
