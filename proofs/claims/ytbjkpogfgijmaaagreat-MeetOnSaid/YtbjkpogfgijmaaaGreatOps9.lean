/- Every operation that the interpreter knows comes to the event that it says. -/
import Derived.Test.YtbjkpogfgijmaaaGreatOps8
namespace Go.Proofs.YtbjkpogfgijmaaaGreat
open Go Go.RowKit
set_option linter.unusedVariables false
set_option linter.unusedSimpArgs false

section
variable {P : Program} {nt : Nat} {nb : Bool} {tm : List (Nat × AV)} {bk : BId → Option Blk} {ep : Nat} {o : Oper} {R : Type} {C : Ctx} {K : Ev → Option R} {r : R}

theorem headD_cons {l : List TypeId} {t : TypeId} (h : l.head? = some t) : ∃ r, l = t :: r := by
  cases l with
  | nil => simp at h
  | cons a r => simp at h; subst h; exact ⟨r, rfl⟩
theorem args_one {c : Call} {v : AV} (h : c.args.toList.map (evA tm) = [v]) : ∃ x, c.args = #[x] ∧ v = evA tm x := by
  cases hl : c.args.toList with
  | nil => rw [hl] at h; cases h
  | cons x r => cases r with
    | nil => rw [hl] at h; simp at h; exact ⟨x, by apply Array.ext'; simpa using hl, h.symm⟩
    | cons => rw [hl] at h; simp at h
theorem args_two {c : Call} {u v : AV} (h : c.args.toList.map (evA tm) = [u, v]) : ∃ x y, c.args = #[x, y] ∧ u = evA tm x ∧ v = evA tm y := by
  cases hl : c.args.toList with
  | nil => rw [hl] at h; cases h
  | cons x r => cases r with
    | nil => rw [hl] at h; simp at h
    | cons y r => cases r with
      | nil => rw [hl] at h; simp at h; exact ⟨x, y, by apply Array.ext'; simpa using hl, h.1.symm, h.2.symm⟩
      | cons => rw [hl] at h; simp at h
theorem vrs_of1 {g : Gh} {a : Act} : ∀ {xs : List Operand}, (∀ x ∈ xs, VR1 g (evA tm x) (a.eval x)) → VRs g (xs.map (evA tm)) (xs.map a.eval)
  | [], _ => trivial
  | x :: xs, h => ⟨h x (by simp), vrs_of1 (fun y hy => h y (by simp [hy]))⟩
theorem minL_lf {k : IntKind} : ∀ {l : List AV} {x m : Int}, minL k x l = some m → ∀ a ∈ l, ∃ k' y, a = .lf (.p (.int k' y))
  | [], _, _, _, _, h => by simp at h
  | b :: l, x, m, h, a, ha => by
    unfold minL at h
    split at h
    · rename_i h1 h2; cases h2
    · rename_i y r x' k' y' h1 h2
      cases h2
      rcases List.mem_cons.1 ha with rfl | ha
      · exact ⟨_, _, rfl⟩
      · exact minL_lf h a ha
    · cases h
theorem maxL_lf {k : IntKind} : ∀ {l : List AV} {x m : Int}, maxL k x l = some m → ∀ a ∈ l, ∃ k' y, a = .lf (.p (.int k' y))
  | [], _, _, _, _, h => by simp at h
  | b :: l, x, m, h, a, ha => by
    unfold maxL at h
    split at h
    · rename_i h1 h2; cases h2
    · rename_i y r x' k' y' h1 h2
      cases h2
      rcases List.mem_cons.1 ha with rfl | ha
      · exact ⟨_, _, rfl⟩
      · exact maxL_lf h a ha
    · cases h

theorem evBuiltin_ok (hty : TyOk P C.ty) (hnb : C.nb = nb) {c : Call} {b : Builtin} {d : Nat} (ho : o.op = .call c) (hcal : c.callee = .builtin b) (hd : o.dst = some d)
    (h : evBuiltin C bk (d, ep) b c.argTypes.toList (c.args.toList.map (evA tm)) K = some r) : ∃ e, K e = some r ∧ EvOk P nt nb (lk tm) bk ep o e := by
  unfold evBuiltin at h
  split at h
  · rename_i v hargs
    obtain ⟨hst, h⟩ := cond_some h
    obtain ⟨x, hx, rfl⟩ := args_one hargs
    exact evLen_ok hty (ats := c.argTypes) ho hcal hx hst h
  · rename_i u v hargs
    split at h
    · rename_i t t' hats
      obtain ⟨hc, h2⟩ := cond_some h
      clear h
      simp only [Bool.and_eq_true] at hc
      have he := Nat.eq_of_beq_eq_true hc.1
      subst he
      obtain ⟨x, y, hxy, rfl, rfl⟩ := args_two hargs
      exact evAppend_ok hty ho hcal hxy (by apply Array.ext'; simpa using hats) hd (hnb ▸ hc.2) h2
    · cases h
  · rename_i k x rest hargs
    obtain ⟨m, hm, h⟩ := Option.bind_eq_some_iff.1 h
    refine ⟨_, h, EvOk.ans fun g f' a w hh => ?_⟩
    cases hl : c.args.toList with
    | nil => rw [hl] at hargs; cases hargs
    | cons y r =>
      rw [hl, List.map_cons] at hargs
      simp only [List.cons.injEq] at hargs
      obtain ⟨hy, rfl⟩ := hargs
      have hmem : ∀ z ∈ y :: r, z ∈ o.op.operands.toList := fun z hz => by
        have : z ∈ c.args.toList := by rw [hl]; exact hz
        simp [ho, Op.operands, Call.operands, hcal]; simpa using this
      have hyv := vr_int (hy ▸ hh y (hmem y (by simp)))
      have hrs : VRs g (r.map (evA tm)) (r.map a.eval) := vrs_of1 fun z hz => by
        obtain ⟨k', n, he⟩ := minL_lf hm (evA tm z) (List.mem_map.2 ⟨z, hz, rfl⟩)
        have := hh z (hmem z (by simp [hz]))
        rw [he] at this ⊢; exact this
      have hrun := minL_ok (P := P) (w := w) hm hrs
      refine ⟨_, ?_, vr_mk (.int k m)⟩
      have hal : (c.args.map a.eval).toList = a.eval y :: r.map a.eval := by simp [hl]
      simp only [execOp, ho, resolve, hcal, invoke, builtin, Sem.run_bind, Sem.run_pure, Result.andThen_ok, Builtin.min_, hal, hyv, hrun]
  · rename_i k x rest hargs
    obtain ⟨m, hm, h⟩ := Option.bind_eq_some_iff.1 h
    refine ⟨_, h, EvOk.ans fun g f' a w hh => ?_⟩
    cases hl : c.args.toList with
    | nil => rw [hl] at hargs; cases hargs
    | cons y r =>
      rw [hl, List.map_cons] at hargs
      simp only [List.cons.injEq] at hargs
      obtain ⟨hy, rfl⟩ := hargs
      have hmem : ∀ z ∈ y :: r, z ∈ o.op.operands.toList := fun z hz => by
        have : z ∈ c.args.toList := by rw [hl]; exact hz
        simp [ho, Op.operands, Call.operands, hcal]; simpa using this
      have hyv := vr_int (hy ▸ hh y (hmem y (by simp)))
      have hrs : VRs g (r.map (evA tm)) (r.map a.eval) := vrs_of1 fun z hz => by
        obtain ⟨k', n, he⟩ := maxL_lf hm (evA tm z) (List.mem_map.2 ⟨z, hz, rfl⟩)
        have := hh z (hmem z (by simp [hz]))
        rw [he] at this ⊢; exact this
      have hrun := maxL_ok (P := P) (w := w) hm hrs
      refine ⟨_, ?_, vr_mk (.int k m)⟩
      have hal : (c.args.map a.eval).toList = a.eval y :: r.map a.eval := by simp [hl]
      simp only [execOp, ho, resolve, hcal, invoke, builtin, Sem.run_bind, Sem.run_pure, Result.andThen_ok, Builtin.max_, hal, hyv, hrun]
  · cases h

theorem evOp_ok (hC : CtxOk P C) (hnb : C.nb = nb) (h : evOp C (evA tm) bk ep o K = some r) : ∃ e, K e = some r ∧ EvOk P nt nb (lk tm) bk ep o e := by
  have hty := hC.ty
  unfold evOp at h
  cases ho : o.op <;> rw [ho] at h <;> (try dsimp only at h) <;> try (cases h; done)
  case move x => exact ⟨_, h, ok_move (.inl ho)⟩
  case assign x => exact ⟨_, h, ok_move (.inr ho)⟩
  case pick c a b =>
    split at h
    · rename_i t hc
      cases t with
      | true => exact ⟨_, h, ok_pick (t := true) ho hc⟩
      | false => exact ⟨_, h, ok_pick (t := false) ho hc⟩
    · cases h
  case alloc t =>
    split at h
    · rename_i d i hd hi; exact ⟨_, h, ok_alloc hty ho hd hi⟩
    · cases h
  case box t x =>
    split at h
    · rename_i d c hd hc; exact ⟨_, h, ok_box ho hd hc⟩
    · cases h
  case build t parts =>
    obtain ⟨fp, hfp, h⟩ := Option.bind_eq_some_iff.1 h
    obtain ⟨hc, h⟩ := cond_some h
    exact ok_build hty ho hfp (hnb ▸ hc) h
  case buildSlice t n parts =>
    split at h
    · rename_i d e et _ _ _ _ hd hi
      obtain ⟨xs, hx, h⟩ := Option.bind_eq_some_iff.1 h
      obtain ⟨hc, h⟩ := cond_some h
      simp only [Bool.and_eq_true] at hc
      exact ⟨_, h, ok_buildSlice hty ho hd hi hx (Nat.eq_of_beq_eq_true hc.1) (ble_le hc.2)⟩
    · cases h
  case load t x => exact evLoad_ok hty ho h
  case store t x v => exact evStore_ok hty ho h
  case binOp op t x y t' =>
    obtain ⟨l, h1, h2⟩ := evBin_ok (nb := nb) (nt := nt) (bk := bk) (ep := ep) hty ho h
    exact ⟨_, h1, h2⟩
  case unOp op t x =>
    obtain ⟨l, h1, h2⟩ := evUn_ok (P := P) (nb := nb) (nt := nt) (bk := bk) (ep := ep) ho h
    exact ⟨_, h1, h2⟩
  case convert s t x =>
    split at h
    · rename_i i k _ _ _ _ k' n hs ht hx
      refine ⟨_, h, ok_convert ho ?_ ?_ hx⟩
      · have := tiB_td (hty t _ ht)
        unfold tdB at this
        dsimp only at this
        split at this
        · rename_i k1 hk1
          simp only [decide_eq_true_eq] at this
          subst this; exact hk1
        · cases this
      · have := tiB_agg (hty s _ hs)
        unfold aggT at this
        cases hu : P.underlying s with
        | none => rw [hu] at this; cases this
        | some d => rfl
    · cases h
  case makeFunc fn first caps =>
    cases fn <;> dsimp only at h <;> try (cases h; done)
    rename_i f
    split at h
    · rename_i hfirst
      obtain ⟨c, hc, h⟩ := Option.bind_eq_some_iff.1 h
      obtain ⟨hb, h⟩ := cond_some h
      exact ⟨_, h, ok_makeFunc ho hfirst hc (hnb ▸ hb)⟩
    · cases h
  case makeSlice t l c =>
    split at h
    · rename_i d k et _ _ _ _ n m hd hi hl hc
      split at h
      · rename_i ei hei
        obtain ⟨hcond, h⟩ := cond_some h
        simp only [Bool.and_eq_true, decide_eq_true_eq] at hcond
        exact ⟨_, h, ok_makeSlice hty ho hd hi hei hl hc hcond.1 (nblt_lt hcond.2.1) hcond.2.2.1 hcond.2.2.2.1 hcond.2.2.2.2⟩
      · cases h
    · cases h
  case slice t x lo hi mx => exact evSlice_ok hty hnb ho h
  case fieldAddr t x j => exact evFieldAddr_ok hty ho h
  case field t x j =>
    split at h
    · rename_i fs _ _ _ _ ls hi hx
      split at h
      · rename_i off sz agg hj
        obtain ⟨hb, h⟩ := cond_some h
        obtain ⟨v, hv, h⟩ := Option.bind_eq_some_iff.1 h
        exact ⟨_, h, ok_field hty ho hi hx hj (ble_le hb) hv⟩
      · cases h
    · cases h
  case indexAddr t x i => exact evIndexAddr_ok hty ho h
  case index t x i =>
    split at h
    · rename_i n esz eagg _ _ _ _ ls k j hi hx hy
      obtain ⟨hb, h⟩ := cond_some h
      simp only [Bool.and_eq_true] at hb
      obtain ⟨v, hv, h⟩ := Option.bind_eq_some_iff.1 h
      exact ⟨_, h, ok_index hty ho hi hx hy hb.1 (Nat.eq_of_beq_eq_true hb.2) hv⟩
    · cases h
  case extract x j =>
    split at h
    · rename_i vs hx
      split at h
      · rename_i v hv; exact ⟨_, h, ok_extract ho hx hv⟩
      · cases h
    · cases h
  case call c =>
    split at h
    · rename_i b hcal
      split at h
      · rename_i d hd; exact evBuiltin_ok hty hnb ho hcal hd h
      · cases h
    · rename_i f hcal
      split at h
      · rename_i d q caps hd hf; exact evCallF_ok hC hnb ho hcal hd hf h
      · cases h
    · cases h
end
end Go.Proofs.YtbjkpogfgijmaaaGreat
