/- WRITTEN BY rowgen.py: the law LookaheadCorner: for every input the call returns true and each argument reads behind it as before. -/
import Derived.Test.YtbjkpogfgijmaaaGreatRows
import Derived.Test.YtbjkpogfgijmaaaGreatWLookaheadCorner
import Derived.Test.YtbjkpogfgijmaaaGreatRowTryz
import Derived.Test.YtbjkpogfgijmaaaGreatLawLookaheadCorner
namespace Go.Proofs.YtbjkpogfgijmaaaGreat
open Go Go.RowKit Go.Proofs
open Go.ChangeShapes Go.WideShapes Go.ChangeAt
set_option linter.unusedVariables false
set_option linter.unusedSimpArgs false
set_option maxRecDepth 100000 in
theorem lookaheadCorner_lifted (os : Os) (started : os.Started) (H : Type) (enc : TypeId × Value → H) :
    ReturnsInHanded {} Tryz.checked os 18 .any (Rows.lookaheadCornerSpec.pre6 enc Tryz.prog Tryz.f18 Rows.lookaheadCornerRow.domain false) (Rows.lookaheadCornerSpec.post enc Tryz.prog Tryz.f18 false true false false) := by
  refine returnsInHanded_of_change (C := Tryz.checked) ownK started (by kernel_rfl) Tryz.func18
    (ChangeSpec.witness6 (enc := enc) (C := Tryz.checked) false ⟨#[], #[.agg #[.int .i64 0, .int .i64 0, .int .i64 0], .agg #[.int .i64 0, .int .i64 0, .int .i64 0], .int .i64 0], []⟩ 8 (by kernel_rfl) (by kernel_rfl) (by kernel_rfl) (by kernel_rfl)) ?_
  intro W base args ds gs before hval0 hW hcnd _
  have hval : ∀ (j : Nat) t v, Tryz.f18.params[j]? = some t → args[j]? = some v → Value.okWide Tryz.prog W .any base t v := hval0
  have hW' := hW
  obtain ⟨p, q, hA0, hV, rfl, hfz, hnd⟩ := hW
  have hA : DataW.TrodAll enc Tryz.prog W 0 (fun _ => true) true Tryz.f18.params.toList args.toList ds p := hA0
  rw [Tryz.params18] at hA hval
  obtain ⟨v0, vs0, d0, ds0, p0, q0, hargs, rfl, rfl, h0, r0⟩ := trodAll_cons hA
  obtain ⟨v1, vs1, d1, ds1, p1, q1, rfl, rfl, rfl, h1, r1⟩ := trodAll_cons r0
  obtain ⟨v2, vs2, d2, ds2, p2, q2, rfl, rfl, rfl, h2, r2⟩ := trodAll_cons r1
  obtain ⟨rfl, rfl, rfl⟩ := trodAll_nil r2
  obtain rfl : args = #[v0, v1, v2] := by cases args; simp_all
  obtain ⟨rfl, rfl⟩ := trodVars_none hV
  have k0 := h0
  have lt0 : ∀ x ∈ p0, x.block < W.heap.size := by obtain ⟨m, hm⟩ := k0; exact DataW.trod_lt m _ _ _ hm
  obtain ⟨cs0, rfl, hsz0⟩ := okWide_struct Tryz.underlying107 (hval 0 107 v0 rfl rfl)
  obtain ⟨a0, wa0, va0⟩ := arg_st op_pos h0
  have k1 := h1
  have lt1 : ∀ x ∈ p1, x.block < W.heap.size := by obtain ⟨m, hm⟩ := k1; exact DataW.trod_lt m _ _ _ hm
  obtain ⟨cs1, rfl, hsz1⟩ := okWide_struct Tryz.underlying107 (hval 1 107 v1 rfl rfl)
  obtain ⟨a1, wa1, va1⟩ := arg_st op_pos h1
  have k2 := h2
  have lt2 : ∀ x ∈ p2, x.block < W.heap.size := by obtain ⟨m, hm⟩ := k2; exact DataW.trod_lt m _ _ _ hm
  obtain ⟨a2, wa2, va2⟩ := arg_int op_i64_2 (okWide_int Tryz.underlying2 (hval 2 2 v2 rfl rfl)) h2
  obtain ⟨k, hk⟩ := law_LookaheadCorner a0 a1 a2 wa0 wa1 (wf_i64 wa2)
  refine ((swarflaw48_LookaheadCorner_ok k (a0, a1, a2, ()) true hk) (startImm W) W [.agg cs0, .agg cs1, v2] (startImm_in W) ⟨va0, va1, va2, trivial⟩).mono fun e W' ⟨v, m', he, _, _, _, hout, bel⟩ => ?_
  have hv : v = .bool true := by
    have h1 : LR (Gh.of m') (.p (.bool true)) v := hout
    cases h1 with
    | p _ _ h2 => cases h2; rfl
  subst hv
  subst he
  exact ⟨_, rfl, _, _, _, [], _, [], hW', trodAll_mk1 (shut_bool Tryz.underlying4 _), (trodAll_cons_mk (Below.trod laidOutP (by kernel_rfl) (of_decide_eq_true (by kernel_rfl)) k0 bel lt0) (trodAll_cons_mk (Below.trod laidOutP (by kernel_rfl) (of_decide_eq_true (by kernel_rfl)) k1 bel lt1) (trodAll_cons_mk (Below.trod laidOutP (by kernel_rfl) (of_decide_eq_true (by kernel_rfl)) k2 bel lt2) trodAll_mk0))), rfl, bel.frame _, fun h => by cases h⟩
theorem lookaheadCorner_inPlace : (Rows.lookaheadCornerRow.inPlace == Tryz.prog.inPlace 18) = true := by kernel_rfl
theorem lookaheadCorner_unfollowed : (Rows.lookaheadCornerRow.unfollowed == Tryz.prog.unfollowed 18) = true := by kernel_rfl
theorem lookaheadCorner_recurses : (Rows.lookaheadCornerRow.recurses == Tryz.prog.recurses 18) = true := by kernel_rfl
theorem lookaheadCorner_named : (Rows.lookaheadCornerRow.named == Tryz.prog.varsNamed 18) = true := by kernel_rfl
set_option maxRecDepth 100000 in
theorem lookaheadCorner_facts : joinedFacts Tryz.prog 18 Tryz.f18 Rows.lookaheadCornerSpec Rows.lookaheadCornerRow = true := by
  unfold joinedFacts
  rw [lookaheadCorner_inPlace, lookaheadCorner_unfollowed, lookaheadCorner_recurses, lookaheadCorner_named]
  kernel_rfl
theorem lookaheadCorner_func : Tryz.prog.funcNamed Rows.lookaheadCornerRow.func = some 18 := by kernel_rfl
theorem lookaheadCorner_inst : Tryz.f18.isInstance Tryz.prog Rows.lookaheadCornerRow.origin Rows.lookaheadCornerRow.targs := of_decide_eq_true (by kernel_rfl)
theorem lookaheadCorner_wrap : Tryz.f18.isWrapper Tryz.prog Rows.lookaheadCornerRow.wrapper Rows.lookaheadCornerRow.mainSum := by
  unfold Func.isWrapper; first | (rw [if_pos (by decide +kernel)]; kernel_rfl) | (rw [if_neg (by decide +kernel)]; exact ⟨rfl, rfl⟩)
theorem lookaheadCorner_holds : Rows.LookaheadCornerSaid :=
  OpenClaim.holds_of_wide 18 Tryz.f18 rfl rfl rfl rfl rfl rfl rfl ⟨rfl, rfl, rfl, rfl, rfl⟩ rfl rfl rfl rfl rfl lookaheadCorner_func Tryz.func18 lookaheadCorner_facts lookaheadCorner_inst lookaheadCorner_wrap
    (fun os started H enc _ => lookaheadCorner_lifted os started H enc)
#print axioms lookaheadCorner_holds
end Go.Proofs.YtbjkpogfgijmaaaGreat
