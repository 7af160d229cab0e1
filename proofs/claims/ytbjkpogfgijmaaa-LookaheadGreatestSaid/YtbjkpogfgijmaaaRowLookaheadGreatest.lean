/- WRITTEN BY rowgen.py: the law LookaheadGreatest: for every input the call returns true and each argument reads behind it as before. -/
import Derived.Test.YtbjkpogfgijmaaaRows
import Derived.Test.YtbjkpogfgijmaaaWLookaheadGreatest
import Derived.Test.YtbjkpogfgijmaaaRowTry
import Derived.Test.YtbjkpogfgijmaaaLawLookaheadGreatest
namespace Go.Proofs.Ytbjkpogfgijmaaa
open Go Go.RowKit Go.Proofs
open Go.ChangeShapes Go.WideShapes Go.ChangeAt
set_option linter.unusedVariables false
set_option linter.unusedSimpArgs false
set_option maxRecDepth 100000 in
theorem lookaheadGreatest_lifted (os : Os) (started : os.Started) (H : Type) (enc : TypeId × Value → H) :
    ReturnsInHanded {} Try.checked os 9 .any (Rows.lookaheadGreatestSpec.pre6 enc Try.prog Try.f9 Rows.lookaheadGreatestRow.domain false) (Rows.lookaheadGreatestSpec.post enc Try.prog Try.f9 false true false false) := by
  refine returnsInHanded_of_change (C := Try.checked) ownK started (by kernel_rfl) Try.func9
    (ChangeSpec.witness6 (enc := enc) (C := Try.checked) false ⟨#[], #[.slice none 0 0, .int .i64 0, .agg #[.int .u16 0, .int .u16 0]], []⟩ 8 (by kernel_rfl) (by kernel_rfl) (by kernel_rfl) (by kernel_rfl)) ?_
  intro W base args ds gs before hval0 hW hcnd _
  have hval : ∀ (j : Nat) t v, Try.f9.params[j]? = some t → args[j]? = some v → Value.okWide Try.prog W .any base t v := hval0
  have hW' := hW
  obtain ⟨p, q, hA0, hV, rfl, hfz, hnd⟩ := hW
  have hA : DataW.TrodAll enc Try.prog W 0 (fun _ => true) true Try.f9.params.toList args.toList ds p := hA0
  rw [Try.params9] at hA hval
  obtain ⟨v0, vs0, d0, ds0, p0, q0, hargs, rfl, rfl, h0, r0⟩ := trodAll_cons hA
  obtain ⟨v1, vs1, d1, ds1, p1, q1, rfl, rfl, rfl, h1, r1⟩ := trodAll_cons r0
  obtain ⟨v2, vs2, d2, ds2, p2, q2, rfl, rfl, rfl, h2, r2⟩ := trodAll_cons r1
  obtain ⟨rfl, rfl, rfl⟩ := trodAll_nil r2
  obtain rfl : args = #[v0, v1, v2] := by cases args; simp_all
  obtain ⟨rfl, rfl⟩ := trodVars_none hV
  have k0 := h0
  have lt0 : ∀ x ∈ p0, x.block < W.heap.size := by obtain ⟨m, hm⟩ := k0; exact DataW.trod_lt m _ _ _ hm
  obtain ⟨a0, wa0, va0⟩ := arg_sl op_parts (okWide_slice Try.underlying42 (hval 0 42 v0 rfl rfl)) h0
  have k1 := h1
  have lt1 : ∀ x ∈ p1, x.block < W.heap.size := by obtain ⟨m, hm⟩ := k1; exact DataW.trod_lt m _ _ _ hm
  obtain ⟨a1, wa1, va1⟩ := arg_int op_i64_2 (okWide_int Try.underlying2 (hval 1 2 v1 rfl rfl)) h1
  have k2 := h2
  have lt2 : ∀ x ∈ p2, x.block < W.heap.size := by obtain ⟨m, hm⟩ := k2; exact DataW.trod_lt m _ _ _ hm
  obtain ⟨cs2, rfl, hsz2⟩ := okWide_array Try.underlying71 (hval 2 71 v2 rfl rfl)
  obtain ⟨a2, wa2, va2⟩ := arg_st op_a2 h2
  obtain ⟨k, hk⟩ := law_LookaheadGreatest a0 a1 a2 wa0 (wf_i64 wa1) ⟨wf_u16 wa2.1, wf_u16 wa2.2⟩
  refine ((swarflaw48_LookaheadGreatest_ok k (a0, a1, a2, ()) true hk) (startImm W) W [v0, v1, .agg cs2] (startImm_in W) ⟨va0, va1, va2, trivial⟩).mono fun e W' ⟨v, m', he, _, _, _, hout, bel⟩ => ?_
  have hv : v = .bool true := by
    have h1 : LR (Gh.of m') (.p (.bool true)) v := hout
    cases h1 with
    | p _ _ h2 => cases h2; rfl
  subst hv
  subst he
  exact ⟨_, rfl, _, _, _, [], _, [], hW', trodAll_mk1 (shut_bool Try.underlying4 _), (trodAll_cons_mk (Below.trod laidOutP (by kernel_rfl) (of_decide_eq_true (by kernel_rfl)) k0 bel lt0) (trodAll_cons_mk (Below.trod laidOutP (by kernel_rfl) (of_decide_eq_true (by kernel_rfl)) k1 bel lt1) (trodAll_cons_mk (Below.trod laidOutP (by kernel_rfl) (of_decide_eq_true (by kernel_rfl)) k2 bel lt2) trodAll_mk0))), rfl, bel.frame _, fun h => by cases h⟩
theorem lookaheadGreatest_inPlace : (Rows.lookaheadGreatestRow.inPlace == Try.prog.inPlace 9) = true := by kernel_rfl
theorem lookaheadGreatest_unfollowed : (Rows.lookaheadGreatestRow.unfollowed == Try.prog.unfollowed 9) = true := by kernel_rfl
theorem lookaheadGreatest_recurses : (Rows.lookaheadGreatestRow.recurses == Try.prog.recurses 9) = true := by kernel_rfl
theorem lookaheadGreatest_named : (Rows.lookaheadGreatestRow.named == Try.prog.varsNamed 9) = true := by kernel_rfl
set_option maxRecDepth 100000 in
theorem lookaheadGreatest_facts : joinedFacts Try.prog 9 Try.f9 Rows.lookaheadGreatestSpec Rows.lookaheadGreatestRow = true := by
  unfold joinedFacts
  rw [lookaheadGreatest_inPlace, lookaheadGreatest_unfollowed, lookaheadGreatest_recurses, lookaheadGreatest_named]
  kernel_rfl
theorem lookaheadGreatest_func : Try.prog.funcNamed Rows.lookaheadGreatestRow.func = some 9 := by kernel_rfl
theorem lookaheadGreatest_inst : Try.f9.isInstance Try.prog Rows.lookaheadGreatestRow.origin Rows.lookaheadGreatestRow.targs := of_decide_eq_true (by kernel_rfl)
theorem lookaheadGreatest_wrap : Try.f9.isWrapper Try.prog Rows.lookaheadGreatestRow.wrapper Rows.lookaheadGreatestRow.mainSum := by
  unfold Func.isWrapper; first | (rw [if_pos (by decide +kernel)]; kernel_rfl) | (rw [if_neg (by decide +kernel)]; exact ⟨rfl, rfl⟩)
theorem lookaheadGreatest_holds : Rows.LookaheadGreatestSaid :=
  OpenClaim.holds_of_wide 9 Try.f9 rfl rfl rfl rfl rfl rfl rfl ⟨rfl, rfl, rfl, rfl, rfl⟩ rfl rfl rfl rfl rfl lookaheadGreatest_func Try.func9 lookaheadGreatest_facts lookaheadGreatest_inst lookaheadGreatest_wrap
    (fun os started H enc _ => lookaheadGreatest_lifted os started H enc)
#print axioms lookaheadGreatest_holds
end Go.Proofs.Ytbjkpogfgijmaaa
