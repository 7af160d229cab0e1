/- WRITTEN BY rowgen.py: the law LookaheadSpeeds: for every input the call returns true and each argument reads behind it as before. -/
import Derived.Test.YtbjkpogfgijmaaaRows
import Derived.Test.YtbjkpogfgijmaaaWLookaheadSpeeds
import Derived.Test.YtbjkpogfgijmaaaRowTry
import Derived.Test.YtbjkpogfgijmaaaRow2
import Derived.Test.YtbjkpogfgijmaaaLawLookaheadSpeeds
namespace Go.Proofs.Ytbjkpogfgijmaaa
open Go Go.RowKit Go.Proofs
open Go.ChangeShapes Go.WideShapes Go.ChangeAt
set_option linter.unusedVariables false
set_option linter.unusedSimpArgs false
set_option maxRecDepth 100000 in
theorem lookaheadSpeeds_lifted (os : Os) (started : os.Started) (H : Type) (enc : TypeId × Value → H) :
    ReturnsInHanded {} Try.checked os 7 .any (Rows.lookaheadSpeedsSpec.pre6 enc Try.prog Try.f7 Rows.lookaheadSpeedsRow.domain false) (Rows.lookaheadSpeedsSpec.post enc Try.prog Try.f7 false true false false) := by
  refine returnsInHanded_of_change_sized (C := Try.checked) ownK started (by kernel_rfl) Try.func7
    (ChangeSpec.witness6 (enc := enc) (C := Try.checked) false ⟨#[], #[.slice none 0 0, .int .i64 0], []⟩ 8 (by kernel_rfl) (by kernel_rfl) (by kernel_rfl) (by kernel_rfl)) ?_
  intro W base args ds gs before hval0 hW hcnd hsz0 _
  have hsz : (DataW.weightsEach Try.prog (Try.f7.params.toList ++ Rows.lookaheadSpeedsSpec.plain.varTypes Try.prog) (ds ++ gs)).all (· ≤ reachBytes) = true := hsz0
  have hval : ∀ (j : Nat) t v, Try.f7.params[j]? = some t → args[j]? = some v → Value.okWide Try.prog W .any base t v := hval0
  have hW' := hW
  obtain ⟨p, q, hA0, hV, rfl, hfz, hnd⟩ := hW
  have hA : DataW.TrodAll enc Try.prog W 0 (fun _ => true) true Try.f7.params.toList args.toList ds p := hA0
  rw [Try.params7] at hA hval hsz
  obtain ⟨v0, vs0, d0, ds0, p0, q0, hargs, rfl, rfl, h0, r0⟩ := trodAll_cons hA
  obtain ⟨v1, vs1, d1, ds1, p1, q1, rfl, rfl, rfl, h1, r1⟩ := trodAll_cons r0
  obtain ⟨rfl, rfl, rfl⟩ := trodAll_nil r1
  obtain rfl : args = #[v0, v1] := by cases args; simp_all
  obtain ⟨rfl, rfl⟩ := trodVars_none hV
  have k0 := h0
  have lt0 : ∀ x ∈ p0, x.block < W.heap.size := by obtain ⟨m, hm⟩ := k0; exact DataW.trod_lt m _ _ _ hm
  obtain ⟨a0, wa0, va0⟩ := arg_sl op_parts (okWide_slice Try.underlying42 (hval 0 42 v0 rfl rfl)) h0
  have k1 := h1
  have lt1 : ∀ x ∈ p1, x.block < W.heap.size := by obtain ⟨m, hm⟩ := k1; exact DataW.trod_lt m _ _ _ hm
  obtain ⟨a1, wa1, va1⟩ := arg_int op_i64_2 (okWide_int Try.underlying2 (hval 1 2 v1 rfl rfl)) h1
  have hz0 := sl_sized Try.underlying42 h0 va0 hsz (j := 0) rfl rfl
  rw [show Try.prog.bytesOf 95 = 24 by kernel_rfl] at hz0
  obtain ⟨k, hk⟩ := law_LookaheadSpeeds a0 a1 wa0 (wf_i64 wa1) (reach_parts hz0)
  refine ((swarflaw48_LookaheadSpeeds_ok k (a0, a1, ()) true hk) (startImm W) W [v0, v1] (startImm_in W) ⟨va0, va1, trivial⟩).mono fun e W' ⟨v, m', he, _, _, _, hout, bel⟩ => ?_
  have hv : v = .bool true := by
    have h1 : LR (Gh.of m') (.p (.bool true)) v := hout
    cases h1 with
    | p _ _ h2 => cases h2; rfl
  subst hv
  subst he
  exact ⟨_, rfl, _, _, _, [], _, [], hW', trodAll_mk1 (shut_bool Try.underlying4 _), (trodAll_cons_mk (Below.trod laidOutP (by kernel_rfl) (of_decide_eq_true (by kernel_rfl)) k0 bel lt0) (trodAll_cons_mk (Below.trod laidOutP (by kernel_rfl) (of_decide_eq_true (by kernel_rfl)) k1 bel lt1) trodAll_mk0)), rfl, bel.frame _, fun h => by cases h⟩
theorem lookaheadSpeeds_inPlace : (Rows.lookaheadSpeedsRow.inPlace == Try.prog.inPlace 7) = true := by kernel_rfl
theorem lookaheadSpeeds_unfollowed : (Rows.lookaheadSpeedsRow.unfollowed == Try.prog.unfollowed 7) = true := by kernel_rfl
theorem lookaheadSpeeds_recurses : (Rows.lookaheadSpeedsRow.recurses == Try.prog.recurses 7) = true := by kernel_rfl
theorem lookaheadSpeeds_named : (Rows.lookaheadSpeedsRow.named == Try.prog.varsNamed 7) = true := by kernel_rfl
set_option maxRecDepth 100000 in
theorem lookaheadSpeeds_facts : joinedFacts Try.prog 7 Try.f7 Rows.lookaheadSpeedsSpec Rows.lookaheadSpeedsRow = true := by
  unfold joinedFacts
  rw [lookaheadSpeeds_inPlace, lookaheadSpeeds_unfollowed, lookaheadSpeeds_recurses, lookaheadSpeeds_named]
  kernel_rfl
theorem lookaheadSpeeds_func : Try.prog.funcNamed Rows.lookaheadSpeedsRow.func = some 7 := by kernel_rfl
theorem lookaheadSpeeds_inst : Try.f7.isInstance Try.prog Rows.lookaheadSpeedsRow.origin Rows.lookaheadSpeedsRow.targs := of_decide_eq_true (by kernel_rfl)
theorem lookaheadSpeeds_wrap : Try.f7.isWrapper Try.prog Rows.lookaheadSpeedsRow.wrapper Rows.lookaheadSpeedsRow.mainSum := by
  unfold Func.isWrapper; first | (rw [if_pos (by decide +kernel)]; kernel_rfl) | (rw [if_neg (by decide +kernel)]; exact ⟨rfl, rfl⟩)
theorem lookaheadSpeeds_holds : Rows.LookaheadSpeedsSaid :=
  OpenClaim.holds_of_wide 7 Try.f7 rfl rfl rfl rfl rfl rfl rfl ⟨rfl, rfl, rfl, rfl, rfl⟩ rfl rfl rfl rfl rfl lookaheadSpeeds_func Try.func7 lookaheadSpeeds_facts lookaheadSpeeds_inst lookaheadSpeeds_wrap
    (fun os started H enc _ => lookaheadSpeeds_lifted os started H enc)
#print axioms lookaheadSpeeds_holds
end Go.Proofs.Ytbjkpogfgijmaaa
