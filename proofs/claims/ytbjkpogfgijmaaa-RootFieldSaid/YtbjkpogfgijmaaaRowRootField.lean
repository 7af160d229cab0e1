/- WRITTEN BY rowgen.py: the law RootField: for every input the call returns true and each argument reads behind it as before. -/
import Derived.Test.YtbjkpogfgijmaaaRows
import Derived.Test.YtbjkpogfgijmaaaWRootField
import Derived.Test.YtbjkpogfgijmaaaRowTry
import Derived.Test.YtbjkpogfgijmaaaLawRootField
namespace Go.Proofs.Ytbjkpogfgijmaaa
open Go Go.RowKit Go.Proofs
open Go.ChangeShapes Go.WideShapes Go.ChangeAt
set_option linter.unusedVariables false
set_option linter.unusedSimpArgs false
set_option maxRecDepth 100000 in
theorem rootField_lifted (os : Os) (started : os.Started) (H : Type) (enc : TypeId × Value → H) :
    ReturnsInHanded {} Try.checked os 6 .any (Rows.rootFieldSpec.pre6 enc Try.prog Try.f6 Rows.rootFieldRow.domain false) (Rows.rootFieldSpec.post enc Try.prog Try.f6 false true false false) := by
  refine returnsInHanded_of_change (C := Try.checked) ownK started (by kernel_rfl) Try.func6
    (ChangeSpec.witness6 (enc := enc) (C := Try.checked) false ⟨#[], #[.agg #[.int .i16 0, .int .i16 0, .int .u16 0, .int .u8 0, .int .u8 0, .int .u8 0, .int .i16 0, .int .i16 0, .int .u16 0, .int .u8 0, .int .u8 0, .int .u8 0, .int .i16 0, .int .i16 0, .int .u16 0, .int .u8 0, .int .u8 0, .int .u8 0]], []⟩ 8 (by kernel_rfl) (by kernel_rfl) (by kernel_rfl) (by kernel_rfl)) ?_
  intro W base args ds gs before hval0 hW hcnd _
  have hval : ∀ (j : Nat) t v, Try.f6.params[j]? = some t → args[j]? = some v → Value.okWide Try.prog W .any base t v := hval0
  have hW' := hW
  obtain ⟨p, q, hA0, hV, rfl, hfz, hnd⟩ := hW
  have hA : DataW.TrodAll enc Try.prog W 0 (fun _ => true) true Try.f6.params.toList args.toList ds p := hA0
  rw [Try.params6] at hA hval
  obtain ⟨v0, vs0, d0, ds0, p0, q0, hargs, rfl, rfl, h0, r0⟩ := trodAll_cons hA
  obtain ⟨rfl, rfl, rfl⟩ := trodAll_nil r0
  obtain rfl : args = #[v0] := by cases args; simp_all
  obtain ⟨rfl, rfl⟩ := trodVars_none hV
  have k0 := h0
  have lt0 : ∀ x ∈ p0, x.block < W.heap.size := by obtain ⟨m, hm⟩ := k0; exact DataW.trod_lt m _ _ _ hm
  obtain ⟨cs0, rfl, hsz0⟩ := okWide_array Try.underlying52 (hval 0 52 v0 rfl rfl)
  obtain ⟨a0, wa0, va0⟩ := arg_st op_surds h0
  obtain ⟨k, hk⟩ := law_RootField a0 wa0
  refine ((swarflaw03_RootField_ok k (a0, ()) true hk) (startImm W) W [.agg cs0] (startImm_in W) ⟨va0, trivial⟩).mono fun e W' ⟨v, m', he, _, _, _, hout, bel⟩ => ?_
  have hv : v = .bool true := by
    have h1 : LR (Gh.of m') (.p (.bool true)) v := hout
    cases h1 with
    | p _ _ h2 => cases h2; rfl
  subst hv
  subst he
  exact ⟨_, rfl, _, _, _, [], _, [], hW', trodAll_mk1 (shut_bool Try.underlying4 _), (trodAll_cons_mk (Below.trod laidOutP (by kernel_rfl) (of_decide_eq_true (by kernel_rfl)) k0 bel lt0) trodAll_mk0), rfl, bel.frame _, fun h => by cases h⟩
theorem rootField_inPlace : (Rows.rootFieldRow.inPlace == Try.prog.inPlace 6) = true := by kernel_rfl
theorem rootField_unfollowed : (Rows.rootFieldRow.unfollowed == Try.prog.unfollowed 6) = true := by kernel_rfl
theorem rootField_recurses : (Rows.rootFieldRow.recurses == Try.prog.recurses 6) = true := by kernel_rfl
theorem rootField_named : (Rows.rootFieldRow.named == Try.prog.varsNamed 6) = true := by kernel_rfl
set_option maxRecDepth 100000 in
theorem rootField_facts : joinedFacts Try.prog 6 Try.f6 Rows.rootFieldSpec Rows.rootFieldRow = true := by
  unfold joinedFacts
  rw [rootField_inPlace, rootField_unfollowed, rootField_recurses, rootField_named]
  kernel_rfl
theorem rootField_func : Try.prog.funcNamed Rows.rootFieldRow.func = some 6 := by kernel_rfl
theorem rootField_inst : Try.f6.isInstance Try.prog Rows.rootFieldRow.origin Rows.rootFieldRow.targs := of_decide_eq_true (by kernel_rfl)
theorem rootField_wrap : Try.f6.isWrapper Try.prog Rows.rootFieldRow.wrapper Rows.rootFieldRow.mainSum := by
  unfold Func.isWrapper; first | (rw [if_pos (by decide +kernel)]; kernel_rfl) | (rw [if_neg (by decide +kernel)]; exact ⟨rfl, rfl⟩)
theorem rootField_holds : Rows.RootFieldSaid :=
  OpenClaim.holds_of_wide 6 Try.f6 rfl rfl rfl rfl rfl rfl rfl ⟨rfl, rfl, rfl, rfl, rfl⟩ rfl rfl rfl rfl rfl rootField_func Try.func6 rootField_facts rootField_inst rootField_wrap
    (fun os started H enc _ => rootField_lifted os started H enc)
#print axioms rootField_holds
end Go.Proofs.Ytbjkpogfgijmaaa
