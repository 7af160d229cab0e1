/- WRITTEN BY rowgen.py: the law RootValid: for every input the call returns true and each argument reads behind it as before. -/
import Derived.Test.YtbjkpogfgijmaaaRows
import Derived.Test.YtbjkpogfgijmaaaWRootValid
import Derived.Test.YtbjkpogfgijmaaaRowTry
import Derived.Test.YtbjkpogfgijmaaaLawRootValid
namespace Go.Proofs.Ytbjkpogfgijmaaa
open Go Go.RowKit Go.Proofs
open Go.ChangeShapes Go.WideShapes Go.ChangeAt
set_option linter.unusedVariables false
set_option linter.unusedSimpArgs false
set_option maxRecDepth 100000 in
theorem rootValid_lifted (os : Os) (started : os.Started) (H : Type) (enc : TypeId × Value → H) :
    ReturnsInHanded {} Try.checked os 4 .any (Rows.rootValidSpec.pre6 enc Try.prog Try.f4 Rows.rootValidRow.domain false) (Rows.rootValidSpec.post enc Try.prog Try.f4 false true false false) := by
  refine returnsInHanded_of_change (C := Try.checked) ownK started (by kernel_rfl) Try.func4
    (ChangeSpec.witness6 (enc := enc) (C := Try.checked) false ⟨#[], #[.agg #[.bool false, .slice none 0 0, .bool false, .slice none 0 0, .bool false, .slice none 0 0, .bool false, .slice none 0 0, .bool false, .slice none 0 0, .bool false, .slice none 0 0]], []⟩ 8 (by kernel_rfl) (by kernel_rfl) (by kernel_rfl) (by kernel_rfl)) ?_
  intro W base args ds gs before hval0 hW hcnd _
  have hval : ∀ (j : Nat) t v, Try.f4.params[j]? = some t → args[j]? = some v → Value.okWide Try.prog W .any base t v := hval0
  have hW' := hW
  obtain ⟨p, q, hA0, hV, rfl, hfz, hnd⟩ := hW
  have hA : DataW.TrodAll enc Try.prog W 0 (fun _ => true) true Try.f4.params.toList args.toList ds p := hA0
  rw [Try.params4] at hA hval
  obtain ⟨v0, vs0, d0, ds0, p0, q0, hargs, rfl, rfl, h0, r0⟩ := trodAll_cons hA
  obtain ⟨rfl, rfl, rfl⟩ := trodAll_nil r0
  obtain rfl : args = #[v0] := by cases args; simp_all
  obtain ⟨rfl, rfl⟩ := trodVars_none hV
  have k0 := h0
  have lt0 : ∀ x ∈ p0, x.block < W.heap.size := by obtain ⟨m, hm⟩ := k0; exact DataW.trod_lt m _ _ _ hm
  obtain ⟨cs0, rfl, hsz0⟩ := okWide_struct Try.underlying30 (hval 0 30 v0 rfl rfl)
  obtain ⟨a0, wa0, va0⟩ := arg_st op_root h0
  obtain ⟨k, hk⟩ := law_RootValid a0 wa0
  refine ((swarflaw03_RootValid_ok k (a0, ()) true hk) (startImm W) W [.agg cs0] (startImm_in W) ⟨va0, trivial⟩).mono fun e W' ⟨v, m', he, _, _, _, hout, bel⟩ => ?_
  have hv : v = .bool true := by
    have h1 : LR (Gh.of m') (.p (.bool true)) v := hout
    cases h1 with
    | p _ _ h2 => cases h2; rfl
  subst hv
  subst he
  exact ⟨_, rfl, _, _, _, [], _, [], hW', trodAll_mk1 (shut_bool Try.underlying4 _), (trodAll_cons_mk (Below.trod laidOutP (by kernel_rfl) (of_decide_eq_true (by kernel_rfl)) k0 bel lt0) trodAll_mk0), rfl, bel.frame _, fun h => by cases h⟩
theorem rootValid_inPlace : (Rows.rootValidRow.inPlace == Try.prog.inPlace 4) = true := by kernel_rfl
theorem rootValid_unfollowed : (Rows.rootValidRow.unfollowed == Try.prog.unfollowed 4) = true := by kernel_rfl
theorem rootValid_recurses : (Rows.rootValidRow.recurses == Try.prog.recurses 4) = true := by kernel_rfl
theorem rootValid_named : (Rows.rootValidRow.named == Try.prog.varsNamed 4) = true := by kernel_rfl
set_option maxRecDepth 100000 in
theorem rootValid_facts : joinedFacts Try.prog 4 Try.f4 Rows.rootValidSpec Rows.rootValidRow = true := by
  unfold joinedFacts
  rw [rootValid_inPlace, rootValid_unfollowed, rootValid_recurses, rootValid_named]
  kernel_rfl
theorem rootValid_func : Try.prog.funcNamed Rows.rootValidRow.func = some 4 := by kernel_rfl
theorem rootValid_inst : Try.f4.isInstance Try.prog Rows.rootValidRow.origin Rows.rootValidRow.targs := of_decide_eq_true (by kernel_rfl)
theorem rootValid_wrap : Try.f4.isWrapper Try.prog Rows.rootValidRow.wrapper Rows.rootValidRow.mainSum := by
  unfold Func.isWrapper; first | (rw [if_pos (by decide +kernel)]; kernel_rfl) | (rw [if_neg (by decide +kernel)]; exact ⟨rfl, rfl⟩)
theorem rootValid_holds : Rows.RootValidSaid :=
  OpenClaim.holds_of_wide 4 Try.f4 rfl rfl rfl rfl rfl rfl rfl ⟨rfl, rfl, rfl, rfl, rfl⟩ rfl rfl rfl rfl rfl rootValid_func Try.func4 rootValid_facts rootValid_inst rootValid_wrap
    (fun os started H enc _ => rootValid_lifted os started H enc)
#print axioms rootValid_holds
end Go.Proofs.Ytbjkpogfgijmaaa
