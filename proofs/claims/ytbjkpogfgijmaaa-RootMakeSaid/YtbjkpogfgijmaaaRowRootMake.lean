/- WRITTEN BY rowgen.py: the law RootMake: for every input the call returns true and each argument reads behind it as before. -/
import Derived.Test.YtbjkpogfgijmaaaRows
import Derived.Test.YtbjkpogfgijmaaaWRootMake
import Derived.Test.YtbjkpogfgijmaaaRowTry
import Derived.Test.YtbjkpogfgijmaaaLawRootMake
namespace Go.Proofs.Ytbjkpogfgijmaaa
open Go Go.RowKit Go.Proofs
open Go.ChangeShapes Go.WideShapes Go.ChangeAt
set_option linter.unusedVariables false
set_option linter.unusedSimpArgs false
set_option maxRecDepth 100000 in
theorem rootMake_lifted (os : Os) (started : os.Started) (H : Type) (enc : TypeId × Value → H) :
    ReturnsInHanded {} Try.checked os 3 .any (Rows.rootMakeSpec.pre6 enc Try.prog Try.f3 Rows.rootMakeRow.domain false) (Rows.rootMakeSpec.post enc Try.prog Try.f3 false true false false) := by
  refine returnsInHanded_of_change (C := Try.checked) ownK started (by kernel_rfl) Try.func3
    (ChangeSpec.witness6 (enc := enc) (C := Try.checked) false ⟨#[], #[.agg #[.bool false, .slice none 0 0, .bool false, .slice none 0 0], .agg #[.bool false, .slice none 0 0, .bool false, .slice none 0 0], .agg #[.bool false, .slice none 0 0, .bool false, .slice none 0 0]], []⟩ 8 (by kernel_rfl) (by kernel_rfl) (by kernel_rfl) (by kernel_rfl)) ?_
  intro W base args ds gs before hval0 hW hcnd _
  have hval : ∀ (j : Nat) t v, Try.f3.params[j]? = some t → args[j]? = some v → Value.okWide Try.prog W .any base t v := hval0
  have hW' := hW
  obtain ⟨p, q, hA0, hV, rfl, hfz, hnd⟩ := hW
  have hA : DataW.TrodAll enc Try.prog W 0 (fun _ => true) true Try.f3.params.toList args.toList ds p := hA0
  rw [Try.params3] at hA hval
  obtain ⟨v0, vs0, d0, ds0, p0, q0, hargs, rfl, rfl, h0, r0⟩ := trodAll_cons hA
  obtain ⟨v1, vs1, d1, ds1, p1, q1, rfl, rfl, rfl, h1, r1⟩ := trodAll_cons r0
  obtain ⟨v2, vs2, d2, ds2, p2, q2, rfl, rfl, rfl, h2, r2⟩ := trodAll_cons r1
  obtain ⟨rfl, rfl, rfl⟩ := trodAll_nil r2
  obtain rfl : args = #[v0, v1, v2] := by cases args; simp_all
  obtain ⟨rfl, rfl⟩ := trodVars_none hV
  have k0 := h0
  have lt0 : ∀ x ∈ p0, x.block < W.heap.size := by obtain ⟨m, hm⟩ := k0; exact DataW.trod_lt m _ _ _ hm
  obtain ⟨cs0, rfl, hsz0⟩ := okWide_struct Try.underlying26 (hval 0 26 v0 rfl rfl)
  obtain ⟨a0, wa0, va0⟩ := arg_st op_q h0
  have k1 := h1
  have lt1 : ∀ x ∈ p1, x.block < W.heap.size := by obtain ⟨m, hm⟩ := k1; exact DataW.trod_lt m _ _ _ hm
  obtain ⟨cs1, rfl, hsz1⟩ := okWide_struct Try.underlying26 (hval 1 26 v1 rfl rfl)
  obtain ⟨a1, wa1, va1⟩ := arg_st op_q h1
  have k2 := h2
  have lt2 : ∀ x ∈ p2, x.block < W.heap.size := by obtain ⟨m, hm⟩ := k2; exact DataW.trod_lt m _ _ _ hm
  obtain ⟨cs2, rfl, hsz2⟩ := okWide_struct Try.underlying26 (hval 2 26 v2 rfl rfl)
  obtain ⟨a2, wa2, va2⟩ := arg_st op_q h2
  obtain ⟨k, hk⟩ := law_RootMake a0 a1 a2 wa0 wa1 wa2
  refine ((swarflaw03_RootMake_ok k (a0, a1, a2, ()) true hk) (startImm W) W [.agg cs0, .agg cs1, .agg cs2] (startImm_in W) ⟨va0, va1, va2, trivial⟩).mono fun e W' ⟨v, m', he, _, _, _, hout, bel⟩ => ?_
  have hv : v = .bool true := by
    have h1 : LR (Gh.of m') (.p (.bool true)) v := hout
    cases h1 with
    | p _ _ h2 => cases h2; rfl
  subst hv
  subst he
  exact ⟨_, rfl, _, _, _, [], _, [], hW', trodAll_mk1 (shut_bool Try.underlying4 _), (trodAll_cons_mk (Below.trod laidOutP (by kernel_rfl) (of_decide_eq_true (by kernel_rfl)) k0 bel lt0) (trodAll_cons_mk (Below.trod laidOutP (by kernel_rfl) (of_decide_eq_true (by kernel_rfl)) k1 bel lt1) (trodAll_cons_mk (Below.trod laidOutP (by kernel_rfl) (of_decide_eq_true (by kernel_rfl)) k2 bel lt2) trodAll_mk0))), rfl, bel.frame _, fun h => by cases h⟩
theorem rootMake_inPlace : (Rows.rootMakeRow.inPlace == Try.prog.inPlace 3) = true := by kernel_rfl
theorem rootMake_unfollowed : (Rows.rootMakeRow.unfollowed == Try.prog.unfollowed 3) = true := by kernel_rfl
theorem rootMake_recurses : (Rows.rootMakeRow.recurses == Try.prog.recurses 3) = true := by kernel_rfl
theorem rootMake_named : (Rows.rootMakeRow.named == Try.prog.varsNamed 3) = true := by kernel_rfl
set_option maxRecDepth 100000 in
theorem rootMake_facts : joinedFacts Try.prog 3 Try.f3 Rows.rootMakeSpec Rows.rootMakeRow = true := by
  unfold joinedFacts
  rw [rootMake_inPlace, rootMake_unfollowed, rootMake_recurses, rootMake_named]
  kernel_rfl
theorem rootMake_func : Try.prog.funcNamed Rows.rootMakeRow.func = some 3 := by kernel_rfl
theorem rootMake_inst : Try.f3.isInstance Try.prog Rows.rootMakeRow.origin Rows.rootMakeRow.targs := of_decide_eq_true (by kernel_rfl)
theorem rootMake_wrap : Try.f3.isWrapper Try.prog Rows.rootMakeRow.wrapper Rows.rootMakeRow.mainSum := by
  unfold Func.isWrapper; first | (rw [if_pos (by decide +kernel)]; kernel_rfl) | (rw [if_neg (by decide +kernel)]; exact ⟨rfl, rfl⟩)
theorem rootMake_holds : Rows.RootMakeSaid :=
  OpenClaim.holds_of_wide 3 Try.f3 rfl rfl rfl rfl rfl rfl rfl ⟨rfl, rfl, rfl, rfl, rfl⟩ rfl rfl rfl rfl rfl rootMake_func Try.func3 rootMake_facts rootMake_inst rootMake_wrap
    (fun os started H enc _ => rootMake_lifted os started H enc)
#print axioms rootMake_holds
end Go.Proofs.Ytbjkpogfgijmaaa
