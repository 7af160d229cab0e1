/- WRITTEN BY rowgen.py: the law RootInv: for every input the call returns true and each argument reads behind it as before. -/
import Derived.Test.YtbjkpogfgijmaaaGreatRows
import Derived.Test.YtbjkpogfgijmaaaGreatWRootInv
import Derived.Test.YtbjkpogfgijmaaaGreatRowTryz
import Derived.Test.YtbjkpogfgijmaaaGreatLawRootInv
namespace Go.Proofs.YtbjkpogfgijmaaaGreat
open Go Go.RowKit Go.Proofs
open Go.ChangeShapes Go.WideShapes Go.ChangeAt
set_option linter.unusedVariables false
set_option linter.unusedSimpArgs false
set_option maxRecDepth 100000 in
theorem rootInv_lifted (os : Os) (started : os.Started) (H : Type) (enc : TypeId × Value → H) :
    ReturnsInHanded {} Tryz.checked os 8 .any (Rows.rootInvSpec.pre6 enc Tryz.prog Tryz.f8 Rows.rootInvRow.domain false) (Rows.rootInvSpec.post enc Tryz.prog Tryz.f8 false true false false) := by
  refine returnsInHanded_of_change (C := Tryz.checked) ownK started (by kernel_rfl) Tryz.func8
    (ChangeSpec.witness6 (enc := enc) (C := Tryz.checked) false ⟨#[], #[.agg #[.bool false, .slice none 0 0, .bool false, .slice none 0 0, .bool false, .slice none 0 0, .bool false, .slice none 0 0, .bool false, .slice none 0 0, .bool false, .slice none 0 0]], []⟩ 8 (by kernel_rfl) (by kernel_rfl) (by kernel_rfl) (by kernel_rfl)) ?_
  intro W base args ds gs before hval0 hW hcnd _
  have hval : ∀ (j : Nat) t v, Tryz.f8.params[j]? = some t → args[j]? = some v → Value.okWide Tryz.prog W .any base t v := hval0
  have hW' := hW
  obtain ⟨p, q, hA0, hV, rfl, hfz, hnd⟩ := hW
  have hA : DataW.TrodAll enc Tryz.prog W 0 (fun _ => true) true Tryz.f8.params.toList args.toList ds p := hA0
  rw [Tryz.params8] at hA hval
  obtain ⟨v0, vs0, d0, ds0, p0, q0, hargs, rfl, rfl, h0, r0⟩ := trodAll_cons hA
  obtain ⟨rfl, rfl, rfl⟩ := trodAll_nil r0
  obtain rfl : args = #[v0] := by cases args; simp_all
  obtain ⟨rfl, rfl⟩ := trodVars_none hV
  have k0 := h0
  have lt0 : ∀ x ∈ p0, x.block < W.heap.size := by obtain ⟨m, hm⟩ := k0; exact DataW.trod_lt m _ _ _ hm
  obtain ⟨cs0, rfl, hsz0⟩ := okWide_struct Tryz.underlying28 (hval 0 28 v0 rfl rfl)
  obtain ⟨a0, wa0, va0⟩ := arg_st op_root h0
  obtain ⟨k, hk⟩ := law_RootInv a0 wa0
  refine ((swarflaw03_RootInv_ok k (a0, ()) true hk) (startImm W) W [.agg cs0] (startImm_in W) ⟨va0, trivial⟩).mono fun e W' ⟨v, m', he, _, _, _, hout, bel⟩ => ?_
  have hv : v = .bool true := by
    have h1 : LR (Gh.of m') (.p (.bool true)) v := hout
    cases h1 with
    | p _ _ h2 => cases h2; rfl
  subst hv
  subst he
  exact ⟨_, rfl, _, _, _, [], _, [], hW', trodAll_mk1 (shut_bool Tryz.underlying4 _), (trodAll_cons_mk (Below.trod laidOutP (by kernel_rfl) (of_decide_eq_true (by kernel_rfl)) k0 bel lt0) trodAll_mk0), rfl, bel.frame _, fun h => by cases h⟩
theorem rootInv_inPlace : (Rows.rootInvRow.inPlace == Tryz.prog.inPlace 8) = true := by kernel_rfl
theorem rootInv_unfollowed : (Rows.rootInvRow.unfollowed == Tryz.prog.unfollowed 8) = true := by kernel_rfl
theorem rootInv_recurses : (Rows.rootInvRow.recurses == Tryz.prog.recurses 8) = true := by kernel_rfl
theorem rootInv_named : (Rows.rootInvRow.named == Tryz.prog.varsNamed 8) = true := by kernel_rfl
set_option maxRecDepth 100000 in
theorem rootInv_facts : joinedFacts Tryz.prog 8 Tryz.f8 Rows.rootInvSpec Rows.rootInvRow = true := by
  unfold joinedFacts
  rw [rootInv_inPlace, rootInv_unfollowed, rootInv_recurses, rootInv_named]
  kernel_rfl
theorem rootInv_func : Tryz.prog.funcNamed Rows.rootInvRow.func = some 8 := by kernel_rfl
theorem rootInv_inst : Tryz.f8.isInstance Tryz.prog Rows.rootInvRow.origin Rows.rootInvRow.targs := of_decide_eq_true (by kernel_rfl)
theorem rootInv_wrap : Tryz.f8.isWrapper Tryz.prog Rows.rootInvRow.wrapper Rows.rootInvRow.mainSum := by
  unfold Func.isWrapper; first | (rw [if_pos (by decide +kernel)]; kernel_rfl) | (rw [if_neg (by decide +kernel)]; exact ⟨rfl, rfl⟩)
theorem rootInv_holds : Rows.RootInvSaid :=
  OpenClaim.holds_of_wide 8 Tryz.f8 rfl rfl rfl rfl rfl rfl rfl ⟨rfl, rfl, rfl, rfl, rfl⟩ rfl rfl rfl rfl rfl rootInv_func Tryz.func8 rootInv_facts rootInv_inst rootInv_wrap
    (fun os started H enc _ => rootInv_lifted os started H enc)
#print axioms rootInv_holds
end Go.Proofs.YtbjkpogfgijmaaaGreat
