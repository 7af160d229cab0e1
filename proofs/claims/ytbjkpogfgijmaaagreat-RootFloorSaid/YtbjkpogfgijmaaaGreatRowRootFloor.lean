/- WRITTEN BY rowgen.py: the law RootFloor: for every input the call returns true and each argument reads behind it as before. -/
import Derived.Test.YtbjkpogfgijmaaaGreatRows
import Derived.Test.YtbjkpogfgijmaaaGreatWRootFloor
import Derived.Test.YtbjkpogfgijmaaaGreatRowTryz
import Derived.Test.YtbjkpogfgijmaaaGreatLawRootFloor
namespace Go.Proofs.YtbjkpogfgijmaaaGreat
open Go Go.RowKit Go.Proofs
open Go.ChangeShapes Go.WideShapes Go.ChangeAt
set_option linter.unusedVariables false
set_option linter.unusedSimpArgs false
set_option maxRecDepth 100000 in
theorem rootFloor_lifted (os : Os) (started : os.Started) (H : Type) (enc : TypeId × Value → H) :
    ReturnsInHanded {} Tryz.checked os 3 .any (Rows.rootFloorSpec.pre6 enc Tryz.prog Tryz.f3 Rows.rootFloorRow.domain false) (Rows.rootFloorSpec.post enc Tryz.prog Tryz.f3 false true false false) := by
  refine returnsInHanded_of_change (C := Tryz.checked) ownK started (by kernel_rfl) Tryz.func3
    (ChangeSpec.witness6 (enc := enc) (C := Tryz.checked) false ⟨#[], #[.agg #[.bool false, .slice none 0 0, .bool false, .slice none 0 0, .bool false, .slice none 0 0, .bool false, .slice none 0 0, .bool false, .slice none 0 0, .bool false, .slice none 0 0]], []⟩ 8 (by kernel_rfl) (by kernel_rfl) (by kernel_rfl) (by kernel_rfl)) ?_
  intro W base args ds gs before hval0 hW hcnd _
  have hval : ∀ (j : Nat) t v, Tryz.f3.params[j]? = some t → args[j]? = some v → Value.okWide Tryz.prog W .any base t v := hval0
  have hW' := hW
  obtain ⟨p, q, hA0, hV, rfl, hfz, hnd⟩ := hW
  have hA : DataW.TrodAll enc Tryz.prog W 0 (fun _ => true) true Tryz.f3.params.toList args.toList ds p := hA0
  rw [Tryz.params3] at hA hval
  obtain ⟨v0, vs0, d0, ds0, p0, q0, hargs, rfl, rfl, h0, r0⟩ := trodAll_cons hA
  obtain ⟨rfl, rfl, rfl⟩ := trodAll_nil r0
  obtain rfl : args = #[v0] := by cases args; simp_all
  obtain ⟨rfl, rfl⟩ := trodVars_none hV
  have k0 := h0
  have lt0 : ∀ x ∈ p0, x.block < W.heap.size := by obtain ⟨m, hm⟩ := k0; exact DataW.trod_lt m _ _ _ hm
  obtain ⟨cs0, rfl, hsz0⟩ := okWide_struct Tryz.underlying28 (hval 0 28 v0 rfl rfl)
  obtain ⟨a0, wa0, va0⟩ := arg_st op_root h0
  obtain ⟨k, hk⟩ := law_RootFloor a0 wa0
  refine ((swarflaw03_RootFloor_ok k (a0, ()) true hk) (startImm W) W [.agg cs0] (startImm_in W) ⟨va0, trivial⟩).mono fun e W' ⟨v, m', he, _, _, _, hout, bel⟩ => ?_
  have hv : v = .bool true := by
    have h1 : LR (Gh.of m') (.p (.bool true)) v := hout
    cases h1 with
    | p _ _ h2 => cases h2; rfl
  subst hv
  subst he
  exact ⟨_, rfl, _, _, _, [], _, [], hW', trodAll_mk1 (shut_bool Tryz.underlying4 _), (trodAll_cons_mk (Below.trod laidOutP (by kernel_rfl) (of_decide_eq_true (by kernel_rfl)) k0 bel lt0) trodAll_mk0), rfl, bel.frame _, fun h => by cases h⟩
theorem rootFloor_inPlace : (Rows.rootFloorRow.inPlace == Tryz.prog.inPlace 3) = true := by kernel_rfl
theorem rootFloor_unfollowed : (Rows.rootFloorRow.unfollowed == Tryz.prog.unfollowed 3) = true := by kernel_rfl
theorem rootFloor_recurses : (Rows.rootFloorRow.recurses == Tryz.prog.recurses 3) = true := by kernel_rfl
theorem rootFloor_named : (Rows.rootFloorRow.named == Tryz.prog.varsNamed 3) = true := by kernel_rfl
set_option maxRecDepth 100000 in
theorem rootFloor_facts : joinedFacts Tryz.prog 3 Tryz.f3 Rows.rootFloorSpec Rows.rootFloorRow = true := by
  unfold joinedFacts
  rw [rootFloor_inPlace, rootFloor_unfollowed, rootFloor_recurses, rootFloor_named]
  kernel_rfl
theorem rootFloor_func : Tryz.prog.funcNamed Rows.rootFloorRow.func = some 3 := by kernel_rfl
theorem rootFloor_inst : Tryz.f3.isInstance Tryz.prog Rows.rootFloorRow.origin Rows.rootFloorRow.targs := of_decide_eq_true (by kernel_rfl)
theorem rootFloor_wrap : Tryz.f3.isWrapper Tryz.prog Rows.rootFloorRow.wrapper Rows.rootFloorRow.mainSum := by
  unfold Func.isWrapper; first | (rw [if_pos (by decide +kernel)]; kernel_rfl) | (rw [if_neg (by decide +kernel)]; exact ⟨rfl, rfl⟩)
theorem rootFloor_holds : Rows.RootFloorSaid :=
  OpenClaim.holds_of_wide 3 Tryz.f3 rfl rfl rfl rfl rfl rfl rfl ⟨rfl, rfl, rfl, rfl, rfl⟩ rfl rfl rfl rfl rfl rootFloor_func Tryz.func3 rootFloor_facts rootFloor_inst rootFloor_wrap
    (fun os started H enc _ => rootFloor_lifted os started H enc)
#print axioms rootFloor_holds
end Go.Proofs.YtbjkpogfgijmaaaGreat
