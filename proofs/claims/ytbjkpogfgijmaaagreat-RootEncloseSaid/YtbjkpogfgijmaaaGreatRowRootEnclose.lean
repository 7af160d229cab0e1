/- WRITTEN BY rowgen.py: the law RootEnclose: for every input the call returns true and each argument reads behind it as before. -/
import Derived.Test.YtbjkpogfgijmaaaGreatRows
import Derived.Test.YtbjkpogfgijmaaaGreatWRootEnclose
import Derived.Test.YtbjkpogfgijmaaaGreatRowTryz
import Derived.Test.YtbjkpogfgijmaaaGreatLawRootEnclose
namespace Go.Proofs.YtbjkpogfgijmaaaGreat
open Go Go.RowKit Go.Proofs
open Go.ChangeShapes Go.WideShapes Go.ChangeAt
set_option linter.unusedVariables false
set_option linter.unusedSimpArgs false
set_option maxRecDepth 100000 in
theorem rootEnclose_lifted (os : Os) (started : os.Started) (H : Type) (enc : TypeId × Value → H) :
    ReturnsInHanded {} Tryz.checked os 5 .any (Rows.rootEncloseSpec.pre6 enc Tryz.prog Tryz.f5 Rows.rootEncloseRow.domain false) (Rows.rootEncloseSpec.post enc Tryz.prog Tryz.f5 false true false false) := by
  refine returnsInHanded_of_change (C := Tryz.checked) ownK started (by kernel_rfl) Tryz.func5
    (ChangeSpec.witness6 (enc := enc) (C := Tryz.checked) false ⟨#[], #[.agg #[.bool false, .slice none 0 0, .bool false, .slice none 0 0, .bool false, .slice none 0 0, .bool false, .slice none 0 0, .bool false, .slice none 0 0, .bool false, .slice none 0 0], .int .i64 0], []⟩ 8 (by kernel_rfl) (by kernel_rfl) (by kernel_rfl) (by kernel_rfl)) ?_
  intro W base args ds gs before hval0 hW hcnd _
  have hval : ∀ (j : Nat) t v, Tryz.f5.params[j]? = some t → args[j]? = some v → Value.okWide Tryz.prog W .any base t v := hval0
  have hW' := hW
  obtain ⟨p, q, hA0, hV, rfl, hfz, hnd⟩ := hW
  have hA : DataW.TrodAll enc Tryz.prog W 0 (fun _ => true) true Tryz.f5.params.toList args.toList ds p := hA0
  rw [Tryz.params5] at hA hval
  obtain ⟨v0, vs0, d0, ds0, p0, q0, hargs, rfl, rfl, h0, r0⟩ := trodAll_cons hA
  obtain ⟨v1, vs1, d1, ds1, p1, q1, rfl, rfl, rfl, h1, r1⟩ := trodAll_cons r0
  obtain ⟨rfl, rfl, rfl⟩ := trodAll_nil r1
  obtain rfl : args = #[v0, v1] := by cases args; simp_all
  obtain ⟨rfl, rfl⟩ := trodVars_none hV
  have k0 := h0
  have lt0 : ∀ x ∈ p0, x.block < W.heap.size := by obtain ⟨m, hm⟩ := k0; exact DataW.trod_lt m _ _ _ hm
  obtain ⟨cs0, rfl, hsz0⟩ := okWide_struct Tryz.underlying28 (hval 0 28 v0 rfl rfl)
  obtain ⟨a0, wa0, va0⟩ := arg_st op_root h0
  have k1 := h1
  have lt1 : ∀ x ∈ p1, x.block < W.heap.size := by obtain ⟨m, hm⟩ := k1; exact DataW.trod_lt m _ _ _ hm
  obtain ⟨a1, wa1, va1⟩ := arg_int op_i64_3 (okWide_int Tryz.underlying3 (hval 1 3 v1 rfl rfl)) h1
  obtain ⟨k, hk⟩ := law_RootEnclose a0 a1 wa0 (wf_i64 wa1)
  refine ((swarflaw03_RootEnclose_ok k (a0, a1, ()) true hk) (startImm W) W [.agg cs0, v1] (startImm_in W) ⟨va0, va1, trivial⟩).mono fun e W' ⟨v, m', he, _, _, _, hout, bel⟩ => ?_
  have hv : v = .bool true := by
    have h1 : LR (Gh.of m') (.p (.bool true)) v := hout
    cases h1 with
    | p _ _ h2 => cases h2; rfl
  subst hv
  subst he
  exact ⟨_, rfl, _, _, _, [], _, [], hW', trodAll_mk1 (shut_bool Tryz.underlying4 _), (trodAll_cons_mk (Below.trod laidOutP (by kernel_rfl) (of_decide_eq_true (by kernel_rfl)) k0 bel lt0) (trodAll_cons_mk (Below.trod laidOutP (by kernel_rfl) (of_decide_eq_true (by kernel_rfl)) k1 bel lt1) trodAll_mk0)), rfl, bel.frame _, fun h => by cases h⟩
theorem rootEnclose_inPlace : (Rows.rootEncloseRow.inPlace == Tryz.prog.inPlace 5) = true := by kernel_rfl
theorem rootEnclose_unfollowed : (Rows.rootEncloseRow.unfollowed == Tryz.prog.unfollowed 5) = true := by kernel_rfl
theorem rootEnclose_recurses : (Rows.rootEncloseRow.recurses == Tryz.prog.recurses 5) = true := by kernel_rfl
theorem rootEnclose_named : (Rows.rootEncloseRow.named == Tryz.prog.varsNamed 5) = true := by kernel_rfl
set_option maxRecDepth 100000 in
theorem rootEnclose_facts : joinedFacts Tryz.prog 5 Tryz.f5 Rows.rootEncloseSpec Rows.rootEncloseRow = true := by
  unfold joinedFacts
  rw [rootEnclose_inPlace, rootEnclose_unfollowed, rootEnclose_recurses, rootEnclose_named]
  kernel_rfl
theorem rootEnclose_func : Tryz.prog.funcNamed Rows.rootEncloseRow.func = some 5 := by kernel_rfl
theorem rootEnclose_inst : Tryz.f5.isInstance Tryz.prog Rows.rootEncloseRow.origin Rows.rootEncloseRow.targs := of_decide_eq_true (by kernel_rfl)
theorem rootEnclose_wrap : Tryz.f5.isWrapper Tryz.prog Rows.rootEncloseRow.wrapper Rows.rootEncloseRow.mainSum := by
  unfold Func.isWrapper; first | (rw [if_pos (by decide +kernel)]; kernel_rfl) | (rw [if_neg (by decide +kernel)]; exact ⟨rfl, rfl⟩)
theorem rootEnclose_holds : Rows.RootEncloseSaid :=
  OpenClaim.holds_of_wide 5 Tryz.f5 rfl rfl rfl rfl rfl rfl rfl ⟨rfl, rfl, rfl, rfl, rfl⟩ rfl rfl rfl rfl rfl rootEnclose_func Tryz.func5 rootEnclose_facts rootEnclose_inst rootEnclose_wrap
    (fun os started H enc _ => rootEnclose_lifted os started H enc)
#print axioms rootEnclose_holds
end Go.Proofs.YtbjkpogfgijmaaaGreat
