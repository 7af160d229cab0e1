/- WRITTEN BY rowgen.py: the law MeetLines: for every input the call returns true and each argument reads behind it as before. -/
import Derived.Test.YtbjkpogfgijmaaaGreatRows
import Derived.Test.YtbjkpogfgijmaaaGreatWMeetLines
import Derived.Test.YtbjkpogfgijmaaaGreatRowTryz
import Derived.Test.YtbjkpogfgijmaaaGreatLawMeetLines
namespace Go.Proofs.YtbjkpogfgijmaaaGreat
open Go Go.RowKit Go.Proofs
open Go.ChangeShapes Go.WideShapes Go.ChangeAt
set_option linter.unusedVariables false
set_option linter.unusedSimpArgs false
set_option maxRecDepth 100000 in
theorem meetLines_lifted (os : Os) (started : os.Started) (H : Type) (enc : TypeId × Value → H) :
    ReturnsInHanded {} Tryz.checked os 10 .any (Rows.meetLinesSpec.pre6 enc Tryz.prog Tryz.f10 Rows.meetLinesRow.domain false) (Rows.meetLinesSpec.post enc Tryz.prog Tryz.f10 false true false false) := by
  refine returnsInHanded_of_change (C := Tryz.checked) ownK started (by kernel_rfl) Tryz.func10
    (ChangeSpec.witness6 (enc := enc) (C := Tryz.checked) false ⟨#[], #[.agg #[.bool false, .slice none 0 0, .bool false, .slice none 0 0, .bool false, .slice none 0 0, .bool false, .slice none 0 0, .bool false, .slice none 0 0, .bool false, .slice none 0 0], .agg #[.bool false, .slice none 0 0, .bool false, .slice none 0 0, .bool false, .slice none 0 0, .bool false, .slice none 0 0, .bool false, .slice none 0 0, .bool false, .slice none 0 0]], []⟩ 8 (by kernel_rfl) (by kernel_rfl) (by kernel_rfl) (by kernel_rfl)) ?_
  intro W base args ds gs before hval0 hW hcnd _
  have hval : ∀ (j : Nat) t v, Tryz.f10.params[j]? = some t → args[j]? = some v → Value.okWide Tryz.prog W .any base t v := hval0
  have hW' := hW
  obtain ⟨p, q, hA0, hV, rfl, hfz, hnd⟩ := hW
  have hA : DataW.TrodAll enc Tryz.prog W 0 (fun _ => true) true Tryz.f10.params.toList args.toList ds p := hA0
  rw [Tryz.params10] at hA hval
  obtain ⟨v0, vs0, d0, ds0, p0, q0, hargs, rfl, rfl, h0, r0⟩ := trodAll_cons hA
  obtain ⟨v1, vs1, d1, ds1, p1, q1, rfl, rfl, rfl, h1, r1⟩ := trodAll_cons r0
  obtain ⟨rfl, rfl, rfl⟩ := trodAll_nil r1
  obtain rfl : args = #[v0, v1] := by cases args; simp_all
  obtain ⟨rfl, rfl⟩ := trodVars_none hV
  have k0 := h0
  have lt0 : ∀ x ∈ p0, x.block < W.heap.size := by obtain ⟨m, hm⟩ := k0; exact DataW.trod_lt m _ _ _ hm
  obtain ⟨cs0, rfl, hsz0⟩ := okWide_struct Tryz.underlying65 (hval 0 65 v0 rfl rfl)
  obtain ⟨a0, wa0, va0⟩ := arg_st op_line h0
  have k1 := h1
  have lt1 : ∀ x ∈ p1, x.block < W.heap.size := by obtain ⟨m, hm⟩ := k1; exact DataW.trod_lt m _ _ _ hm
  obtain ⟨cs1, rfl, hsz1⟩ := okWide_struct Tryz.underlying65 (hval 1 65 v1 rfl rfl)
  obtain ⟨a1, wa1, va1⟩ := arg_st op_line h1
  obtain ⟨k, hk⟩ := law_MeetLines a0 a1 wa0 wa1
  refine ((swarflaw09_MeetLines_ok k (a0, a1, ()) true hk) (startImm W) W [.agg cs0, .agg cs1] (startImm_in W) ⟨va0, va1, trivial⟩).mono fun e W' ⟨v, m', he, _, _, _, hout, bel⟩ => ?_
  have hv : v = .bool true := by
    have h1 : LR (Gh.of m') (.p (.bool true)) v := hout
    cases h1 with
    | p _ _ h2 => cases h2; rfl
  subst hv
  subst he
  exact ⟨_, rfl, _, _, _, [], _, [], hW', trodAll_mk1 (shut_bool Tryz.underlying4 _), (trodAll_cons_mk (Below.trod laidOutP (by kernel_rfl) (of_decide_eq_true (by kernel_rfl)) k0 bel lt0) (trodAll_cons_mk (Below.trod laidOutP (by kernel_rfl) (of_decide_eq_true (by kernel_rfl)) k1 bel lt1) trodAll_mk0)), rfl, bel.frame _, fun h => by cases h⟩
theorem meetLines_inPlace : (Rows.meetLinesRow.inPlace == Tryz.prog.inPlace 10) = true := by kernel_rfl
theorem meetLines_unfollowed : (Rows.meetLinesRow.unfollowed == Tryz.prog.unfollowed 10) = true := by kernel_rfl
theorem meetLines_recurses : (Rows.meetLinesRow.recurses == Tryz.prog.recurses 10) = true := by kernel_rfl
theorem meetLines_named : (Rows.meetLinesRow.named == Tryz.prog.varsNamed 10) = true := by kernel_rfl
set_option maxRecDepth 100000 in
theorem meetLines_facts : joinedFacts Tryz.prog 10 Tryz.f10 Rows.meetLinesSpec Rows.meetLinesRow = true := by
  unfold joinedFacts
  rw [meetLines_inPlace, meetLines_unfollowed, meetLines_recurses, meetLines_named]
  kernel_rfl
theorem meetLines_func : Tryz.prog.funcNamed Rows.meetLinesRow.func = some 10 := by kernel_rfl
theorem meetLines_inst : Tryz.f10.isInstance Tryz.prog Rows.meetLinesRow.origin Rows.meetLinesRow.targs := of_decide_eq_true (by kernel_rfl)
theorem meetLines_wrap : Tryz.f10.isWrapper Tryz.prog Rows.meetLinesRow.wrapper Rows.meetLinesRow.mainSum := by
  unfold Func.isWrapper; first | (rw [if_pos (by decide +kernel)]; kernel_rfl) | (rw [if_neg (by decide +kernel)]; exact ⟨rfl, rfl⟩)
theorem meetLines_holds : Rows.MeetLinesSaid :=
  OpenClaim.holds_of_wide 10 Tryz.f10 rfl rfl rfl rfl rfl rfl rfl ⟨rfl, rfl, rfl, rfl, rfl⟩ rfl rfl rfl rfl rfl meetLines_func Tryz.func10 meetLines_facts meetLines_inst meetLines_wrap
    (fun os started H enc _ => meetLines_lifted os started H enc)
#print axioms meetLines_holds
end Go.Proofs.YtbjkpogfgijmaaaGreat
