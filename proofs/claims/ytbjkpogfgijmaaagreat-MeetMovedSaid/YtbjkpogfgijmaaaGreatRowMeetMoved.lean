/- WRITTEN BY rowgen.py: the law MeetMoved: for every input the call returns true and each argument reads behind it as before. -/
import Derived.Test.YtbjkpogfgijmaaaGreatRows
import Derived.Test.YtbjkpogfgijmaaaGreatWMeetMoved
import Derived.Test.YtbjkpogfgijmaaaGreatRowTryz
import Derived.Test.YtbjkpogfgijmaaaGreatLawMeetMoved
namespace Go.Proofs.YtbjkpogfgijmaaaGreat
open Go Go.RowKit Go.Proofs
open Go.ChangeShapes Go.WideShapes Go.ChangeAt
set_option linter.unusedVariables false
set_option linter.unusedSimpArgs false
set_option maxRecDepth 100000 in
theorem meetMoved_lifted (os : Os) (started : os.Started) (H : Type) (enc : TypeId × Value → H) :
    ReturnsInHanded {} Tryz.checked os 14 .any (Rows.meetMovedSpec.pre6 enc Tryz.prog Tryz.f14 Rows.meetMovedRow.domain false) (Rows.meetMovedSpec.post enc Tryz.prog Tryz.f14 false true false false) := by
  refine returnsInHanded_of_change (C := Tryz.checked) ownK started (by kernel_rfl) Tryz.func14
    (ChangeSpec.witness6 (enc := enc) (C := Tryz.checked) false ⟨#[], #[.agg #[.bool false, .slice none 0 0, .bool false, .slice none 0 0, .bool false, .slice none 0 0, .bool false, .slice none 0 0, .bool false, .slice none 0 0, .bool false, .slice none 0 0], .agg #[.bool false, .slice none 0 0, .bool false, .slice none 0 0, .bool false, .slice none 0 0, .bool false, .slice none 0 0, .bool false, .slice none 0 0, .bool false, .slice none 0 0], .agg #[.bool false, .slice none 0 0, .bool false, .slice none 0 0, .bool false, .slice none 0 0, .bool false, .slice none 0 0, .bool false, .slice none 0 0, .bool false, .slice none 0 0]], []⟩ 8 (by kernel_rfl) (by kernel_rfl) (by kernel_rfl) (by kernel_rfl)) ?_
  intro W base args ds gs before hval0 hW hcnd _
  have hval : ∀ (j : Nat) t v, Tryz.f14.params[j]? = some t → args[j]? = some v → Value.okWide Tryz.prog W .any base t v := hval0
  have hW' := hW
  obtain ⟨p, q, hA0, hV, rfl, hfz, hnd⟩ := hW
  have hA : DataW.TrodAll enc Tryz.prog W 0 (fun _ => true) true Tryz.f14.params.toList args.toList ds p := hA0
  rw [Tryz.params14] at hA hval
  obtain ⟨v0, vs0, d0, ds0, p0, q0, hargs, rfl, rfl, h0, r0⟩ := trodAll_cons hA
  obtain ⟨v1, vs1, d1, ds1, p1, q1, rfl, rfl, rfl, h1, r1⟩ := trodAll_cons r0
  obtain ⟨v2, vs2, d2, ds2, p2, q2, rfl, rfl, rfl, h2, r2⟩ := trodAll_cons r1
  obtain ⟨rfl, rfl, rfl⟩ := trodAll_nil r2
  obtain rfl : args = #[v0, v1, v2] := by cases args; simp_all
  obtain ⟨rfl, rfl⟩ := trodVars_none hV
  have k0 := h0
  have lt0 : ∀ x ∈ p0, x.block < W.heap.size := by obtain ⟨m, hm⟩ := k0; exact DataW.trod_lt m _ _ _ hm
  obtain ⟨cs0, rfl, hsz0⟩ := okWide_struct Tryz.underlying65 (hval 0 65 v0 rfl rfl)
  obtain ⟨a0, wa0, va0⟩ := arg_st op_line h0
  have k1 := h1
  have lt1 : ∀ x ∈ p1, x.block < W.heap.size := by obtain ⟨m, hm⟩ := k1; exact DataW.trod_lt m _ _ _ hm
  obtain ⟨cs1, rfl, hsz1⟩ := okWide_struct Tryz.underlying73 (hval 1 73 v1 rfl rfl)
  obtain ⟨a1, wa1, va1⟩ := arg_st op_circle h1
  have k2 := h2
  have lt2 : ∀ x ∈ p2, x.block < W.heap.size := by obtain ⟨m, hm⟩ := k2; exact DataW.trod_lt m _ _ _ hm
  obtain ⟨cs2, rfl, hsz2⟩ := okWide_struct Tryz.underlying73 (hval 2 73 v2 rfl rfl)
  obtain ⟨a2, wa2, va2⟩ := arg_st op_circle h2
  obtain ⟨k, hk⟩ := law_MeetMoved a0 a1 a2 wa0 wa1 wa2
  refine ((swarflaw09_MeetMoved_ok k (a0, a1, a2, ()) true hk) (startImm W) W [.agg cs0, .agg cs1, .agg cs2] (startImm_in W) ⟨va0, va1, va2, trivial⟩).mono fun e W' ⟨v, m', he, _, _, _, hout, bel⟩ => ?_
  have hv : v = .bool true := by
    have h1 : LR (Gh.of m') (.p (.bool true)) v := hout
    cases h1 with
    | p _ _ h2 => cases h2; rfl
  subst hv
  subst he
  exact ⟨_, rfl, _, _, _, [], _, [], hW', trodAll_mk1 (shut_bool Tryz.underlying4 _), (trodAll_cons_mk (Below.trod laidOutP (by kernel_rfl) (of_decide_eq_true (by kernel_rfl)) k0 bel lt0) (trodAll_cons_mk (Below.trod laidOutP (by kernel_rfl) (of_decide_eq_true (by kernel_rfl)) k1 bel lt1) (trodAll_cons_mk (Below.trod laidOutP (by kernel_rfl) (of_decide_eq_true (by kernel_rfl)) k2 bel lt2) trodAll_mk0))), rfl, bel.frame _, fun h => by cases h⟩
theorem meetMoved_inPlace : (Rows.meetMovedRow.inPlace == Tryz.prog.inPlace 14) = true := by kernel_rfl
theorem meetMoved_unfollowed : (Rows.meetMovedRow.unfollowed == Tryz.prog.unfollowed 14) = true := by kernel_rfl
theorem meetMoved_recurses : (Rows.meetMovedRow.recurses == Tryz.prog.recurses 14) = true := by kernel_rfl
theorem meetMoved_named : (Rows.meetMovedRow.named == Tryz.prog.varsNamed 14) = true := by kernel_rfl
set_option maxRecDepth 100000 in
theorem meetMoved_facts : joinedFacts Tryz.prog 14 Tryz.f14 Rows.meetMovedSpec Rows.meetMovedRow = true := by
  unfold joinedFacts
  rw [meetMoved_inPlace, meetMoved_unfollowed, meetMoved_recurses, meetMoved_named]
  kernel_rfl
theorem meetMoved_func : Tryz.prog.funcNamed Rows.meetMovedRow.func = some 14 := by kernel_rfl
theorem meetMoved_inst : Tryz.f14.isInstance Tryz.prog Rows.meetMovedRow.origin Rows.meetMovedRow.targs := of_decide_eq_true (by kernel_rfl)
theorem meetMoved_wrap : Tryz.f14.isWrapper Tryz.prog Rows.meetMovedRow.wrapper Rows.meetMovedRow.mainSum := by
  unfold Func.isWrapper; first | (rw [if_pos (by decide +kernel)]; kernel_rfl) | (rw [if_neg (by decide +kernel)]; exact ⟨rfl, rfl⟩)
theorem meetMoved_holds : Rows.MeetMovedSaid :=
  OpenClaim.holds_of_wide 14 Tryz.f14 rfl rfl rfl rfl rfl rfl rfl ⟨rfl, rfl, rfl, rfl, rfl⟩ rfl rfl rfl rfl rfl meetMoved_func Tryz.func14 meetMoved_facts meetMoved_inst meetMoved_wrap
    (fun os started H enc _ => meetMoved_lifted os started H enc)
#print axioms meetMoved_holds
end Go.Proofs.YtbjkpogfgijmaaaGreat
