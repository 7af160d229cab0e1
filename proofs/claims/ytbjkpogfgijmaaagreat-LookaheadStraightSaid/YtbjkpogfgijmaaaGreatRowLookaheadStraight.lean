/- WRITTEN BY rowgen.py: the law LookaheadStraight: for every input the call returns true and each argument reads behind it as before. -/
import Derived.Test.YtbjkpogfgijmaaaGreatRows
import Derived.Test.YtbjkpogfgijmaaaGreatWLookaheadStraight
import Derived.Test.YtbjkpogfgijmaaaGreatRowTryz
import Derived.Test.YtbjkpogfgijmaaaGreatLawLookaheadStraight
namespace Go.Proofs.YtbjkpogfgijmaaaGreat
open Go Go.RowKit Go.Proofs
open Go.ChangeShapes Go.WideShapes Go.ChangeAt
set_option linter.unusedVariables false
set_option linter.unusedSimpArgs false
set_option maxRecDepth 100000 in
theorem lookaheadStraight_lifted (os : Os) (started : os.Started) (H : Type) (enc : TypeId × Value → H) :
    ReturnsInHanded {} Tryz.checked os 20 .any (Rows.lookaheadStraightSpec.pre6 enc Tryz.prog Tryz.f20 Rows.lookaheadStraightRow.domain false) (Rows.lookaheadStraightSpec.post enc Tryz.prog Tryz.f20 false true false false) := by
  refine returnsInHanded_of_change (C := Tryz.checked) ownK started (by kernel_rfl) Tryz.func20
    (ChangeSpec.witness6 (enc := enc) (C := Tryz.checked) false ⟨#[], #[.int .i64 0, .int .i64 0, .int .i64 0], []⟩ 8 (by kernel_rfl) (by kernel_rfl) (by kernel_rfl) (by kernel_rfl)) ?_
  intro W base args ds gs before hval0 hW hcnd _
  have hval : ∀ (j : Nat) t v, Tryz.f20.params[j]? = some t → args[j]? = some v → Value.okWide Tryz.prog W .any base t v := hval0
  have hW' := hW
  obtain ⟨p, q, hA0, hV, rfl, hfz, hnd⟩ := hW
  have hA : DataW.TrodAll enc Tryz.prog W 0 (fun _ => true) true Tryz.f20.params.toList args.toList ds p := hA0
  rw [Tryz.params20] at hA hval
  obtain ⟨v0, vs0, d0, ds0, p0, q0, hargs, rfl, rfl, h0, r0⟩ := trodAll_cons hA
  obtain ⟨v1, vs1, d1, ds1, p1, q1, rfl, rfl, rfl, h1, r1⟩ := trodAll_cons r0
  obtain ⟨v2, vs2, d2, ds2, p2, q2, rfl, rfl, rfl, h2, r2⟩ := trodAll_cons r1
  obtain ⟨rfl, rfl, rfl⟩ := trodAll_nil r2
  obtain rfl : args = #[v0, v1, v2] := by cases args; simp_all
  obtain ⟨rfl, rfl⟩ := trodVars_none hV
  have k0 := h0
  have lt0 : ∀ x ∈ p0, x.block < W.heap.size := by obtain ⟨m, hm⟩ := k0; exact DataW.trod_lt m _ _ _ hm
  obtain ⟨a0, wa0, va0⟩ := arg_int op_i64_2 (okWide_int Tryz.underlying2 (hval 0 2 v0 rfl rfl)) h0
  have k1 := h1
  have lt1 : ∀ x ∈ p1, x.block < W.heap.size := by obtain ⟨m, hm⟩ := k1; exact DataW.trod_lt m _ _ _ hm
  obtain ⟨a1, wa1, va1⟩ := arg_int op_i64_2 (okWide_int Tryz.underlying2 (hval 1 2 v1 rfl rfl)) h1
  have k2 := h2
  have lt2 : ∀ x ∈ p2, x.block < W.heap.size := by obtain ⟨m, hm⟩ := k2; exact DataW.trod_lt m _ _ _ hm
  obtain ⟨a2, wa2, va2⟩ := arg_int op_i64_2 (okWide_int Tryz.underlying2 (hval 2 2 v2 rfl rfl)) h2
  obtain ⟨k, hk⟩ := law_LookaheadStraight a0 a1 a2 (wf_i64 wa0) (wf_i64 wa1) (wf_i64 wa2)
  refine ((swarflaw48_LookaheadStraight_ok k (a0, a1, a2, ()) true hk) (startImm W) W [v0, v1, v2] (startImm_in W) ⟨va0, va1, va2, trivial⟩).mono fun e W' ⟨v, m', he, _, _, _, hout, bel⟩ => ?_
  have hv : v = .bool true := by
    have h1 : LR (Gh.of m') (.p (.bool true)) v := hout
    cases h1 with
    | p _ _ h2 => cases h2; rfl
  subst hv
  subst he
  exact ⟨_, rfl, _, _, _, [], _, [], hW', trodAll_mk1 (shut_bool Tryz.underlying4 _), (trodAll_cons_mk (Below.trod laidOutP (by kernel_rfl) (of_decide_eq_true (by kernel_rfl)) k0 bel lt0) (trodAll_cons_mk (Below.trod laidOutP (by kernel_rfl) (of_decide_eq_true (by kernel_rfl)) k1 bel lt1) (trodAll_cons_mk (Below.trod laidOutP (by kernel_rfl) (of_decide_eq_true (by kernel_rfl)) k2 bel lt2) trodAll_mk0))), rfl, bel.frame _, fun h => by cases h⟩
theorem lookaheadStraight_inPlace : (Rows.lookaheadStraightRow.inPlace == Tryz.prog.inPlace 20) = true := by kernel_rfl
theorem lookaheadStraight_unfollowed : (Rows.lookaheadStraightRow.unfollowed == Tryz.prog.unfollowed 20) = true := by kernel_rfl
theorem lookaheadStraight_recurses : (Rows.lookaheadStraightRow.recurses == Tryz.prog.recurses 20) = true := by kernel_rfl
theorem lookaheadStraight_named : (Rows.lookaheadStraightRow.named == Tryz.prog.varsNamed 20) = true := by kernel_rfl
set_option maxRecDepth 100000 in
theorem lookaheadStraight_facts : joinedFacts Tryz.prog 20 Tryz.f20 Rows.lookaheadStraightSpec Rows.lookaheadStraightRow = true := by
  unfold joinedFacts
  rw [lookaheadStraight_inPlace, lookaheadStraight_unfollowed, lookaheadStraight_recurses, lookaheadStraight_named]
  kernel_rfl
theorem lookaheadStraight_func : Tryz.prog.funcNamed Rows.lookaheadStraightRow.func = some 20 := by kernel_rfl
theorem lookaheadStraight_inst : Tryz.f20.isInstance Tryz.prog Rows.lookaheadStraightRow.origin Rows.lookaheadStraightRow.targs := of_decide_eq_true (by kernel_rfl)
theorem lookaheadStraight_wrap : Tryz.f20.isWrapper Tryz.prog Rows.lookaheadStraightRow.wrapper Rows.lookaheadStraightRow.mainSum := by
  unfold Func.isWrapper; first | (rw [if_pos (by decide +kernel)]; kernel_rfl) | (rw [if_neg (by decide +kernel)]; exact ⟨rfl, rfl⟩)
theorem lookaheadStraight_holds : Rows.LookaheadStraightSaid :=
  OpenClaim.holds_of_wide 20 Tryz.f20 rfl rfl rfl rfl rfl rfl rfl ⟨rfl, rfl, rfl, rfl, rfl⟩ rfl rfl rfl rfl rfl lookaheadStraight_func Tryz.func20 lookaheadStraight_facts lookaheadStraight_inst lookaheadStraight_wrap
    (fun os started H enc _ => lookaheadStraight_lifted os started H enc)
#print axioms lookaheadStraight_holds
end Go.Proofs.YtbjkpogfgijmaaaGreat
