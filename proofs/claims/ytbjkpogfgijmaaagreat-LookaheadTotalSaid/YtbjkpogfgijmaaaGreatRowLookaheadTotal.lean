/- WRITTEN BY rowgen.py: the law LookaheadTotal: for every input the call returns true and each argument reads behind it as before. -/
import Derived.Test.YtbjkpogfgijmaaaGreatRows
import Derived.Test.YtbjkpogfgijmaaaGreatWLookaheadTotal
import Derived.Test.YtbjkpogfgijmaaaGreatRowTryz
import Derived.Test.YtbjkpogfgijmaaaGreatLawLookaheadTotal
namespace Go.Proofs.YtbjkpogfgijmaaaGreat
open Go Go.RowKit Go.Proofs
open Go.ChangeShapes Go.WideShapes Go.ChangeAt
set_option linter.unusedVariables false
set_option linter.unusedSimpArgs false
set_option maxRecDepth 100000 in
theorem lookaheadTotal_lifted (os : Os) (started : os.Started) (H : Type) (enc : TypeId × Value → H) :
    ReturnsInHanded {} Tryz.checked os 9 .any (Rows.lookaheadTotalSpec.pre6 enc Tryz.prog Tryz.f9 Rows.lookaheadTotalRow.domain false) (Rows.lookaheadTotalSpec.post enc Tryz.prog Tryz.f9 false true false false) := by
  refine returnsInHanded_of_change (C := Tryz.checked) ownK started (by kernel_rfl) Tryz.func9
    (ChangeSpec.witness6 (enc := enc) (C := Tryz.checked) false ⟨#[], #[.slice none 0 0, .int .i64 0, .int .i64 0], []⟩ 8 (by kernel_rfl) (by kernel_rfl) (by kernel_rfl) (by kernel_rfl)) ?_
  intro W base args ds gs before hval0 hW hcnd _
  have hval : ∀ (j : Nat) t v, Tryz.f9.params[j]? = some t → args[j]? = some v → Value.okWide Tryz.prog W .any base t v := hval0
  have hW' := hW
  obtain ⟨p, q, hA0, hV, rfl, hfz, hnd⟩ := hW
  have hA : DataW.TrodAll enc Tryz.prog W 0 (fun _ => true) true Tryz.f9.params.toList args.toList ds p := hA0
  rw [Tryz.params9] at hA hval
  obtain ⟨v0, vs0, d0, ds0, p0, q0, hargs, rfl, rfl, h0, r0⟩ := trodAll_cons hA
  obtain ⟨v1, vs1, d1, ds1, p1, q1, rfl, rfl, rfl, h1, r1⟩ := trodAll_cons r0
  obtain ⟨v2, vs2, d2, ds2, p2, q2, rfl, rfl, rfl, h2, r2⟩ := trodAll_cons r1
  obtain ⟨rfl, rfl, rfl⟩ := trodAll_nil r2
  obtain rfl : args = #[v0, v1, v2] := by cases args; simp_all
  obtain ⟨rfl, rfl⟩ := trodVars_none hV
  have k0 := h0
  have lt0 : ∀ x ∈ p0, x.block < W.heap.size := by obtain ⟨m, hm⟩ := k0; exact DataW.trod_lt m _ _ _ hm
  obtain ⟨a0, wa0, va0⟩ := arg_sl op_motions (okWide_slice Tryz.underlying61 (hval 0 61 v0 rfl rfl)) h0
  have k1 := h1
  have lt1 : ∀ x ∈ p1, x.block < W.heap.size := by obtain ⟨m, hm⟩ := k1; exact DataW.trod_lt m _ _ _ hm
  obtain ⟨a1, wa1, va1⟩ := arg_int op_i64_2 (okWide_int Tryz.underlying2 (hval 1 2 v1 rfl rfl)) h1
  have k2 := h2
  have lt2 : ∀ x ∈ p2, x.block < W.heap.size := by obtain ⟨m, hm⟩ := k2; exact DataW.trod_lt m _ _ _ hm
  obtain ⟨a2, wa2, va2⟩ := arg_int op_i64_2 (okWide_int Tryz.underlying2 (hval 2 2 v2 rfl rfl)) h2
  obtain ⟨k, hk⟩ := law_LookaheadTotal a0 a1 a2 wa0 (wf_i64 wa1) (wf_i64 wa2)
  refine ((swarflaw48_LookaheadTotal_ok k (a0, a1, a2, ()) true hk) (startImm W) W [v0, v1, v2] (startImm_in W) ⟨va0, va1, va2, trivial⟩).mono fun e W' ⟨v, m', he, _, _, _, hout, bel⟩ => ?_
  have hv : v = .bool true := by
    have h1 : LR (Gh.of m') (.p (.bool true)) v := hout
    cases h1 with
    | p _ _ h2 => cases h2; rfl
  subst hv
  subst he
  exact ⟨_, rfl, _, _, _, [], _, [], hW', trodAll_mk1 (shut_bool Tryz.underlying4 _), (trodAll_cons_mk (Below.trod laidOutP (by kernel_rfl) (of_decide_eq_true (by kernel_rfl)) k0 bel lt0) (trodAll_cons_mk (Below.trod laidOutP (by kernel_rfl) (of_decide_eq_true (by kernel_rfl)) k1 bel lt1) (trodAll_cons_mk (Below.trod laidOutP (by kernel_rfl) (of_decide_eq_true (by kernel_rfl)) k2 bel lt2) trodAll_mk0))), rfl, bel.frame _, fun h => by cases h⟩
theorem lookaheadTotal_inPlace : (Rows.lookaheadTotalRow.inPlace == Tryz.prog.inPlace 9) = true := by kernel_rfl
theorem lookaheadTotal_unfollowed : (Rows.lookaheadTotalRow.unfollowed == Tryz.prog.unfollowed 9) = true := by kernel_rfl
theorem lookaheadTotal_recurses : (Rows.lookaheadTotalRow.recurses == Tryz.prog.recurses 9) = true := by kernel_rfl
theorem lookaheadTotal_named : (Rows.lookaheadTotalRow.named == Tryz.prog.varsNamed 9) = true := by kernel_rfl
set_option maxRecDepth 100000 in
theorem lookaheadTotal_facts : joinedFacts Tryz.prog 9 Tryz.f9 Rows.lookaheadTotalSpec Rows.lookaheadTotalRow = true := by
  unfold joinedFacts
  rw [lookaheadTotal_inPlace, lookaheadTotal_unfollowed, lookaheadTotal_recurses, lookaheadTotal_named]
  kernel_rfl
theorem lookaheadTotal_func : Tryz.prog.funcNamed Rows.lookaheadTotalRow.func = some 9 := by kernel_rfl
theorem lookaheadTotal_inst : Tryz.f9.isInstance Tryz.prog Rows.lookaheadTotalRow.origin Rows.lookaheadTotalRow.targs := of_decide_eq_true (by kernel_rfl)
theorem lookaheadTotal_wrap : Tryz.f9.isWrapper Tryz.prog Rows.lookaheadTotalRow.wrapper Rows.lookaheadTotalRow.mainSum := by
  unfold Func.isWrapper; first | (rw [if_pos (by decide +kernel)]; kernel_rfl) | (rw [if_neg (by decide +kernel)]; exact ⟨rfl, rfl⟩)
theorem lookaheadTotal_holds : Rows.LookaheadTotalSaid :=
  OpenClaim.holds_of_wide 9 Tryz.f9 rfl rfl rfl rfl rfl rfl rfl ⟨rfl, rfl, rfl, rfl, rfl⟩ rfl rfl rfl rfl rfl lookaheadTotal_func Tryz.func9 lookaheadTotal_facts lookaheadTotal_inst lookaheadTotal_wrap
    (fun os started H enc _ => lookaheadTotal_lifted os started H enc)
#print axioms lookaheadTotal_holds
end Go.Proofs.YtbjkpogfgijmaaaGreat
