/- WRITTEN BY rowgen.py: the law MeetExtremes: for every input the call returns true and each argument reads behind it as before. -/
import Derived.Test.YtbjkpogfgijmaaaGreatRows
import Derived.Test.YtbjkpogfgijmaaaGreatWMeetExtremes
import Derived.Test.YtbjkpogfgijmaaaGreatRowTryz
import Derived.Test.YtbjkpogfgijmaaaGreatLawMeetExtremes
namespace Go.Proofs.YtbjkpogfgijmaaaGreat
open Go Go.RowKit Go.Proofs
open Go.ChangeShapes Go.WideShapes Go.ChangeAt
set_option linter.unusedVariables false
set_option linter.unusedSimpArgs false
set_option maxRecDepth 100000 in
theorem meetExtremes_lifted (os : Os) (started : os.Started) (H : Type) (enc : TypeId × Value → H) :
    ReturnsInHanded {} Tryz.checked os 15 .any (Rows.meetExtremesSpec.pre6 enc Tryz.prog Tryz.f15 Rows.meetExtremesRow.domain false) (Rows.meetExtremesSpec.post enc Tryz.prog Tryz.f15 false true false false) := by
  refine returnsInHanded_of_change (C := Tryz.checked) ownK started (by kernel_rfl) Tryz.func15
    (ChangeSpec.witness6 (enc := enc) (C := Tryz.checked) false ⟨#[], #[.agg #[.bool false, .slice none 0 0, .bool false, .slice none 0 0, .bool false, .slice none 0 0, .bool false, .slice none 0 0, .bool false, .slice none 0 0, .bool false, .slice none 0 0], .agg #[.bool false, .slice none 0 0, .bool false, .slice none 0 0]], []⟩ 8 (by kernel_rfl) (by kernel_rfl) (by kernel_rfl) (by kernel_rfl)) ?_
  intro W base args ds gs before hval0 hW hcnd _
  have hval : ∀ (j : Nat) t v, Tryz.f15.params[j]? = some t → args[j]? = some v → Value.okWide Tryz.prog W .any base t v := hval0
  have hW' := hW
  obtain ⟨p, q, hA0, hV, rfl, hfz, hnd⟩ := hW
  have hA : DataW.TrodAll enc Tryz.prog W 0 (fun _ => true) true Tryz.f15.params.toList args.toList ds p := hA0
  rw [Tryz.params15] at hA hval
  obtain ⟨v0, vs0, d0, ds0, p0, q0, hargs, rfl, rfl, h0, r0⟩ := trodAll_cons hA
  obtain ⟨v1, vs1, d1, ds1, p1, q1, rfl, rfl, rfl, h1, r1⟩ := trodAll_cons r0
  obtain ⟨rfl, rfl, rfl⟩ := trodAll_nil r1
  obtain rfl : args = #[v0, v1] := by cases args; simp_all
  obtain ⟨rfl, rfl⟩ := trodVars_none hV
  have k0 := h0
  have lt0 : ∀ x ∈ p0, x.block < W.heap.size := by obtain ⟨m, hm⟩ := k0; exact DataW.trod_lt m _ _ _ hm
  obtain ⟨cs0, rfl, hsz0⟩ := okWide_struct Tryz.underlying73 (hval 0 73 v0 rfl rfl)
  obtain ⟨a0, wa0, va0⟩ := arg_st op_circle h0
  have k1 := h1
  have lt1 : ∀ x ∈ p1, x.block < W.heap.size := by obtain ⟨m, hm⟩ := k1; exact DataW.trod_lt m _ _ _ hm
  obtain ⟨cs1, rfl, hsz1⟩ := okWide_struct Tryz.underlying26 (hval 1 26 v1 rfl rfl)
  obtain ⟨a1, wa1, va1⟩ := arg_st op_q h1
  obtain ⟨k, hk⟩ := law_MeetExtremes a0 a1 wa0 wa1
  refine ((swarflaw09_MeetExtremes_ok k (a0, a1, ()) true hk) (startImm W) W [.agg cs0, .agg cs1] (startImm_in W) ⟨va0, va1, trivial⟩).mono fun e W' ⟨v, m', he, _, _, _, hout, bel⟩ => ?_
  have hv : v = .bool true := by
    have h1 : LR (Gh.of m') (.p (.bool true)) v := hout
    cases h1 with
    | p _ _ h2 => cases h2; rfl
  subst hv
  subst he
  exact ⟨_, rfl, _, _, _, [], _, [], hW', trodAll_mk1 (shut_bool Tryz.underlying4 _), (trodAll_cons_mk (Below.trod laidOutP (by kernel_rfl) (of_decide_eq_true (by kernel_rfl)) k0 bel lt0) (trodAll_cons_mk (Below.trod laidOutP (by kernel_rfl) (of_decide_eq_true (by kernel_rfl)) k1 bel lt1) trodAll_mk0)), rfl, bel.frame _, fun h => by cases h⟩
theorem meetExtremes_inPlace : (Rows.meetExtremesRow.inPlace == Tryz.prog.inPlace 15) = true := by kernel_rfl
theorem meetExtremes_unfollowed : (Rows.meetExtremesRow.unfollowed == Tryz.prog.unfollowed 15) = true := by kernel_rfl
theorem meetExtremes_recurses : (Rows.meetExtremesRow.recurses == Tryz.prog.recurses 15) = true := by kernel_rfl
theorem meetExtremes_named : (Rows.meetExtremesRow.named == Tryz.prog.varsNamed 15) = true := by kernel_rfl
set_option maxRecDepth 100000 in
theorem meetExtremes_facts : joinedFacts Tryz.prog 15 Tryz.f15 Rows.meetExtremesSpec Rows.meetExtremesRow = true := by
  unfold joinedFacts
  rw [meetExtremes_inPlace, meetExtremes_unfollowed, meetExtremes_recurses, meetExtremes_named]
  kernel_rfl
theorem meetExtremes_func : Tryz.prog.funcNamed Rows.meetExtremesRow.func = some 15 := by kernel_rfl
theorem meetExtremes_inst : Tryz.f15.isInstance Tryz.prog Rows.meetExtremesRow.origin Rows.meetExtremesRow.targs := of_decide_eq_true (by kernel_rfl)
theorem meetExtremes_wrap : Tryz.f15.isWrapper Tryz.prog Rows.meetExtremesRow.wrapper Rows.meetExtremesRow.mainSum := by
  unfold Func.isWrapper; first | (rw [if_pos (by decide +kernel)]; kernel_rfl) | (rw [if_neg (by decide +kernel)]; exact ⟨rfl, rfl⟩)
theorem meetExtremes_holds : Rows.MeetExtremesSaid :=
  OpenClaim.holds_of_wide 15 Tryz.f15 rfl rfl rfl rfl rfl rfl rfl ⟨rfl, rfl, rfl, rfl, rfl⟩ rfl rfl rfl rfl rfl meetExtremes_func Tryz.func15 meetExtremes_facts meetExtremes_inst meetExtremes_wrap
    (fun os started H enc _ => meetExtremes_lifted os started H enc)
#print axioms meetExtremes_holds
end Go.Proofs.YtbjkpogfgijmaaaGreat
