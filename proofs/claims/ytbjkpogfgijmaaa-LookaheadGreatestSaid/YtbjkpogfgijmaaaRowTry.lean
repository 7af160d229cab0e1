/- WRITTEN BY rowgen.py: the types of the arguments of this seat's statements. -/
import Derived.Test.YtbjkpogfgijmaaaRow1
import Derived.Test.YtbjkpogfgijmaaaProg
namespace Go.Proofs.Ytbjkpogfgijmaaa
open Go Go.RowKit Go.Proofs
set_option linter.unusedVariables false
set_option linter.unusedSimpArgs false
theorem ownK : ownKnob Try.prog.godebug = none := by kernel_rfl
theorem laidOutP : laidOutB Try.prog = true := by kernel_rfl
section
variable {H : Type} {enc : TypeId × Value → H} {w : World} {sp : Nat → Bool} {held : Bool}
theorem op_i64_2 : Op enc Try.prog w sp held 2 1 (isInt .i64) :=
  op_int Try.underlying2 (by kernel_rfl)
theorem op_i64_3 : Op enc Try.prog w sp held 3 1 (isInt .i64) :=
  op_int Try.underlying3 (by kernel_rfl)
theorem op_boo : Op enc Try.prog w sp held 4 1 (isBool) :=
  op_bool Try.underlying4 (by kernel_rfl)
theorem op_u32 : Op enc Try.prog w sp held 133 1 (isInt .u32) :=
  op_int Try.underlying133 (by kernel_rfl)
theorem op_u8 : Op enc Try.prog w sp held 5 1 (isInt .u8) :=
  op_int Try.underlying5 (by kernel_rfl)
theorem op_i16 : Op enc Try.prog w sp held 48 1 (isInt .i16) :=
  op_int Try.underlying48 (by kernel_rfl)
theorem op_u16 : Op enc Try.prog w sp held 49 1 (isInt .u16) :=
  op_int Try.underlying49 (by kernel_rfl)
theorem op_row : Op enc Try.prog w sp held 22 1 (isRow (.i .u32) (fun x => 0 ≤ x ∧ x < 4294967296)) :=
  op_slice (e := .i .u32) Try.underlying22 (by kernel_rfl) op_u32 (fun l ⟨n, h1, h2⟩ => ⟨n, h1, wf_u32 h2⟩)
theorem op_i : Op enc Try.prog w sp held 24 2 (Ty IntD.lv WfI) :=
  (op_str (n := 2) (L := [(0, 4), (1, 22)]) Try.underlying24 (by kernel_rfl) (by rfl) (fop_cons op_boo (fop_cons op_row (fop_nil)))).map fun _ => ty_int
theorem op_q : Op enc Try.prog w sp held 26 4 (Ty RatD.lv WfQ) :=
  (op_str (n := 4) (L := [(0, 24), (2, 24)]) Try.underlying26 (by kernel_rfl) (by rfl) (fop_cons op_i (fop_cons op_i (fop_nil)))).map fun _ => ty_rat
theorem op_root : Op enc Try.prog w sp held 30 12 (Ty RootD.lv WfRoot) :=
  (op_str (n := 12) (L := [(0, 26), (4, 26), (8, 26)]) Try.underlying30 (by kernel_rfl) (by rfl) (fop_cons op_q (fop_cons op_q (fop_cons op_q (fop_nil))))).map fun _ => ty_root
theorem op_pos : Op enc Try.prog w sp held 66 3 (Ty PosD.lv WfPos) :=
  (op_str (n := 3) (L := [(0, 2), (1, 2), (2, 2)]) Try.underlying66 (by kernel_rfl) (by rfl) (fop_cons op_i64_2 (fop_cons op_i64_2 (fop_cons op_i64_2 (fop_nil))))).map fun _ => ty_pos
theorem op_part : Op enc Try.prog w sp held 95 3 (Ty PartD.lv WfPart) :=
  (op_str (n := 3) (L := [(0, 2), (1, 2), (2, 2)]) Try.underlying95 (by kernel_rfl) (by rfl) (fop_cons op_i64_2 (fop_cons op_i64_2 (fop_cons op_i64_2 (fop_nil))))).map fun _ => ty_part
theorem op_parts : Op enc Try.prog w sp held 42 1 (isRow .part WfPart) :=
  op_slice (e := .part) Try.underlying42 (by kernel_rfl) op_part (fun l h => h)
theorem op_i64s : Op enc Try.prog w sp held 43 1 (isRow (.i .i64) In64) :=
  op_slice (e := .i .i64) Try.underlying43 (by kernel_rfl) op_i64_2 (fun l ⟨n, h1, h2⟩ => ⟨n, h1, wf_i64 h2⟩)
theorem op_surd : Op enc Try.prog w sp held 51 6 (Ty SurdD.lv WfSurd) :=
  (op_str (n := 6) (L := [(0, 48), (1, 48), (2, 49), (3, 5), (4, 5), (5, 5)]) Try.underlying51 (by kernel_rfl) (by rfl) (fop_cons op_i16 (fop_cons op_i16 (fop_cons op_u16 (fop_cons op_u8 (fop_cons op_u8 (fop_cons op_u8 (fop_nil)))))))).map fun _ => ty_surd
theorem op_surds : Op enc Try.prog w sp held 52 18 (Ty (lv3 SurdD.lv) (fun x => WfSurd x.1 ∧ WfSurd x.2.1 ∧ WfSurd x.2.2)) :=
  (op_array (n := 3) (k := 6) Try.underlying52 (by kernel_rfl) op_surd rfl).map fun _ => ty_surds
theorem op_a3 : Op enc Try.prog w sp held 64 3 (Ty (lv3 fun n => [.int .i64 n]) (fun x => (Lit.int .i64 x.1).wf = true ∧ (Lit.int .i64 x.2.1).wf = true ∧ (Lit.int .i64 x.2.2).wf = true)) :=
  (op_array (n := 3) (k := 1) Try.underlying64 (by kernel_rfl) op_i64_2 rfl).map fun _ => ty_arr3
theorem op_a2 : Op enc Try.prog w sp held 71 2 (Ty (lv2 fun n => [.int .u16 n]) (fun x => (Lit.int .u16 x.1).wf = true ∧ (Lit.int .u16 x.2).wf = true)) :=
  (op_array (n := 2) (k := 1) Try.underlying71 (by kernel_rfl) op_u16 rfl).map fun _ => ty_arr2
end
end Go.Proofs.Ytbjkpogfgijmaaa
