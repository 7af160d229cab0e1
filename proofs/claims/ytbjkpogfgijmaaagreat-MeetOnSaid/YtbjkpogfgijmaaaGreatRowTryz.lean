/- WRITTEN BY rowgen.py: the types of the arguments of this seat's statements. -/
import Derived.Test.YtbjkpogfgijmaaaGreatRow1
import Derived.Test.YtbjkpogfgijmaaaGreatProg
namespace Go.Proofs.YtbjkpogfgijmaaaGreat
open Go Go.RowKit Go.Proofs
set_option linter.unusedVariables false
set_option linter.unusedSimpArgs false
theorem ownK : ownKnob Tryz.prog.godebug = none := by kernel_rfl
theorem laidOutP : laidOutB Tryz.prog = true := by kernel_rfl
section
variable {H : Type} {enc : TypeId × Value → H} {w : World} {sp : Nat → Bool} {held : Bool}
theorem op_i64_2 : Op enc Tryz.prog w sp held 2 1 (isInt .i64) :=
  op_int Tryz.underlying2 (by kernel_rfl)
theorem op_i64_3 : Op enc Tryz.prog w sp held 3 1 (isInt .i64) :=
  op_int Tryz.underlying3 (by kernel_rfl)
theorem op_boo : Op enc Tryz.prog w sp held 4 1 (isBool) :=
  op_bool Tryz.underlying4 (by kernel_rfl)
theorem op_u32 : Op enc Tryz.prog w sp held 186 1 (isInt .u32) :=
  op_int Tryz.underlying186 (by kernel_rfl)
theorem op_i8 : Op enc Tryz.prog w sp held 102 1 (isInt .i8) :=
  op_int Tryz.underlying102 (by kernel_rfl)
theorem op_row : Op enc Tryz.prog w sp held 22 1 (isRow (.i .u32) (fun x => 0 ≤ x ∧ x < 4294967296)) :=
  op_slice (e := .i .u32) Tryz.underlying22 (by kernel_rfl) op_u32 (fun l ⟨n, h1, h2⟩ => ⟨n, h1, wf_u32 h2⟩)
theorem op_i : Op enc Tryz.prog w sp held 24 2 (Ty IntD.lv WfI) :=
  (op_str (n := 2) (L := [(0, 4), (1, 22)]) Tryz.underlying24 (by kernel_rfl) (by rfl) (fop_cons op_boo (fop_cons op_row (fop_nil)))).map fun _ => ty_int
theorem op_q : Op enc Tryz.prog w sp held 26 4 (Ty RatD.lv WfQ) :=
  (op_str (n := 4) (L := [(0, 24), (2, 24)]) Tryz.underlying26 (by kernel_rfl) (by rfl) (fop_cons op_i (fop_cons op_i (fop_nil)))).map fun _ => ty_rat
theorem op_root : Op enc Tryz.prog w sp held 28 12 (Ty RootD.lv WfRoot) :=
  (op_str (n := 12) (L := [(0, 26), (4, 26), (8, 26)]) Tryz.underlying28 (by kernel_rfl) (by rfl) (fop_cons op_q (fop_cons op_q (fop_cons op_q (fop_nil))))).map fun _ => ty_root
theorem op_line : Op enc Tryz.prog w sp held 65 12 (Ty LineD.lv WfLine) :=
  (op_str (n := 12) (L := [(0, 26), (4, 26), (8, 26)]) Tryz.underlying65 (by kernel_rfl) (by rfl) (fop_cons op_q (fop_cons op_q (fop_cons op_q (fop_nil))))).map fun _ => ty_line
theorem op_circle : Op enc Tryz.prog w sp held 73 12 (Ty CircleD.lv WfCircle) :=
  (op_str (n := 12) (L := [(0, 26), (4, 26), (8, 26)]) Tryz.underlying73 (by kernel_rfl) (by rfl) (fop_cons op_q (fop_cons op_q (fop_cons op_q (fop_nil))))).map fun _ => ty_circle
theorem op_vec : Op enc Tryz.prog w sp held 81 8 (Ty VecD.lv WfVec) :=
  (op_str (n := 8) (L := [(0, 26), (4, 26)]) Tryz.underlying81 (by kernel_rfl) (by rfl) (fop_cons op_q (fop_cons op_q (fop_nil)))).map fun _ => ty_vec
theorem op_point : Op enc Tryz.prog w sp held 87 20 (Ty PointD.lv (fun _ => True)) :=
  (op_str (n := 20) (L := [(0, 26), (4, 26), (8, 26), (12, 26), (16, 26)]) Tryz.underlying87 (by kernel_rfl) (by rfl) (fop_cons op_q (fop_cons op_q (fop_cons op_q (fop_cons op_q (fop_cons op_q (fop_nil))))))).map fun _ => ty_point
theorem op_curve : Op enc Tryz.prog w sp held 99 66 (Ty CurveD.lv WfCurve) :=
  (op_str (n := 66) (L := [(0, 4), (1, 65), (13, 73), (25, 4), (26, 87), (46, 87)]) Tryz.underlying99 (by kernel_rfl) (by rfl) (fop_cons op_boo (fop_cons op_line (fop_cons op_circle (fop_cons op_boo (fop_cons op_point (fop_cons op_point (fop_nil)))))))).map fun _ => ty_curve
theorem op_pos : Op enc Tryz.prog w sp held 107 3 (Ty PosD.lv WfPos) :=
  (op_str (n := 3) (L := [(0, 2), (1, 2), (2, 2)]) Tryz.underlying107 (by kernel_rfl) (by rfl) (fop_cons op_i64_2 (fop_cons op_i64_2 (fop_cons op_i64_2 (fop_nil))))).map fun _ => ty_pos
theorem op_motion : Op enc Tryz.prog w sp held 160 9 (Ty MotionD.lv WfMotion) :=
  (op_str (n := 9) (L := [(0, 107), (3, 107), (6, 2), (7, 3), (8, 3)]) Tryz.underlying160 (by kernel_rfl) (by rfl) (fop_cons op_pos (fop_cons op_pos (fop_cons op_i64_2 (fop_cons op_i64_3 (fop_cons op_i64_3 (fop_nil))))))).map fun _ => ty_motion
theorem op_motions : Op enc Tryz.prog w sp held 61 1 (isRow .motion WfMotion) :=
  op_slice (e := .motion) Tryz.underlying61 (by kernel_rfl) op_motion (fun l h => h)
end
end Go.Proofs.YtbjkpogfgijmaaaGreat
