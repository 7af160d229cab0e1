/- WRITTEN BY gen.py: the loaded functions come to the functions of plain data (those that the law MeetSupports reaches). -/
import Derived.Test.YtbjkpogfgijmaaaGreatWMeetSupportsp0
import Derived.Test.YtbjkpogfgijmaaaGreatPure1
namespace Go.Proofs.YtbjkpogfgijmaaaGreat
open Go Go.Proofs
set_option linter.unusedVariables false
set_option linter.unusedSimpArgs false
set_option maxRecDepth 1000000
theorem e_swarfref09_Radical_ok (k : Nat) : EntOk Tryz.prog (e_swarfref09_Radical k).1 (e_swarfref09_Radical k).2 ∧ entered Tryz.prog (e_swarfref09_Radical k).1 := ⟨ent_ok (swarfref09_Radical_ok k), Tryz.f73, Tryz.func73, by kernel_rfl, by kernel_rfl⟩
noncomputable def code_swarfref09_Circles : Code := (Tryz.f68.body).getD .skip
theorem body_swarfref09_Circles : Tryz.f68.body = some code_swarfref09_Circles := by kernel_rfl
def ctx_swarfref09_Circles (k : Nat) : Ctx := mkC 26 tyTab [e_swarfref02_Cmp k, e_swarfref09_LineCircle k, e_swarfref09_Concentric k, e_swarfref09_Radical k] [] [] true 186 false
theorem ctx_swarfref09_Circles_ok (k : Nat) : CtxOk Tryz.prog (ctx_swarfref09_Circles k) := mkC_ok tyTab_ok (List.forall_mem_cons.2 ⟨e_swarfref02_Cmp_ok k, List.forall_mem_cons.2 ⟨e_swarfref09_LineCircle_ok k, List.forall_mem_cons.2 ⟨e_swarfref09_Concentric_ok k, List.forall_mem_cons.2 ⟨e_swarfref09_Radical_ok k, fun _ h => absurd h List.not_mem_nil⟩⟩⟩⟩) (fun _ h => absurd h List.not_mem_nil) (fun _ h => absurd h List.not_mem_nil)
theorem swarfref09_Circles_ok (k : Nat) (x : TL [CircleD, CircleD]) (t : List PointD × Int) (h : swarfref09_Circles k x.1 x.2.1 = some t) : CallOk Tryz.prog 68 (Cods.enc (.cons cCircle (.cons cCircle .nil)) x) ((o2 (cL .point) (cInt .i64)).enc t) :=
  fun_ok (ctx_swarfref09_Circles_ok k) mixed rfl Tryz.func68 body_swarfref09_Circles Tryz.ntmps68 (rs := [.tmp 4, .tmp 5]) (by kernel_rfl) (by show 2 ≤ 26; decide)
    (show runF (ctx_swarfref09_Circles k) code_swarfref09_Circles [.tmp 4, .tmp 5] none (Cods.enc (.cons cCircle (.cons cCircle .nil)) x) (o2 (cL .point) (cInt .i64)).dec = swarfref09_Circles k x.1 x.2.1 by kernel_rfl) h
def e_swarfref09_Circles (k : Nat) : Nat × Ent := (68, ent (.cons cCircle (.cons cCircle .nil)) (o2 (cL .point) (cInt .i64)) fun x => swarfref09_Circles k x.1 x.2.1)
theorem e_swarfref09_Circles_ok (k : Nat) : EntOk Tryz.prog (e_swarfref09_Circles k).1 (e_swarfref09_Circles k).2 ∧ entered Tryz.prog (e_swarfref09_Circles k).1 := ⟨ent_ok (swarfref09_Circles_ok k), Tryz.f68, Tryz.func68, by kernel_rfl, by kernel_rfl⟩
noncomputable def code_meet_Supports : Code := (Tryz.f83.body).getD .skip
theorem body_meet_Supports : Tryz.f83.body = some code_meet_Supports := by kernel_rfl
def ctx_meet_Supports (k : Nat) : Ctx := mkC 43 tyTab [e_meet_Lines k, e_meet_LineCircle k, e_meet_Circles k] [] [] true 186 false
theorem ctx_meet_Supports_ok (k : Nat) : CtxOk Tryz.prog (ctx_meet_Supports k) := mkC_ok tyTab_ok (List.forall_mem_cons.2 ⟨e_meet_Lines_ok k, List.forall_mem_cons.2 ⟨e_meet_LineCircle_ok k, List.forall_mem_cons.2 ⟨e_meet_Circles_ok k, fun _ h => absurd h List.not_mem_nil⟩⟩⟩) (fun _ h => absurd h List.not_mem_nil) (fun _ h => absurd h List.not_mem_nil)
theorem meet_Supports_ok (k : Nat) (x : TL [CurveD, CurveD]) (t : List PointD × Int) (h : meet_Supports k x.1 x.2.1 = some t) : CallOk Tryz.prog 83 (Cods.enc (.cons cCurve (.cons cCurve .nil)) x) ((o2 (cL .point) (cInt .i64)).enc t) :=
  fun_ok (ctx_meet_Supports_ok k) mixed rfl Tryz.func83 body_meet_Supports Tryz.ntmps83 (rs := [.tmp 4, .tmp 5]) (by kernel_rfl) (by show 2 ≤ 43; decide)
    (show runF (ctx_meet_Supports k) code_meet_Supports [.tmp 4, .tmp 5] none (Cods.enc (.cons cCurve (.cons cCurve .nil)) x) (o2 (cL .point) (cInt .i64)).dec = meet_Supports k x.1 x.2.1 by kernel_rfl) h
def e_meet_Supports (k : Nat) : Nat × Ent := (83, ent (.cons cCurve (.cons cCurve .nil)) (o2 (cL .point) (cInt .i64)) fun x => meet_Supports k x.1 x.2.1)
theorem e_meet_Supports_ok (k : Nat) : EntOk Tryz.prog (e_meet_Supports k).1 (e_meet_Supports k).2 ∧ entered Tryz.prog (e_meet_Supports k).1 := ⟨ent_ok (meet_Supports_ok k), Tryz.f83, Tryz.func83, by kernel_rfl, by kernel_rfl⟩
noncomputable def code_swarfref09_Supports : Code := (Tryz.f84.body).getD .skip
theorem body_swarfref09_Supports : Tryz.f84.body = some code_swarfref09_Supports := by kernel_rfl
def ctx_swarfref09_Supports (k : Nat) : Ctx := mkC 40 tyTab [e_swarfref09_Lines k, e_swarfref09_LineCircle k, e_swarfref09_Circles k] [] [] true 186 false
theorem ctx_swarfref09_Supports_ok (k : Nat) : CtxOk Tryz.prog (ctx_swarfref09_Supports k) := mkC_ok tyTab_ok (List.forall_mem_cons.2 ⟨e_swarfref09_Lines_ok k, List.forall_mem_cons.2 ⟨e_swarfref09_LineCircle_ok k, List.forall_mem_cons.2 ⟨e_swarfref09_Circles_ok k, fun _ h => absurd h List.not_mem_nil⟩⟩⟩) (fun _ h => absurd h List.not_mem_nil) (fun _ h => absurd h List.not_mem_nil)
theorem swarfref09_Supports_ok (k : Nat) (x : TL [CurveD, CurveD]) (t : List PointD × Int) (h : swarfref09_Supports k x.1 x.2.1 = some t) : CallOk Tryz.prog 84 (Cods.enc (.cons cCurve (.cons cCurve .nil)) x) ((o2 (cL .point) (cInt .i64)).enc t) :=
  fun_ok (ctx_swarfref09_Supports_ok k) mixed rfl Tryz.func84 body_swarfref09_Supports Tryz.ntmps84 (rs := [.tmp 4, .tmp 5]) (by kernel_rfl) (by show 2 ≤ 40; decide)
    (show runF (ctx_swarfref09_Supports k) code_swarfref09_Supports [.tmp 4, .tmp 5] none (Cods.enc (.cons cCurve (.cons cCurve .nil)) x) (o2 (cL .point) (cInt .i64)).dec = swarfref09_Supports k x.1 x.2.1 by kernel_rfl) h
def e_swarfref09_Supports (k : Nat) : Nat × Ent := (84, ent (.cons cCurve (.cons cCurve .nil)) (o2 (cL .point) (cInt .i64)) fun x => swarfref09_Supports k x.1 x.2.1)
theorem e_swarfref09_Supports_ok (k : Nat) : EntOk Tryz.prog (e_swarfref09_Supports k).1 (e_swarfref09_Supports k).2 ∧ entered Tryz.prog (e_swarfref09_Supports k).1 := ⟨ent_ok (swarfref09_Supports_ok k), Tryz.f84, Tryz.func84, by kernel_rfl, by kernel_rfl⟩
noncomputable def code_swarflaw09_MeetSupports : Code := (Tryz.f16.body).getD .skip
theorem body_swarflaw09_MeetSupports : Tryz.f16.body = some code_swarflaw09_MeetSupports := by kernel_rfl
def ctx_swarflaw09_MeetSupports (k : Nat) : Ctx := mkC 53 tyTab [e_swarflaw09_awake k, e_swarfref09_Line k, e_swarflaw09_same k, e_swarfref09_Circle k, e_meet_Supports k, e_swarfref09_Supports k] [] [] true 186 false
theorem ctx_swarflaw09_MeetSupports_ok (k : Nat) : CtxOk Tryz.prog (ctx_swarflaw09_MeetSupports k) := mkC_ok tyTab_ok (List.forall_mem_cons.2 ⟨e_swarflaw09_awake_ok k, List.forall_mem_cons.2 ⟨e_swarfref09_Line_ok k, List.forall_mem_cons.2 ⟨e_swarflaw09_same_ok k, List.forall_mem_cons.2 ⟨e_swarfref09_Circle_ok k, List.forall_mem_cons.2 ⟨e_meet_Supports_ok k, List.forall_mem_cons.2 ⟨e_swarfref09_Supports_ok k, fun _ h => absurd h List.not_mem_nil⟩⟩⟩⟩⟩⟩) (fun _ h => absurd h List.not_mem_nil) (fun _ h => absurd h List.not_mem_nil)
theorem swarflaw09_MeetSupports_ok (k : Nat) (x : TL [CurveD, CurveD]) (t : Bool) (h : swarflaw09_MeetSupports k x.1 x.2.1 = some t) : CallOk Tryz.prog 16 (Cods.enc (.cons cCurve (.cons cCurve .nil)) x) ((oOne cB).enc t) :=
  fun_ok (ctx_swarflaw09_MeetSupports_ok k) mixed rfl Tryz.func16 body_swarflaw09_MeetSupports Tryz.ntmps16 (rs := [.tmp 4]) (by kernel_rfl) (by show 2 ≤ 53; decide)
    (show runF (ctx_swarflaw09_MeetSupports k) code_swarflaw09_MeetSupports [.tmp 4] none (Cods.enc (.cons cCurve (.cons cCurve .nil)) x) (oOne cB).dec = swarflaw09_MeetSupports k x.1 x.2.1 by kernel_rfl) h
end Go.Proofs.YtbjkpogfgijmaaaGreat
