/- WRITTEN BY gen.py: the loaded functions come to the functions of plain data (those that the law MeetRadical reaches). -/
import Derived.Test.YtbjkpogfgijmaaaGreatWMeetRadicalp0
import Derived.Test.YtbjkpogfgijmaaaGreatPure1
namespace Go.Proofs.YtbjkpogfgijmaaaGreat
open Go Go.Proofs
set_option linter.unusedVariables false
set_option linter.unusedSimpArgs false
set_option maxRecDepth 1000000
theorem ctx_swarfref09_Circles_ok (k : Nat) : CtxOk Tryz.prog (ctx_swarfref09_Circles k) := mkC_ok tyTab_ok (List.forall_mem_cons.2 ⟨e_swarfref02_Cmp_ok k, List.forall_mem_cons.2 ⟨e_swarfref09_LineCircle_ok k, List.forall_mem_cons.2 ⟨e_swarfref09_Concentric_ok k, List.forall_mem_cons.2 ⟨e_swarfref09_Radical_ok k, fun _ h => absurd h List.not_mem_nil⟩⟩⟩⟩) (fun _ h => absurd h List.not_mem_nil) (fun _ h => absurd h List.not_mem_nil)
theorem swarfref09_Circles_ok (k : Nat) (x : TL [CircleD, CircleD]) (t : List PointD × Int) (h : swarfref09_Circles k x.1 x.2.1 = some t) : CallOk Tryz.prog 68 (Cods.enc (.cons cCircle (.cons cCircle .nil)) x) ((o2 (cL .point) (cInt .i64)).enc t) :=
  fun_ok (ctx_swarfref09_Circles_ok k) mixed rfl Tryz.func68 body_swarfref09_Circles Tryz.ntmps68 (rs := [.tmp 4, .tmp 5]) (by kernel_rfl) (by show 2 ≤ 26; decide)
    (show runF (ctx_swarfref09_Circles k) code_swarfref09_Circles [.tmp 4, .tmp 5] none (Cods.enc (.cons cCircle (.cons cCircle .nil)) x) (o2 (cL .point) (cInt .i64)).dec = swarfref09_Circles k x.1 x.2.1 by kernel_rfl) h
def e_swarfref09_Circles (k : Nat) : Nat × Ent := (68, ent (.cons cCircle (.cons cCircle .nil)) (o2 (cL .point) (cInt .i64)) fun x => swarfref09_Circles k x.1 x.2.1)
theorem e_swarfref09_Circles_ok (k : Nat) : EntOk Tryz.prog (e_swarfref09_Circles k).1 (e_swarfref09_Circles k).2 ∧ entered Tryz.prog (e_swarfref09_Circles k).1 := ⟨ent_ok (swarfref09_Circles_ok k), Tryz.f68, Tryz.func68, by kernel_rfl, by kernel_rfl⟩
noncomputable def code_swarfref09_Power : Code := (Tryz.f71.body).getD .skip
theorem body_swarfref09_Power : Tryz.f71.body = some code_swarfref09_Power := by kernel_rfl
def ctx_swarfref09_Power (k : Nat) : Ctx := mkC 27 tyTab [e_swarfref09_sub k, e_swarfref09_mul k, e_swarfref09_add k] [] [] true 186 false
theorem ctx_swarfref09_Power_ok (k : Nat) : CtxOk Tryz.prog (ctx_swarfref09_Power k) := mkC_ok tyTab_ok (List.forall_mem_cons.2 ⟨e_swarfref09_sub_ok k, List.forall_mem_cons.2 ⟨e_swarfref09_mul_ok k, List.forall_mem_cons.2 ⟨e_swarfref09_add_ok k, fun _ h => absurd h List.not_mem_nil⟩⟩⟩) (fun _ h => absurd h List.not_mem_nil) (fun _ h => absurd h List.not_mem_nil)
theorem swarfref09_Power_ok (k : Nat) (x : TL [CircleD, RatD, RatD]) (t : RatD) (h : swarfref09_Power k x.1 x.2.1 x.2.2.1 = some t) : CallOk Tryz.prog 71 (Cods.enc (.cons cCircle (.cons cRat (.cons cRat .nil))) x) ((oOne cRat).enc t) :=
  fun_ok (ctx_swarfref09_Power_ok k) mixed rfl Tryz.func71 body_swarfref09_Power Tryz.ntmps71 (rs := [.cell 6 26]) (by kernel_rfl) (by show 3 ≤ 27; decide)
    (show runF (ctx_swarfref09_Power k) code_swarfref09_Power [.cell 6 26] none (Cods.enc (.cons cCircle (.cons cRat (.cons cRat .nil))) x) (oOne cRat).dec = swarfref09_Power k x.1 x.2.1 x.2.2.1 by kernel_rfl) h
def e_swarfref09_Power (k : Nat) : Nat × Ent := (71, ent (.cons cCircle (.cons cRat (.cons cRat .nil))) (oOne cRat) fun x => swarfref09_Power k x.1 x.2.1 x.2.2.1)
theorem e_swarfref09_Power_ok (k : Nat) : EntOk Tryz.prog (e_swarfref09_Power k).1 (e_swarfref09_Power k).2 ∧ entered Tryz.prog (e_swarfref09_Power k).1 := ⟨ent_ok (swarfref09_Power_ok k), Tryz.f71, Tryz.func71, by kernel_rfl, by kernel_rfl⟩
noncomputable def code_swarfref08_mul : Code := (Tryz.f179.body).getD .skip
theorem body_swarfref08_mul : Tryz.f179.body = some code_swarfref08_mul := by kernel_rfl
def ctx_swarfref08_mul (k : Nat) : Ctx := mkC 8 tyTab [e_swarfref02_Mul k] [] [] true 186 false
theorem ctx_swarfref08_mul_ok (k : Nat) : CtxOk Tryz.prog (ctx_swarfref08_mul k) := mkC_ok tyTab_ok (List.forall_mem_cons.2 ⟨e_swarfref02_Mul_ok k, fun _ h => absurd h List.not_mem_nil⟩) (fun _ h => absurd h List.not_mem_nil) (fun _ h => absurd h List.not_mem_nil)
theorem swarfref08_mul_ok (k : Nat) (x : TL [RatD, RatD]) (t : RatD) (h : swarfref08_mul k x.1 x.2.1 = some t) : CallOk Tryz.prog 179 (Cods.enc (.cons cRat (.cons cRat .nil)) x) ((oOne cRat).enc t) :=
  fun_ok (ctx_swarfref08_mul_ok k) mixed rfl Tryz.func179 body_swarfref08_mul Tryz.ntmps179 (rs := [.cell 4 26]) (by kernel_rfl) (by show 2 ≤ 8; decide)
    (show runF (ctx_swarfref08_mul k) code_swarfref08_mul [.cell 4 26] none (Cods.enc (.cons cRat (.cons cRat .nil)) x) (oOne cRat).dec = swarfref08_mul k x.1 x.2.1 by kernel_rfl) h
def e_swarfref08_mul (k : Nat) : Nat × Ent := (179, ent (.cons cRat (.cons cRat .nil)) (oOne cRat) fun x => swarfref08_mul k x.1 x.2.1)
theorem e_swarfref08_mul_ok (k : Nat) : EntOk Tryz.prog (e_swarfref08_mul k).1 (e_swarfref08_mul k).2 ∧ entered Tryz.prog (e_swarfref08_mul k).1 := ⟨ent_ok (swarfref08_mul_ok k), Tryz.f179, Tryz.func179, by kernel_rfl, by kernel_rfl⟩
noncomputable def code_swarfref08_add : Code := (Tryz.f237.body).getD .skip
theorem body_swarfref08_add : Tryz.f237.body = some code_swarfref08_add := by kernel_rfl
def ctx_swarfref08_add (k : Nat) : Ctx := mkC 8 tyTab [e_swarfref02_Add k] [] [] true 186 false
theorem ctx_swarfref08_add_ok (k : Nat) : CtxOk Tryz.prog (ctx_swarfref08_add k) := mkC_ok tyTab_ok (List.forall_mem_cons.2 ⟨e_swarfref02_Add_ok k, fun _ h => absurd h List.not_mem_nil⟩) (fun _ h => absurd h List.not_mem_nil) (fun _ h => absurd h List.not_mem_nil)
theorem swarfref08_add_ok (k : Nat) (x : TL [RatD, RatD]) (t : RatD) (h : swarfref08_add k x.1 x.2.1 = some t) : CallOk Tryz.prog 237 (Cods.enc (.cons cRat (.cons cRat .nil)) x) ((oOne cRat).enc t) :=
  fun_ok (ctx_swarfref08_add_ok k) mixed rfl Tryz.func237 body_swarfref08_add Tryz.ntmps237 (rs := [.cell 4 26]) (by kernel_rfl) (by show 2 ≤ 8; decide)
    (show runF (ctx_swarfref08_add k) code_swarfref08_add [.cell 4 26] none (Cods.enc (.cons cRat (.cons cRat .nil)) x) (oOne cRat).dec = swarfref08_add k x.1 x.2.1 by kernel_rfl) h
def e_swarfref08_add (k : Nat) : Nat × Ent := (237, ent (.cons cRat (.cons cRat .nil)) (oOne cRat) fun x => swarfref08_add k x.1 x.2.1)
theorem e_swarfref08_add_ok (k : Nat) : EntOk Tryz.prog (e_swarfref08_add k).1 (e_swarfref08_add k).2 ∧ entered Tryz.prog (e_swarfref08_add k).1 := ⟨ent_ok (swarfref08_add_ok k), Tryz.f237, Tryz.func237, by kernel_rfl, by kernel_rfl⟩
noncomputable def code_swarfref08_sub : Code := (Tryz.f236.body).getD .skip
theorem body_swarfref08_sub : Tryz.f236.body = some code_swarfref08_sub := by kernel_rfl
def ctx_swarfref08_sub (k : Nat) : Ctx := mkC 8 tyTab [e_swarfref02_Sub k] [] [] true 186 false
theorem ctx_swarfref08_sub_ok (k : Nat) : CtxOk Tryz.prog (ctx_swarfref08_sub k) := mkC_ok tyTab_ok (List.forall_mem_cons.2 ⟨e_swarfref02_Sub_ok k, fun _ h => absurd h List.not_mem_nil⟩) (fun _ h => absurd h List.not_mem_nil) (fun _ h => absurd h List.not_mem_nil)
theorem swarfref08_sub_ok (k : Nat) (x : TL [RatD, RatD]) (t : RatD) (h : swarfref08_sub k x.1 x.2.1 = some t) : CallOk Tryz.prog 236 (Cods.enc (.cons cRat (.cons cRat .nil)) x) ((oOne cRat).enc t) :=
  fun_ok (ctx_swarfref08_sub_ok k) mixed rfl Tryz.func236 body_swarfref08_sub Tryz.ntmps236 (rs := [.cell 4 26]) (by kernel_rfl) (by show 2 ≤ 8; decide)
    (show runF (ctx_swarfref08_sub k) code_swarfref08_sub [.cell 4 26] none (Cods.enc (.cons cRat (.cons cRat .nil)) x) (oOne cRat).dec = swarfref08_sub k x.1 x.2.1 by kernel_rfl) h
def e_swarfref08_sub (k : Nat) : Nat × Ent := (236, ent (.cons cRat (.cons cRat .nil)) (oOne cRat) fun x => swarfref08_sub k x.1 x.2.1)
theorem e_swarfref08_sub_ok (k : Nat) : EntOk Tryz.prog (e_swarfref08_sub k).1 (e_swarfref08_sub k).2 ∧ entered Tryz.prog (e_swarfref08_sub k).1 := ⟨ent_ok (swarfref08_sub_ok k), Tryz.f236, Tryz.func236, by kernel_rfl, by kernel_rfl⟩
noncomputable def code_swarfref08_Value : Code := (Tryz.f178.body).getD .skip
theorem body_swarfref08_Value : Tryz.f178.body = some code_swarfref08_Value := by kernel_rfl
def ctx_swarfref08_Value (k : Nat) : Ctx := mkC 41 tyTab [e_swarfref08_mul k, e_swarfref03_Make k, e_swarfref08_sub k, e_swarfref08_add k] [] [] true 186 false
theorem ctx_swarfref08_Value_ok (k : Nat) : CtxOk Tryz.prog (ctx_swarfref08_Value k) := mkC_ok tyTab_ok (List.forall_mem_cons.2 ⟨e_swarfref08_mul_ok k, List.forall_mem_cons.2 ⟨e_swarfref03_Make_ok k, List.forall_mem_cons.2 ⟨e_swarfref08_sub_ok k, List.forall_mem_cons.2 ⟨e_swarfref08_add_ok k, fun _ h => absurd h List.not_mem_nil⟩⟩⟩⟩) (fun _ h => absurd h List.not_mem_nil) (fun _ h => absurd h List.not_mem_nil)
theorem swarfref08_Value_ok (k : Nat) (x : TL [LineD, PointD]) (t : RootD) (h : swarfref08_Value k x.1 x.2.1 = some t) : CallOk Tryz.prog 178 (Cods.enc (.cons cLine (.cons cPoint .nil)) x) ((oOne cRoot).enc t) :=
  fun_ok (ctx_swarfref08_Value_ok k) mixed rfl Tryz.func178 body_swarfref08_Value Tryz.ntmps178 (rs := [.cell 4 28]) (by kernel_rfl) (by show 2 ≤ 41; decide)
    (show runF (ctx_swarfref08_Value k) code_swarfref08_Value [.cell 4 28] none (Cods.enc (.cons cLine (.cons cPoint .nil)) x) (oOne cRoot).dec = swarfref08_Value k x.1 x.2.1 by kernel_rfl) h
def e_swarfref08_Value (k : Nat) : Nat × Ent := (178, ent (.cons cLine (.cons cPoint .nil)) (oOne cRoot) fun x => swarfref08_Value k x.1 x.2.1)
theorem e_swarfref08_Value_ok (k : Nat) : EntOk Tryz.prog (e_swarfref08_Value k).1 (e_swarfref08_Value k).2 ∧ entered Tryz.prog (e_swarfref08_Value k).1 := ⟨ent_ok (swarfref08_Value_ok k), Tryz.f178, Tryz.func178, by kernel_rfl, by kernel_rfl⟩
noncomputable def code_swarfref08_Side : Code := (Tryz.f74.body).getD .skip
theorem body_swarfref08_Side : Tryz.f74.body = some code_swarfref08_Side := by kernel_rfl
def ctx_swarfref08_Side (k : Nat) : Ctx := mkC 9 tyTab [e_swarfref03_Sign k, e_swarfref08_Value k] [] [] true 186 false
theorem ctx_swarfref08_Side_ok (k : Nat) : CtxOk Tryz.prog (ctx_swarfref08_Side k) := mkC_ok tyTab_ok (List.forall_mem_cons.2 ⟨e_swarfref03_Sign_ok k, List.forall_mem_cons.2 ⟨e_swarfref08_Value_ok k, fun _ h => absurd h List.not_mem_nil⟩⟩) (fun _ h => absurd h List.not_mem_nil) (fun _ h => absurd h List.not_mem_nil)
theorem swarfref08_Side_ok (k : Nat) (x : TL [LineD, PointD]) (t : Int) (h : swarfref08_Side k x.1 x.2.1 = some t) : CallOk Tryz.prog 74 (Cods.enc (.cons cLine (.cons cPoint .nil)) x) ((oOne (cInt .i64)).enc t) :=
  fun_ok (ctx_swarfref08_Side_ok k) mixed rfl Tryz.func74 body_swarfref08_Side Tryz.ntmps74 (rs := [.tmp 4]) (by kernel_rfl) (by show 2 ≤ 9; decide)
    (show runF (ctx_swarfref08_Side k) code_swarfref08_Side [.tmp 4] none (Cods.enc (.cons cLine (.cons cPoint .nil)) x) (oOne (cInt .i64)).dec = swarfref08_Side k x.1 x.2.1 by kernel_rfl) h
def e_swarfref08_Side (k : Nat) : Nat × Ent := (74, ent (.cons cLine (.cons cPoint .nil)) (oOne (cInt .i64)) fun x => swarfref08_Side k x.1 x.2.1)
theorem e_swarfref08_Side_ok (k : Nat) : EntOk Tryz.prog (e_swarfref08_Side k).1 (e_swarfref08_Side k).2 ∧ entered Tryz.prog (e_swarfref08_Side k).1 := ⟨ent_ok (swarfref08_Side_ok k), Tryz.f74, Tryz.func74, by kernel_rfl, by kernel_rfl⟩
noncomputable def code_swarfref08_SameLine : Code := (Tryz.f75.body).getD .skip
theorem body_swarfref08_SameLine : Tryz.f75.body = some code_swarfref08_SameLine := by kernel_rfl
def ctx_swarfref08_SameLine (k : Nat) : Ctx := mkC 45 tyTab [e_swarfref02_Cmp k, e_swarfref08_mul k] [] [] true 186 false
theorem ctx_swarfref08_SameLine_ok (k : Nat) : CtxOk Tryz.prog (ctx_swarfref08_SameLine k) := mkC_ok tyTab_ok (List.forall_mem_cons.2 ⟨e_swarfref02_Cmp_ok k, List.forall_mem_cons.2 ⟨e_swarfref08_mul_ok k, fun _ h => absurd h List.not_mem_nil⟩⟩) (fun _ h => absurd h List.not_mem_nil) (fun _ h => absurd h List.not_mem_nil)
theorem swarfref08_SameLine_ok (k : Nat) (x : TL [LineD, LineD]) (t : Bool) (h : swarfref08_SameLine k x.1 x.2.1 = some t) : CallOk Tryz.prog 75 (Cods.enc (.cons cLine (.cons cLine .nil)) x) ((oOne cB).enc t) :=
  fun_ok (ctx_swarfref08_SameLine_ok k) mixed rfl Tryz.func75 body_swarfref08_SameLine Tryz.ntmps75 (rs := [.tmp 4]) (by kernel_rfl) (by show 2 ≤ 45; decide)
    (show runF (ctx_swarfref08_SameLine k) code_swarfref08_SameLine [.tmp 4] none (Cods.enc (.cons cLine (.cons cLine .nil)) x) (oOne cB).dec = swarfref08_SameLine k x.1 x.2.1 by kernel_rfl) h
def e_swarfref08_SameLine (k : Nat) : Nat × Ent := (75, ent (.cons cLine (.cons cLine .nil)) (oOne cB) fun x => swarfref08_SameLine k x.1 x.2.1)
theorem e_swarfref08_SameLine_ok (k : Nat) : EntOk Tryz.prog (e_swarfref08_SameLine k).1 (e_swarfref08_SameLine k).2 ∧ entered Tryz.prog (e_swarfref08_SameLine k).1 := ⟨ent_ok (swarfref08_SameLine_ok k), Tryz.f75, Tryz.func75, by kernel_rfl, by kernel_rfl⟩
noncomputable def code_swarflaw09_MeetRadical : Code := (Tryz.f13.body).getD .skip
theorem body_swarflaw09_MeetRadical : Tryz.f13.body = some code_swarflaw09_MeetRadical := by kernel_rfl
def ctx_swarflaw09_MeetRadical (k : Nat) : Ctx := mkC 135 tyTab [e_swarfref02_Small k, e_swarfref02_Sign k, e_swarfref02_Valid k, e_swarfref02_Sub k, e_swarflaw09_awake k, e_swarfref09_Circle k, e_swarfref09_Circles k, e_meet_Radical k, e_swarfref09_Concentric k, e_swarfref09_Power k, e_swarfref09_Value k, e_swarfref09_Radical k, e_swarfref08_Side k, e_swarfref08_SameLine k] [] [(0, .norm k [slR 7 LineD.lv dLine, slR 10 LineD.lv dLine, slV 121 (cL .point), slV 122 (cInt .i64), slV 123 (cInt .i64)] [(.exit 0, [slR 7 LineD.lv dLine, slR 10 LineD.lv dLine]), (.ret, [slV 6 cB])]), (0, .norm k [slR 7 LineD.lv dLine, slR 10 LineD.lv dLine, slV 121 (cL .point), slV 122 (cInt .i64), slV 123 (cInt .i64)] [(.exit 0, [slR 7 LineD.lv dLine, slR 10 LineD.lv dLine]), (.ret, [slV 6 cB])])] true 186 false
theorem ctx_swarflaw09_MeetRadical_ok (k : Nat) : CtxOk Tryz.prog (ctx_swarflaw09_MeetRadical k) := mkC_ok tyTab_ok (List.forall_mem_cons.2 ⟨e_swarfref02_Small_ok k, List.forall_mem_cons.2 ⟨e_swarfref02_Sign_ok k, List.forall_mem_cons.2 ⟨e_swarfref02_Valid_ok k, List.forall_mem_cons.2 ⟨e_swarfref02_Sub_ok k, List.forall_mem_cons.2 ⟨e_swarflaw09_awake_ok k, List.forall_mem_cons.2 ⟨e_swarfref09_Circle_ok k, List.forall_mem_cons.2 ⟨e_swarfref09_Circles_ok k, List.forall_mem_cons.2 ⟨e_meet_Radical_ok k, List.forall_mem_cons.2 ⟨e_swarfref09_Concentric_ok k, List.forall_mem_cons.2 ⟨e_swarfref09_Power_ok k, List.forall_mem_cons.2 ⟨e_swarfref09_Value_ok k, List.forall_mem_cons.2 ⟨e_swarfref09_Radical_ok k, List.forall_mem_cons.2 ⟨e_swarfref08_Side_ok k, List.forall_mem_cons.2 ⟨e_swarfref08_SameLine_ok k, fun _ h => absurd h List.not_mem_nil⟩⟩⟩⟩⟩⟩⟩⟩⟩⟩⟩⟩⟩⟩) (fun _ h => absurd h List.not_mem_nil) (List.forall_mem_cons.2 ⟨⟨⟨List.forall_mem_cons.2 ⟨slR_ok 7 fun _ _ => dLine_weak, List.forall_mem_cons.2 ⟨slR_ok 10 fun _ _ => dLine_weak, List.forall_mem_cons.2 ⟨slV_ok 121 (cL .point), List.forall_mem_cons.2 ⟨slV_ok 122 (cInt .i64), List.forall_mem_cons.2 ⟨slV_ok 123 (cInt .i64), fun _ h => absurd h List.not_mem_nil⟩⟩⟩⟩⟩, by decide⟩, List.forall_mem_cons.2 ⟨⟨List.forall_mem_cons.2 ⟨slR_ok 7 fun _ _ => dLine_weak, List.forall_mem_cons.2 ⟨slR_ok 10 fun _ _ => dLine_weak, fun _ h => absurd h List.not_mem_nil⟩⟩, by decide⟩, List.forall_mem_cons.2 ⟨⟨List.forall_mem_cons.2 ⟨slV_ok 6 cB, fun _ h => absurd h List.not_mem_nil⟩, by decide⟩, fun _ h => absurd h List.not_mem_nil⟩⟩⟩, List.forall_mem_cons.2 ⟨⟨⟨List.forall_mem_cons.2 ⟨slR_ok 7 fun _ _ => dLine_weak, List.forall_mem_cons.2 ⟨slR_ok 10 fun _ _ => dLine_weak, List.forall_mem_cons.2 ⟨slV_ok 121 (cL .point), List.forall_mem_cons.2 ⟨slV_ok 122 (cInt .i64), List.forall_mem_cons.2 ⟨slV_ok 123 (cInt .i64), fun _ h => absurd h List.not_mem_nil⟩⟩⟩⟩⟩, by decide⟩, List.forall_mem_cons.2 ⟨⟨List.forall_mem_cons.2 ⟨slR_ok 7 fun _ _ => dLine_weak, List.forall_mem_cons.2 ⟨slR_ok 10 fun _ _ => dLine_weak, fun _ h => absurd h List.not_mem_nil⟩⟩, by decide⟩, List.forall_mem_cons.2 ⟨⟨List.forall_mem_cons.2 ⟨slV_ok 6 cB, fun _ h => absurd h List.not_mem_nil⟩, by decide⟩, fun _ h => absurd h List.not_mem_nil⟩⟩⟩, fun _ h => absurd h List.not_mem_nil⟩⟩)
theorem swarflaw09_MeetRadical_ok (k : Nat) (x : TL [CircleD, CircleD, VecD]) (t : Bool) (h : swarflaw09_MeetRadical k x.1 x.2.1 x.2.2.1 = some t) : CallOk Tryz.prog 13 (Cods.enc (.cons cCircle (.cons cCircle (.cons cVec .nil))) x) ((oOne cB).enc t) :=
  fun_ok (ctx_swarflaw09_MeetRadical_ok k) mixed rfl Tryz.func13 body_swarflaw09_MeetRadical Tryz.ntmps13 (rs := [.tmp 6]) (by kernel_rfl) (by show 3 ≤ 135; decide)
    (show runF (ctx_swarflaw09_MeetRadical k) code_swarflaw09_MeetRadical [.tmp 6] none (Cods.enc (.cons cCircle (.cons cCircle (.cons cVec .nil))) x) (oOne cB).dec = swarflaw09_MeetRadical k x.1 x.2.1 x.2.2.1 by kernel_rfl) h
end Go.Proofs.YtbjkpogfgijmaaaGreat
