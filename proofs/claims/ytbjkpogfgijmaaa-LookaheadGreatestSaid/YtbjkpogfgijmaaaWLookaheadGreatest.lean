/- WRITTEN BY gen.py: the loaded functions come to the functions of plain data (those that the law LookaheadGreatest reaches). -/
import Derived.Test.YtbjkpogfgijmaaaTyTry
import Derived.Test.YtbjkpogfgijmaaaPure1
namespace Go.Proofs.Ytbjkpogfgijmaaa
open Go Go.Proofs
set_option linter.unusedVariables false
set_option linter.unusedSimpArgs false
set_option maxRecDepth 1000000
noncomputable def code_swarfref01_limbs : Code := (Try.f118.body).getD .skip
theorem body_swarfref01_limbs : Try.f118.body = some code_swarfref01_limbs := by kernel_rfl
def ctx_swarfref01_limbs (k : Nat) : Ctx := mkC 15 tyTab [] [] [(0, .norm k [slV 0 (cInt .u64), slA 3 (.i .u32) 133] [(.exit 0, [slA 3 (.i .u32) 133])])] true 133 false
theorem ctx_swarfref01_limbs_ok (k : Nat) : CtxOk Try.prog (ctx_swarfref01_limbs k) := mkC_ok tyTab_ok (fun _ h => absurd h List.not_mem_nil) (fun _ h => absurd h List.not_mem_nil) (List.forall_mem_cons.2 ⟨⟨⟨List.forall_mem_cons.2 ⟨slV_ok 0 (cInt .u64), List.forall_mem_cons.2 ⟨slA_ok 3 (.i .u32) 133, fun _ h => absurd h List.not_mem_nil⟩⟩, by decide⟩, List.forall_mem_cons.2 ⟨⟨List.forall_mem_cons.2 ⟨slA_ok 3 (.i .u32) 133, fun _ h => absurd h List.not_mem_nil⟩, by decide⟩, fun _ h => absurd h List.not_mem_nil⟩⟩, fun _ h => absurd h List.not_mem_nil⟩)
theorem swarfref01_limbs_ok (k : Nat) (x : TL [Int]) (t : List Int) (h : swarfref01_limbs k x.1 = some t) : CallOk Try.prog 118 (Cods.enc (.cons (cInt .u64) .nil) x) ((oOne (cL (.i .u32))).enc t) :=
  fun_ok (ctx_swarfref01_limbs_ok k) mixed rfl Try.func118 body_swarfref01_limbs Try.ntmps118 (rs := [.tmp 2]) (by kernel_rfl) (by show 1 ≤ 15; decide)
    (show runF (ctx_swarfref01_limbs k) code_swarfref01_limbs [.tmp 2] none (Cods.enc (.cons (cInt .u64) .nil) x) (oOne (cL (.i .u32))).dec = swarfref01_limbs k x.1 by kernel_rfl) h
def e_swarfref01_limbs (k : Nat) : Nat × Ent := (118, ent (.cons (cInt .u64) .nil) (oOne (cL (.i .u32))) fun x => swarfref01_limbs k x.1)
theorem e_swarfref01_limbs_ok (k : Nat) : EntOk Try.prog (e_swarfref01_limbs k).1 (e_swarfref01_limbs k).2 ∧ entered Try.prog (e_swarfref01_limbs k).1 := ⟨ent_ok (swarfref01_limbs_ok k), Try.f118, Try.func118, by kernel_rfl, by kernel_rfl⟩
noncomputable def code_swarfref01_trim : Code := (Try.f130.body).getD .skip
theorem body_swarfref01_trim : Try.f130.body = some code_swarfref01_trim := by kernel_rfl
def ctx_swarfref01_trim (k : Nat) : Ctx := mkC 21 tyTab [] [] [(0, .norm k [slV 0 (cL (.i .u32))] [(.exit 0, [slV 0 (cL (.i .u32))])])] true 133 false
theorem ctx_swarfref01_trim_ok (k : Nat) : CtxOk Try.prog (ctx_swarfref01_trim k) := mkC_ok tyTab_ok (fun _ h => absurd h List.not_mem_nil) (fun _ h => absurd h List.not_mem_nil) (List.forall_mem_cons.2 ⟨⟨⟨List.forall_mem_cons.2 ⟨slV_ok 0 (cL (.i .u32)), fun _ h => absurd h List.not_mem_nil⟩, by decide⟩, List.forall_mem_cons.2 ⟨⟨List.forall_mem_cons.2 ⟨slV_ok 0 (cL (.i .u32)), fun _ h => absurd h List.not_mem_nil⟩, by decide⟩, fun _ h => absurd h List.not_mem_nil⟩⟩, fun _ h => absurd h List.not_mem_nil⟩)
theorem swarfref01_trim_ok (k : Nat) (x : TL [List Int]) (t : List Int) (h : swarfref01_trim k x.1 = some t) : CallOk Try.prog 130 (Cods.enc (.cons (cL (.i .u32)) .nil) x) ((oOne (cL (.i .u32))).enc t) :=
  fun_ok (ctx_swarfref01_trim_ok k) mixed rfl Try.func130 body_swarfref01_trim Try.ntmps130 (rs := [.tmp 2]) (by kernel_rfl) (by show 1 ≤ 21; decide)
    (show runF (ctx_swarfref01_trim k) code_swarfref01_trim [.tmp 2] none (Cods.enc (.cons (cL (.i .u32)) .nil) x) (oOne (cL (.i .u32))).dec = swarfref01_trim k x.1 by kernel_rfl) h
def e_swarfref01_trim (k : Nat) : Nat × Ent := (130, ent (.cons (cL (.i .u32)) .nil) (oOne (cL (.i .u32))) fun x => swarfref01_trim k x.1)
theorem e_swarfref01_trim_ok (k : Nat) : EntOk Try.prog (e_swarfref01_trim k).1 (e_swarfref01_trim k).2 ∧ entered Try.prog (e_swarfref01_trim k).1 := ⟨ent_ok (swarfref01_trim_ok k), Try.f130, Try.func130, by kernel_rfl, by kernel_rfl⟩
noncomputable def code_swarfref01_signed : Code := (Try.f117.body).getD .skip
theorem body_swarfref01_signed : Try.f117.body = some code_swarfref01_signed := by kernel_rfl
def ctx_swarfref01_signed (k : Nat) : Ctx := mkC 15 tyTab [e_swarfref01_trim k] [] [] true 133 false
theorem ctx_swarfref01_signed_ok (k : Nat) : CtxOk Try.prog (ctx_swarfref01_signed k) := mkC_ok tyTab_ok (List.forall_mem_cons.2 ⟨e_swarfref01_trim_ok k, fun _ h => absurd h List.not_mem_nil⟩) (fun _ h => absurd h List.not_mem_nil) (fun _ h => absurd h List.not_mem_nil)
theorem swarfref01_signed_ok (k : Nat) (x : TL [Bool, List Int]) (t : IntD) (h : swarfref01_signed k x.1 x.2.1 = some t) : CallOk Try.prog 117 (Cods.enc (.cons cB (.cons (cL (.i .u32)) .nil)) x) ((oOne cIntD).enc t) :=
  fun_ok (ctx_swarfref01_signed_ok k) mixed rfl Try.func117 body_swarfref01_signed Try.ntmps117 (rs := [.cell 4 24]) (by kernel_rfl) (by show 2 ≤ 15; decide)
    (show runF (ctx_swarfref01_signed k) code_swarfref01_signed [.cell 4 24] none (Cods.enc (.cons cB (.cons (cL (.i .u32)) .nil)) x) (oOne cIntD).dec = swarfref01_signed k x.1 x.2.1 by kernel_rfl) h
def e_swarfref01_signed (k : Nat) : Nat × Ent := (117, ent (.cons cB (.cons (cL (.i .u32)) .nil)) (oOne cIntD) fun x => swarfref01_signed k x.1 x.2.1)
theorem e_swarfref01_signed_ok (k : Nat) : EntOk Try.prog (e_swarfref01_signed k).1 (e_swarfref01_signed k).2 ∧ entered Try.prog (e_swarfref01_signed k).1 := ⟨ent_ok (swarfref01_signed_ok k), Try.f117, Try.func117, by kernel_rfl, by kernel_rfl⟩
noncomputable def code_swarfref01_FromInt64 : Code := (Try.f79.body).getD .skip
theorem body_swarfref01_FromInt64 : Try.f79.body = some code_swarfref01_FromInt64 := by kernel_rfl
def ctx_swarfref01_FromInt64 (k : Nat) : Ctx := mkC 14 tyTab [e_swarfref01_signed k, e_swarfref01_limbs k] [] [] true 133 false
theorem ctx_swarfref01_FromInt64_ok (k : Nat) : CtxOk Try.prog (ctx_swarfref01_FromInt64 k) := mkC_ok tyTab_ok (List.forall_mem_cons.2 ⟨e_swarfref01_signed_ok k, List.forall_mem_cons.2 ⟨e_swarfref01_limbs_ok k, fun _ h => absurd h List.not_mem_nil⟩⟩) (fun _ h => absurd h List.not_mem_nil) (fun _ h => absurd h List.not_mem_nil)
theorem swarfref01_FromInt64_ok (k : Nat) (x : TL [Int]) (t : IntD) (h : swarfref01_FromInt64 k x.1 = some t) : CallOk Try.prog 79 (Cods.enc (.cons (cInt .i64) .nil) x) ((oOne cIntD).enc t) :=
  fun_ok (ctx_swarfref01_FromInt64_ok k) mixed rfl Try.func79 body_swarfref01_FromInt64 Try.ntmps79 (rs := [.cell 2 24]) (by kernel_rfl) (by show 1 ≤ 14; decide)
    (show runF (ctx_swarfref01_FromInt64 k) code_swarfref01_FromInt64 [.cell 2 24] none (Cods.enc (.cons (cInt .i64) .nil) x) (oOne cIntD).dec = swarfref01_FromInt64 k x.1 by kernel_rfl) h
def e_swarfref01_FromInt64 (k : Nat) : Nat × Ent := (79, ent (.cons (cInt .i64) .nil) (oOne cIntD) fun x => swarfref01_FromInt64 k x.1)
theorem e_swarfref01_FromInt64_ok (k : Nat) : EntOk Try.prog (e_swarfref01_FromInt64 k).1 (e_swarfref01_FromInt64 k).2 ∧ entered Try.prog (e_swarfref01_FromInt64 k).1 := ⟨ent_ok (swarfref01_FromInt64_ok k), Try.f79, Try.func79, by kernel_rfl, by kernel_rfl⟩
noncomputable def code_swarfref02_unit : Code := (Try.f80.body).getD .skip
theorem body_swarfref02_unit : Try.f80.body = some code_swarfref02_unit := by kernel_rfl
def ctx_swarfref02_unit (k : Nat) : Ctx := mkC 2 tyTab [e_swarfref01_FromInt64 k] [] [] true 133 false
theorem ctx_swarfref02_unit_ok (k : Nat) : CtxOk Try.prog (ctx_swarfref02_unit k) := mkC_ok tyTab_ok (List.forall_mem_cons.2 ⟨e_swarfref01_FromInt64_ok k, fun _ h => absurd h List.not_mem_nil⟩) (fun _ h => absurd h List.not_mem_nil) (fun _ h => absurd h List.not_mem_nil)
theorem swarfref02_unit_ok (k : Nat) (x : TL []) (t : IntD) (h : swarfref02_unit k = some t) : CallOk Try.prog 80 (Cods.enc .nil x) ((oOne cIntD).enc t) :=
  fun_ok (ctx_swarfref02_unit_ok k) mixed rfl Try.func80 body_swarfref02_unit Try.ntmps80 (rs := [.cell 0 24]) (by kernel_rfl) (by show 0 ≤ 2; decide)
    (show runF (ctx_swarfref02_unit k) code_swarfref02_unit [.cell 0 24] none (Cods.enc .nil x) (oOne cIntD).dec = swarfref02_unit k by kernel_rfl) h
def e_swarfref02_unit (k : Nat) : Nat × Ent := (80, ent .nil (oOne cIntD) fun x => swarfref02_unit k)
theorem e_swarfref02_unit_ok (k : Nat) : EntOk Try.prog (e_swarfref02_unit k).1 (e_swarfref02_unit k).2 ∧ entered Try.prog (e_swarfref02_unit k).1 := ⟨ent_ok (swarfref02_unit_ok k), Try.f80, Try.func80, by kernel_rfl, by kernel_rfl⟩
noncomputable def code_swarfref01_compare : Code := (Try.f104.body).getD .skip
theorem body_swarfref01_compare : Try.f104.body = some code_swarfref01_compare := by kernel_rfl
def ctx_swarfref01_compare (k : Nat) : Ctx := mkC 41 tyTab [] [] [(0, .norm k [slV 0 (cL (.i .u32)), slV 1 (cL (.i .u32)), slV 5 (cInt .i64)] [(.exit 0, []), (.ret, [slV 4 (cInt .i64)])])] true 133 false
theorem ctx_swarfref01_compare_ok (k : Nat) : CtxOk Try.prog (ctx_swarfref01_compare k) := mkC_ok tyTab_ok (fun _ h => absurd h List.not_mem_nil) (fun _ h => absurd h List.not_mem_nil) (List.forall_mem_cons.2 ⟨⟨⟨List.forall_mem_cons.2 ⟨slV_ok 0 (cL (.i .u32)), List.forall_mem_cons.2 ⟨slV_ok 1 (cL (.i .u32)), List.forall_mem_cons.2 ⟨slV_ok 5 (cInt .i64), fun _ h => absurd h List.not_mem_nil⟩⟩⟩, by decide⟩, List.forall_mem_cons.2 ⟨⟨fun _ h => absurd h List.not_mem_nil, by decide⟩, List.forall_mem_cons.2 ⟨⟨List.forall_mem_cons.2 ⟨slV_ok 4 (cInt .i64), fun _ h => absurd h List.not_mem_nil⟩, by decide⟩, fun _ h => absurd h List.not_mem_nil⟩⟩⟩, fun _ h => absurd h List.not_mem_nil⟩)
theorem swarfref01_compare_ok (k : Nat) (x : TL [List Int, List Int]) (t : Int) (h : swarfref01_compare k x.1 x.2.1 = some t) : CallOk Try.prog 104 (Cods.enc (.cons (cL (.i .u32)) (.cons (cL (.i .u32)) .nil)) x) ((oOne (cInt .i64)).enc t) :=
  fun_ok (ctx_swarfref01_compare_ok k) mixed rfl Try.func104 body_swarfref01_compare Try.ntmps104 (rs := [.tmp 4]) (by kernel_rfl) (by show 2 ≤ 41; decide)
    (show runF (ctx_swarfref01_compare k) code_swarfref01_compare [.tmp 4] none (Cods.enc (.cons (cL (.i .u32)) (.cons (cL (.i .u32)) .nil)) x) (oOne (cInt .i64)).dec = swarfref01_compare k x.1 x.2.1 by kernel_rfl) h
def e_swarfref01_compare (k : Nat) : Nat × Ent := (104, ent (.cons (cL (.i .u32)) (.cons (cL (.i .u32)) .nil)) (oOne (cInt .i64)) fun x => swarfref01_compare k x.1 x.2.1)
theorem e_swarfref01_compare_ok (k : Nat) : EntOk Try.prog (e_swarfref01_compare k).1 (e_swarfref01_compare k).2 ∧ entered Try.prog (e_swarfref01_compare k).1 := ⟨ent_ok (swarfref01_compare_ok k), Try.f104, Try.func104, by kernel_rfl, by kernel_rfl⟩
noncomputable def code_integer_Sign : Code := (Try.f97.body).getD .skip
theorem body_integer_Sign : Try.f97.body = some code_integer_Sign := by kernel_rfl
def ctx_integer_Sign (k : Nat) : Ctx := mkC 11 tyTab [] [] [] true 133 false
theorem ctx_integer_Sign_ok (k : Nat) : CtxOk Try.prog (ctx_integer_Sign k) := mkC_ok tyTab_ok (fun _ h => absurd h List.not_mem_nil) (fun _ h => absurd h List.not_mem_nil) (fun _ h => absurd h List.not_mem_nil)
theorem integer_Sign_ok (k : Nat) (x : TL [IntD]) (t : Int) (h : integer_Sign k x.1 = some t) : CallOk Try.prog 97 (Cods.enc (.cons cIntD .nil) x) ((oOne (cInt .i64)).enc t) :=
  fun_ok (ctx_integer_Sign_ok k) mixed rfl Try.func97 body_integer_Sign Try.ntmps97 (rs := [.tmp 2]) (by kernel_rfl) (by show 1 ≤ 11; decide)
    (show runF (ctx_integer_Sign k) code_integer_Sign [.tmp 2] none (Cods.enc (.cons cIntD .nil) x) (oOne (cInt .i64)).dec = integer_Sign k x.1 by kernel_rfl) h
def e_integer_Sign (k : Nat) : Nat × Ent := (97, ent (.cons cIntD .nil) (oOne (cInt .i64)) fun x => integer_Sign k x.1)
theorem e_integer_Sign_ok (k : Nat) : EntOk Try.prog (e_integer_Sign k).1 (e_integer_Sign k).2 ∧ entered Try.prog (e_integer_Sign k).1 := ⟨ent_ok (integer_Sign_ok k), Try.f97, Try.func97, by kernel_rfl, by kernel_rfl⟩
noncomputable def code_rational_Sign : Code := (Try.f48.body).getD .skip
theorem body_rational_Sign : Try.f48.body = some code_rational_Sign := by kernel_rfl
def ctx_rational_Sign (k : Nat) : Ctx := mkC 6 tyTab [e_integer_Sign k] [] [] true 133 false
theorem ctx_rational_Sign_ok (k : Nat) : CtxOk Try.prog (ctx_rational_Sign k) := mkC_ok tyTab_ok (List.forall_mem_cons.2 ⟨e_integer_Sign_ok k, fun _ h => absurd h List.not_mem_nil⟩) (fun _ h => absurd h List.not_mem_nil) (fun _ h => absurd h List.not_mem_nil)
theorem rational_Sign_ok (k : Nat) (x : TL [RatD]) (t : Int) (h : rational_Sign k x.1 = some t) : CallOk Try.prog 48 (Cods.enc (.cons cRat .nil) x) ((oOne (cInt .i64)).enc t) :=
  fun_ok (ctx_rational_Sign_ok k) mixed rfl Try.func48 body_rational_Sign Try.ntmps48 (rs := [.tmp 2]) (by kernel_rfl) (by show 1 ≤ 6; decide)
    (show runF (ctx_rational_Sign k) code_rational_Sign [.tmp 2] none (Cods.enc (.cons cRat .nil) x) (oOne (cInt .i64)).dec = rational_Sign k x.1 by kernel_rfl) h
def e_rational_Sign (k : Nat) : Nat × Ent := (48, ent (.cons cRat .nil) (oOne (cInt .i64)) fun x => rational_Sign k x.1)
theorem e_rational_Sign_ok (k : Nat) : EntOk Try.prog (e_rational_Sign k).1 (e_rational_Sign k).2 ∧ entered Try.prog (e_rational_Sign k).1 := ⟨ent_ok (rational_Sign_ok k), Try.f48, Try.func48, by kernel_rfl, by kernel_rfl⟩
noncomputable def code_integer_signed : Code := (Try.f122.body).getD .skip
theorem body_integer_signed : Try.f122.body = some code_integer_signed := by kernel_rfl
def ctx_integer_signed (k : Nat) : Ctx := mkC 30 tyTab [] [] [(0, .norm k [slV 0 cB, slV 1 (cL (.i .u32)), slR 4 IntD.lv dIntD, slV 5 (cInt .i64)] [(.exit 0, [slV 0 cB, slV 1 (cL (.i .u32)), slR 4 IntD.lv dIntD, slV 5 (cInt .i64)])])] true 133 false
theorem ctx_integer_signed_ok (k : Nat) : CtxOk Try.prog (ctx_integer_signed k) := mkC_ok tyTab_ok (fun _ h => absurd h List.not_mem_nil) (fun _ h => absurd h List.not_mem_nil) (List.forall_mem_cons.2 ⟨⟨⟨List.forall_mem_cons.2 ⟨slV_ok 0 cB, List.forall_mem_cons.2 ⟨slV_ok 1 (cL (.i .u32)), List.forall_mem_cons.2 ⟨slR_ok 4 fun _ _ => dIntD_weak, List.forall_mem_cons.2 ⟨slV_ok 5 (cInt .i64), fun _ h => absurd h List.not_mem_nil⟩⟩⟩⟩, by decide⟩, List.forall_mem_cons.2 ⟨⟨List.forall_mem_cons.2 ⟨slV_ok 0 cB, List.forall_mem_cons.2 ⟨slV_ok 1 (cL (.i .u32)), List.forall_mem_cons.2 ⟨slR_ok 4 fun _ _ => dIntD_weak, List.forall_mem_cons.2 ⟨slV_ok 5 (cInt .i64), fun _ h => absurd h List.not_mem_nil⟩⟩⟩⟩, by decide⟩, fun _ h => absurd h List.not_mem_nil⟩⟩, fun _ h => absurd h List.not_mem_nil⟩)
theorem integer_signed_ok (k : Nat) (x : TL [Bool, List Int]) (t : IntD) (h : integer_signed k x.1 x.2.1 = some t) : CallOk Try.prog 122 (Cods.enc (.cons cB (.cons (cL (.i .u32)) .nil)) x) ((oOne cIntD).enc t) :=
  fun_ok (ctx_integer_signed_ok k) mixed rfl Try.func122 body_integer_signed Try.ntmps122 (rs := [.cell 4 24]) (by kernel_rfl) (by show 2 ≤ 30; decide)
    (show runF (ctx_integer_signed k) code_integer_signed [.cell 4 24] none (Cods.enc (.cons cB (.cons (cL (.i .u32)) .nil)) x) (oOne cIntD).dec = integer_signed k x.1 x.2.1 by kernel_rfl) h
def e_integer_signed (k : Nat) : Nat × Ent := (122, ent (.cons cB (.cons (cL (.i .u32)) .nil)) (oOne cIntD) fun x => integer_signed k x.1 x.2.1)
theorem e_integer_signed_ok (k : Nat) : EntOk Try.prog (e_integer_signed k).1 (e_integer_signed k).2 ∧ entered Try.prog (e_integer_signed k).1 := ⟨ent_ok (integer_signed_ok k), Try.f122, Try.func122, by kernel_rfl, by kernel_rfl⟩
noncomputable def code_integer_split : Code := (Try.f127.body).getD .skip
theorem body_integer_split : Try.f127.body = some code_integer_split := by kernel_rfl
def ctx_integer_split (k : Nat) : Ctx := mkC 15 tyTab [] [] [] true 133 false
theorem ctx_integer_split_ok (k : Nat) : CtxOk Try.prog (ctx_integer_split k) := mkC_ok tyTab_ok (fun _ h => absurd h List.not_mem_nil) (fun _ h => absurd h List.not_mem_nil) (fun _ h => absurd h List.not_mem_nil)
theorem integer_split_ok (k : Nat) (x : TL [Int]) (t : List Int) (h : integer_split k x.1 = some t) : CallOk Try.prog 127 (Cods.enc (.cons (cInt .u64) .nil) x) ((oOne (cL (.i .u32))).enc t) :=
  fun_ok (ctx_integer_split_ok k) mixed rfl Try.func127 body_integer_split Try.ntmps127 (rs := [.tmp 2]) (by kernel_rfl) (by show 1 ≤ 15; decide)
    (show runF (ctx_integer_split k) code_integer_split [.tmp 2] none (Cods.enc (.cons (cInt .u64) .nil) x) (oOne (cL (.i .u32))).dec = integer_split k x.1 by kernel_rfl) h
def e_integer_split (k : Nat) : Nat × Ent := (127, ent (.cons (cInt .u64) .nil) (oOne (cL (.i .u32))) fun x => integer_split k x.1)
theorem e_integer_split_ok (k : Nat) : EntOk Try.prog (e_integer_split k).1 (e_integer_split k).2 ∧ entered Try.prog (e_integer_split k).1 := ⟨ent_ok (integer_split_ok k), Try.f127, Try.func127, by kernel_rfl, by kernel_rfl⟩
noncomputable def code_integer_FromInt64 : Code := (Try.f92.body).getD .skip
theorem body_integer_FromInt64 : Try.f92.body = some code_integer_FromInt64 := by kernel_rfl
def ctx_integer_FromInt64 (k : Nat) : Ctx := mkC 15 tyTab [e_integer_signed k, e_integer_split k] [] [] true 133 false
theorem ctx_integer_FromInt64_ok (k : Nat) : CtxOk Try.prog (ctx_integer_FromInt64 k) := mkC_ok tyTab_ok (List.forall_mem_cons.2 ⟨e_integer_signed_ok k, List.forall_mem_cons.2 ⟨e_integer_split_ok k, fun _ h => absurd h List.not_mem_nil⟩⟩) (fun _ h => absurd h List.not_mem_nil) (fun _ h => absurd h List.not_mem_nil)
theorem integer_FromInt64_ok (k : Nat) (x : TL [Int]) (t : IntD) (h : integer_FromInt64 k x.1 = some t) : CallOk Try.prog 92 (Cods.enc (.cons (cInt .i64) .nil) x) ((oOne cIntD).enc t) :=
  fun_ok (ctx_integer_FromInt64_ok k) mixed rfl Try.func92 body_integer_FromInt64 Try.ntmps92 (rs := [.cell 2 24]) (by kernel_rfl) (by show 1 ≤ 15; decide)
    (show runF (ctx_integer_FromInt64 k) code_integer_FromInt64 [.cell 2 24] none (Cods.enc (.cons (cInt .i64) .nil) x) (oOne cIntD).dec = integer_FromInt64 k x.1 by kernel_rfl) h
def e_integer_FromInt64 (k : Nat) : Nat × Ent := (92, ent (.cons (cInt .i64) .nil) (oOne cIntD) fun x => integer_FromInt64 k x.1)
theorem e_integer_FromInt64_ok (k : Nat) : EntOk Try.prog (e_integer_FromInt64 k).1 (e_integer_FromInt64 k).2 ∧ entered Try.prog (e_integer_FromInt64 k).1 := ⟨ent_ok (integer_FromInt64_ok k), Try.f92, Try.func92, by kernel_rfl, by kernel_rfl⟩
noncomputable def code_integer_trim : Code := (Try.f141.body).getD .skip
theorem body_integer_trim : Try.f141.body = some code_integer_trim := by kernel_rfl
def ctx_integer_trim (k : Nat) : Ctx := mkC 21 tyTab [] [] [(0, .norm k [slV 0 (cL (.i .u32))] [(.exit 0, [slV 0 (cL (.i .u32))])])] true 133 false
theorem ctx_integer_trim_ok (k : Nat) : CtxOk Try.prog (ctx_integer_trim k) := mkC_ok tyTab_ok (fun _ h => absurd h List.not_mem_nil) (fun _ h => absurd h List.not_mem_nil) (List.forall_mem_cons.2 ⟨⟨⟨List.forall_mem_cons.2 ⟨slV_ok 0 (cL (.i .u32)), fun _ h => absurd h List.not_mem_nil⟩, by decide⟩, List.forall_mem_cons.2 ⟨⟨List.forall_mem_cons.2 ⟨slV_ok 0 (cL (.i .u32)), fun _ h => absurd h List.not_mem_nil⟩, by decide⟩, fun _ h => absurd h List.not_mem_nil⟩⟩, fun _ h => absurd h List.not_mem_nil⟩)
theorem integer_trim_ok (k : Nat) (x : TL [List Int]) (t : List Int) (h : integer_trim k x.1 = some t) : CallOk Try.prog 141 (Cods.enc (.cons (cL (.i .u32)) .nil) x) ((oOne (cL (.i .u32))).enc t) :=
  fun_ok (ctx_integer_trim_ok k) mixed rfl Try.func141 body_integer_trim Try.ntmps141 (rs := [.tmp 2]) (by kernel_rfl) (by show 1 ≤ 21; decide)
    (show runF (ctx_integer_trim k) code_integer_trim [.tmp 2] none (Cods.enc (.cons (cL (.i .u32)) .nil) x) (oOne (cL (.i .u32))).dec = integer_trim k x.1 by kernel_rfl) h
def e_integer_trim (k : Nat) : Nat × Ent := (141, ent (.cons (cL (.i .u32)) .nil) (oOne (cL (.i .u32))) fun x => integer_trim k x.1)
theorem e_integer_trim_ok (k : Nat) : EntOk Try.prog (e_integer_trim k).1 (e_integer_trim k).2 ∧ entered Try.prog (e_integer_trim k).1 := ⟨ent_ok (integer_trim_ok k), Try.f141, Try.func141, by kernel_rfl, by kernel_rfl⟩
noncomputable def code_integer_byWord : Code := (Try.f142.body).getD .skip
theorem body_integer_byWord : Try.f142.body = some code_integer_byWord := by kernel_rfl
def ctx_integer_byWord (k : Nat) : Ctx := mkC 44 tyTab [] [] [(0, .norm k [slV 0 (cL (.i .u32)), slV 1 (cInt .u32), slA 6 (.i .u32) 133, slV 7 (cInt .u64), slV 8 (cInt .i64)] [(.exit 0, [slA 6 (.i .u32) 133, slV 7 (cInt .u64)])])] true 133 false
theorem ctx_integer_byWord_ok (k : Nat) : CtxOk Try.prog (ctx_integer_byWord k) := mkC_ok tyTab_ok (fun _ h => absurd h List.not_mem_nil) (fun _ h => absurd h List.not_mem_nil) (List.forall_mem_cons.2 ⟨⟨⟨List.forall_mem_cons.2 ⟨slV_ok 0 (cL (.i .u32)), List.forall_mem_cons.2 ⟨slV_ok 1 (cInt .u32), List.forall_mem_cons.2 ⟨slA_ok 6 (.i .u32) 133, List.forall_mem_cons.2 ⟨slV_ok 7 (cInt .u64), List.forall_mem_cons.2 ⟨slV_ok 8 (cInt .i64), fun _ h => absurd h List.not_mem_nil⟩⟩⟩⟩⟩, by decide⟩, List.forall_mem_cons.2 ⟨⟨List.forall_mem_cons.2 ⟨slA_ok 6 (.i .u32) 133, List.forall_mem_cons.2 ⟨slV_ok 7 (cInt .u64), fun _ h => absurd h List.not_mem_nil⟩⟩, by decide⟩, fun _ h => absurd h List.not_mem_nil⟩⟩, fun _ h => absurd h List.not_mem_nil⟩)
theorem integer_byWord_ok (k : Nat) (x : TL [List Int, Int]) (t : List Int × List Int) (h : integer_byWord k x.1 x.2.1 = some t) : CallOk Try.prog 142 (Cods.enc (.cons (cL (.i .u32)) (.cons (cInt .u32) .nil)) x) ((o2 (cL (.i .u32)) (cL (.i .u32))).enc t) :=
  fun_ok (ctx_integer_byWord_ok k) mixed rfl Try.func142 body_integer_byWord Try.ntmps142 (rs := [.tmp 4, .tmp 5]) (by kernel_rfl) (by show 2 ≤ 44; decide)
    (show runF (ctx_integer_byWord k) code_integer_byWord [.tmp 4, .tmp 5] none (Cods.enc (.cons (cL (.i .u32)) (.cons (cInt .u32) .nil)) x) (o2 (cL (.i .u32)) (cL (.i .u32))).dec = integer_byWord k x.1 x.2.1 by kernel_rfl) h
def e_integer_byWord (k : Nat) : Nat × Ent := (142, ent (.cons (cL (.i .u32)) (.cons (cInt .u32) .nil)) (o2 (cL (.i .u32)) (cL (.i .u32))) fun x => integer_byWord k x.1 x.2.1)
theorem e_integer_byWord_ok (k : Nat) : EntOk Try.prog (e_integer_byWord k).1 (e_integer_byWord k).2 ∧ entered Try.prog (e_integer_byWord k).1 := ⟨ent_ok (integer_byWord_ok k), Try.f142, Try.func142, by kernel_rfl, by kernel_rfl⟩
noncomputable def code_integer_compare : Code := (Try.f125.body).getD .skip
theorem body_integer_compare : Try.f125.body = some code_integer_compare := by kernel_rfl
def ctx_integer_compare (k : Nat) : Ctx := mkC 45 tyTab [e_integer_trim k] [] [(0, .norm k [slV 0 (cL (.i .u32)), slV 1 (cL (.i .u32)), slV 5 (cInt .i64)] [(.exit 0, []), (.ret, [slV 4 (cInt .i64)])])] true 133 false
theorem ctx_integer_compare_ok (k : Nat) : CtxOk Try.prog (ctx_integer_compare k) := mkC_ok tyTab_ok (List.forall_mem_cons.2 ⟨e_integer_trim_ok k, fun _ h => absurd h List.not_mem_nil⟩) (fun _ h => absurd h List.not_mem_nil) (List.forall_mem_cons.2 ⟨⟨⟨List.forall_mem_cons.2 ⟨slV_ok 0 (cL (.i .u32)), List.forall_mem_cons.2 ⟨slV_ok 1 (cL (.i .u32)), List.forall_mem_cons.2 ⟨slV_ok 5 (cInt .i64), fun _ h => absurd h List.not_mem_nil⟩⟩⟩, by decide⟩, List.forall_mem_cons.2 ⟨⟨fun _ h => absurd h List.not_mem_nil, by decide⟩, List.forall_mem_cons.2 ⟨⟨List.forall_mem_cons.2 ⟨slV_ok 4 (cInt .i64), fun _ h => absurd h List.not_mem_nil⟩, by decide⟩, fun _ h => absurd h List.not_mem_nil⟩⟩⟩, fun _ h => absurd h List.not_mem_nil⟩)
theorem integer_compare_ok (k : Nat) (x : TL [List Int, List Int]) (t : Int) (h : integer_compare k x.1 x.2.1 = some t) : CallOk Try.prog 125 (Cods.enc (.cons (cL (.i .u32)) (.cons (cL (.i .u32)) .nil)) x) ((oOne (cInt .i64)).enc t) :=
  fun_ok (ctx_integer_compare_ok k) mixed rfl Try.func125 body_integer_compare Try.ntmps125 (rs := [.tmp 4]) (by kernel_rfl) (by show 2 ≤ 45; decide)
    (show runF (ctx_integer_compare k) code_integer_compare [.tmp 4] none (Cods.enc (.cons (cL (.i .u32)) (.cons (cL (.i .u32)) .nil)) x) (oOne (cInt .i64)).dec = integer_compare k x.1 x.2.1 by kernel_rfl) h
def e_integer_compare (k : Nat) : Nat × Ent := (125, ent (.cons (cL (.i .u32)) (.cons (cL (.i .u32)) .nil)) (oOne (cInt .i64)) fun x => integer_compare k x.1 x.2.1)
theorem e_integer_compare_ok (k : Nat) : EntOk Try.prog (e_integer_compare k).1 (e_integer_compare k).2 ∧ entered Try.prog (e_integer_compare k).1 := ⟨ent_ok (integer_compare_ok k), Try.f125, Try.func125, by kernel_rfl, by kernel_rfl⟩
noncomputable def code_integer_times : Code := (Try.f123.body).getD .skip
theorem body_integer_times : Try.f123.body = some code_integer_times := by kernel_rfl
def ctx_integer_times (k : Nat) : Ctx := mkC 68 tyTab [] [] [(2, .norm k [slV 1 (cL (.i .u32)), slA 5 (.i .u32) 133, slV 6 (cInt .i64), slV 7 (cInt .u32), slV 8 (cInt .u64), slV 18 (cL (.i .u32)), slV 19 (cInt .i64), slV 20 (cInt .i64), slV 25 (cL (.i .u32)), slV 26 (cInt .i64), slV 27 (cInt .i64)] [(.exit 2, [slV 1 (cL (.i .u32)), slA 5 (.i .u32) 133, slV 6 (cInt .i64), slV 8 (cInt .u64), slV 18 (cL (.i .u32)), slV 19 (cInt .i64), slV 20 (cInt .i64)])]), (0, .norm k [slV 1 (cL (.i .u32)), slA 5 (.i .u32) 133, slV 18 (cL (.i .u32)), slV 19 (cInt .i64), slV 20 (cInt .i64)] [(.exit 0, [slA 5 (.i .u32) 133])])] true 133 false
theorem ctx_integer_times_ok (k : Nat) : CtxOk Try.prog (ctx_integer_times k) := mkC_ok tyTab_ok (fun _ h => absurd h List.not_mem_nil) (fun _ h => absurd h List.not_mem_nil) (List.forall_mem_cons.2 ⟨⟨⟨List.forall_mem_cons.2 ⟨slV_ok 1 (cL (.i .u32)), List.forall_mem_cons.2 ⟨slA_ok 5 (.i .u32) 133, List.forall_mem_cons.2 ⟨slV_ok 6 (cInt .i64), List.forall_mem_cons.2 ⟨slV_ok 7 (cInt .u32), List.forall_mem_cons.2 ⟨slV_ok 8 (cInt .u64), List.forall_mem_cons.2 ⟨slV_ok 18 (cL (.i .u32)), List.forall_mem_cons.2 ⟨slV_ok 19 (cInt .i64), List.forall_mem_cons.2 ⟨slV_ok 20 (cInt .i64), List.forall_mem_cons.2 ⟨slV_ok 25 (cL (.i .u32)), List.forall_mem_cons.2 ⟨slV_ok 26 (cInt .i64), List.forall_mem_cons.2 ⟨slV_ok 27 (cInt .i64), fun _ h => absurd h List.not_mem_nil⟩⟩⟩⟩⟩⟩⟩⟩⟩⟩⟩, by decide⟩, List.forall_mem_cons.2 ⟨⟨List.forall_mem_cons.2 ⟨slV_ok 1 (cL (.i .u32)), List.forall_mem_cons.2 ⟨slA_ok 5 (.i .u32) 133, List.forall_mem_cons.2 ⟨slV_ok 6 (cInt .i64), List.forall_mem_cons.2 ⟨slV_ok 8 (cInt .u64), List.forall_mem_cons.2 ⟨slV_ok 18 (cL (.i .u32)), List.forall_mem_cons.2 ⟨slV_ok 19 (cInt .i64), List.forall_mem_cons.2 ⟨slV_ok 20 (cInt .i64), fun _ h => absurd h List.not_mem_nil⟩⟩⟩⟩⟩⟩⟩, by decide⟩, fun _ h => absurd h List.not_mem_nil⟩⟩, List.forall_mem_cons.2 ⟨⟨⟨List.forall_mem_cons.2 ⟨slV_ok 1 (cL (.i .u32)), List.forall_mem_cons.2 ⟨slA_ok 5 (.i .u32) 133, List.forall_mem_cons.2 ⟨slV_ok 18 (cL (.i .u32)), List.forall_mem_cons.2 ⟨slV_ok 19 (cInt .i64), List.forall_mem_cons.2 ⟨slV_ok 20 (cInt .i64), fun _ h => absurd h List.not_mem_nil⟩⟩⟩⟩⟩, by decide⟩, List.forall_mem_cons.2 ⟨⟨List.forall_mem_cons.2 ⟨slA_ok 5 (.i .u32) 133, fun _ h => absurd h List.not_mem_nil⟩, by decide⟩, fun _ h => absurd h List.not_mem_nil⟩⟩, fun _ h => absurd h List.not_mem_nil⟩⟩)
theorem integer_times_ok (k : Nat) (x : TL [List Int, List Int]) (t : List Int) (h : integer_times k x.1 x.2.1 = some t) : CallOk Try.prog 123 (Cods.enc (.cons (cL (.i .u32)) (.cons (cL (.i .u32)) .nil)) x) ((oF (.i .u32) 133).enc t) :=
  fun_ok (ctx_integer_times_ok k) mixed rfl Try.func123 body_integer_times Try.ntmps123 (rs := [.tmp 4]) (by kernel_rfl) (by show 2 ≤ 68; decide)
    (show runF (ctx_integer_times k) code_integer_times [.tmp 4] (some ((.i .u32), 133)) (Cods.enc (.cons (cL (.i .u32)) (.cons (cL (.i .u32)) .nil)) x) (oF (.i .u32) 133).dec = integer_times k x.1 x.2.1 by kernel_rfl) h
def e_integer_times (k : Nat) : Nat × Ent := (123, ent (.cons (cL (.i .u32)) (.cons (cL (.i .u32)) .nil)) (oF (.i .u32) 133) fun x => integer_times k x.1 x.2.1)
theorem e_integer_times_ok (k : Nat) : EntOk Try.prog (e_integer_times k).1 (e_integer_times k).2 ∧ entered Try.prog (e_integer_times k).1 := ⟨ent_ok (integer_times_ok k), Try.f123, Try.func123, by kernel_rfl, by kernel_rfl⟩
noncomputable def code_integer_subtract : Code := (Try.f143.body).getD .skip
theorem body_integer_subtract : Try.f143.body = some code_integer_subtract := by kernel_rfl
def ctx_integer_subtract (k : Nat) : Ctx := mkC 62 tyTab [] [] [(0, .norm k [slA 0 (.i .u32) 133, slV 1 (cL (.i .u32)), slV 2 (cInt .u64), slV 7 (cInt .u64), slV 8 (cInt .u64), slV 14 (cInt .i64), slV 15 (cInt .i64)] [(.exit 0, [slA 0 (.i .u32) 133, slV 7 (cInt .u64), slV 8 (cInt .u64)])])] false 133 false
theorem ctx_integer_subtract_ok (k : Nat) : CtxOk Try.prog (ctx_integer_subtract k) := mkC_ok tyTab_ok (fun _ h => absurd h List.not_mem_nil) (fun _ h => absurd h List.not_mem_nil) (List.forall_mem_cons.2 ⟨⟨⟨List.forall_mem_cons.2 ⟨slA_ok 0 (.i .u32) 133, List.forall_mem_cons.2 ⟨slV_ok 1 (cL (.i .u32)), List.forall_mem_cons.2 ⟨slV_ok 2 (cInt .u64), List.forall_mem_cons.2 ⟨slV_ok 7 (cInt .u64), List.forall_mem_cons.2 ⟨slV_ok 8 (cInt .u64), List.forall_mem_cons.2 ⟨slV_ok 14 (cInt .i64), List.forall_mem_cons.2 ⟨slV_ok 15 (cInt .i64), fun _ h => absurd h List.not_mem_nil⟩⟩⟩⟩⟩⟩⟩, by decide⟩, List.forall_mem_cons.2 ⟨⟨List.forall_mem_cons.2 ⟨slA_ok 0 (.i .u32) 133, List.forall_mem_cons.2 ⟨slV_ok 7 (cInt .u64), List.forall_mem_cons.2 ⟨slV_ok 8 (cInt .u64), fun _ h => absurd h List.not_mem_nil⟩⟩⟩, by decide⟩, fun _ h => absurd h List.not_mem_nil⟩⟩, fun _ h => absurd h List.not_mem_nil⟩)
theorem integer_subtract_ok (k : Nat) (seg : List Int) (x : TL [List Int, Int]) (t : Bool × List Int) (h : integer_subtract k seg x.1 x.2.1 = some t) : MutOk Try.prog 133 143 seg (Cods.enc (.cons (cL (.i .u32)) (.cons (cInt .u64) .nil)) x) ((cB.enc) t.1) t.2 :=
  mfun_ok (ctx_integer_subtract_ok k) mixed rfl Try.func143 body_integer_subtract Try.ntmps143 (rs := [.tmp 6]) (by kernel_rfl) (by show 2 + 1 ≤ 62; decide)
    (show runM (ctx_integer_subtract k) code_integer_subtract [.tmp 6] seg (Cods.enc (.cons (cL (.i .u32)) (.cons (cInt .u64) .nil)) x) (mdec1 cB) = integer_subtract k seg x.1 x.2.1 by kernel_rfl) h (mdec1_ok _ fun _ => rfl) rfl
def e_integer_subtract (k : Nat) : Nat × MEnt := (143, ment (.cons (cL (.i .u32)) (.cons (cInt .u64) .nil)) (cB.enc) fun seg x => integer_subtract k seg x.1 x.2.1)
theorem e_integer_subtract_ok (k : Nat) : MEntOk Try.prog 133 (e_integer_subtract k).1 (e_integer_subtract k).2 ∧ entered Try.prog (e_integer_subtract k).1 := ⟨ment_ok (o := cB.enc) (integer_subtract_ok k), Try.f143, Try.func143, by kernel_rfl, by kernel_rfl⟩
noncomputable def code_integer_restore : Code := (Try.f144.body).getD .skip
theorem body_integer_restore : Try.f144.body = some code_integer_restore := by kernel_rfl
def ctx_integer_restore (k : Nat) : Ctx := mkC 37 tyTab [] [] [(0, .norm k [slA 0 (.i .u32) 133, slV 1 (cL (.i .u32)), slV 4 (cInt .u32), slV 8 (cInt .i64), slV 9 (cInt .i64)] [(.exit 0, [slA 0 (.i .u32) 133])])] false 133 false
theorem ctx_integer_restore_ok (k : Nat) : CtxOk Try.prog (ctx_integer_restore k) := mkC_ok tyTab_ok (fun _ h => absurd h List.not_mem_nil) (fun _ h => absurd h List.not_mem_nil) (List.forall_mem_cons.2 ⟨⟨⟨List.forall_mem_cons.2 ⟨slA_ok 0 (.i .u32) 133, List.forall_mem_cons.2 ⟨slV_ok 1 (cL (.i .u32)), List.forall_mem_cons.2 ⟨slV_ok 4 (cInt .u32), List.forall_mem_cons.2 ⟨slV_ok 8 (cInt .i64), List.forall_mem_cons.2 ⟨slV_ok 9 (cInt .i64), fun _ h => absurd h List.not_mem_nil⟩⟩⟩⟩⟩, by decide⟩, List.forall_mem_cons.2 ⟨⟨List.forall_mem_cons.2 ⟨slA_ok 0 (.i .u32) 133, fun _ h => absurd h List.not_mem_nil⟩, by decide⟩, fun _ h => absurd h List.not_mem_nil⟩⟩, fun _ h => absurd h List.not_mem_nil⟩)
theorem integer_restore_ok (k : Nat) (seg : List Int) (x : TL [List Int]) (t : Unit × List Int) (h : integer_restore k seg x.1 = some t) : MutOk Try.prog 133 144 seg (Cods.enc (.cons (cL (.i .u32)) .nil) x) ((fun _ : Unit => AV.tup []) t.1) t.2 :=
  mfun_ok (ctx_integer_restore_ok k) mixed rfl Try.func144 body_integer_restore Try.ntmps144 (rs := []) (by kernel_rfl) (by show 1 + 1 ≤ 37; decide)
    (show runM (ctx_integer_restore k) code_integer_restore [] seg (Cods.enc (.cons (cL (.i .u32)) .nil) x) (mdec0) = integer_restore k seg x.1 by kernel_rfl) h mdec0_ok rfl
def e_integer_restore (k : Nat) : Nat × MEnt := (144, ment (.cons (cL (.i .u32)) .nil) (fun _ : Unit => AV.tup []) fun seg x => integer_restore k seg x.1)
theorem e_integer_restore_ok (k : Nat) : MEntOk Try.prog 133 (e_integer_restore k).1 (e_integer_restore k).2 ∧ entered Try.prog (e_integer_restore k).1 := ⟨ment_ok (o := fun _ : Unit => AV.tup []) (integer_restore_ok k), Try.f144, Try.func144, by kernel_rfl, by kernel_rfl⟩
noncomputable def code_integer_divide : Code := (Try.f128.body).getD .skip
theorem body_integer_divide : Try.f128.body = some code_integer_divide := by kernel_rfl
def ctx_integer_divide (k : Nat) : Ctx := mkC 179 tyTab [e_integer_times k, e_integer_compare k, e_integer_trim k, e_integer_byWord k] [e_integer_subtract k, e_integer_restore k] [(2, .norm k [slV 6 (cInt .i64), slV 7 (cInt .u32), slA 8 (.i .u32) 133, slV 9 (cL (.i .u32)), slA 10 (.i .u32) 133, slV 11 (cInt .i64), slV 13 (cInt .u64), slV 14 (cInt .u64)] [(.exit 2, [slV 6 (cInt .i64), slV 7 (cInt .u32), slA 8 (.i .u32) 133, slV 9 (cL (.i .u32)), slA 10 (.i .u32) 133, slV 11 (cInt .i64), slV 13 (cInt .u64)])]), (0, .norm k [slV 6 (cInt .i64), slV 7 (cInt .u32), slA 8 (.i .u32) 133, slV 9 (cL (.i .u32)), slA 10 (.i .u32) 133, slV 11 (cInt .i64)] [(.exit 0, [slV 6 (cInt .i64), slV 7 (cInt .u32), slA 8 (.i .u32) 133, slA 10 (.i .u32) 133])])] true 133 false
theorem ctx_integer_divide_ok (k : Nat) : CtxOk Try.prog (ctx_integer_divide k) := mkC_ok tyTab_ok (List.forall_mem_cons.2 ⟨e_integer_times_ok k, List.forall_mem_cons.2 ⟨e_integer_compare_ok k, List.forall_mem_cons.2 ⟨e_integer_trim_ok k, List.forall_mem_cons.2 ⟨e_integer_byWord_ok k, fun _ h => absurd h List.not_mem_nil⟩⟩⟩⟩) (List.forall_mem_cons.2 ⟨e_integer_subtract_ok k, List.forall_mem_cons.2 ⟨e_integer_restore_ok k, fun _ h => absurd h List.not_mem_nil⟩⟩) (List.forall_mem_cons.2 ⟨⟨⟨List.forall_mem_cons.2 ⟨slV_ok 6 (cInt .i64), List.forall_mem_cons.2 ⟨slV_ok 7 (cInt .u32), List.forall_mem_cons.2 ⟨slA_ok 8 (.i .u32) 133, List.forall_mem_cons.2 ⟨slV_ok 9 (cL (.i .u32)), List.forall_mem_cons.2 ⟨slA_ok 10 (.i .u32) 133, List.forall_mem_cons.2 ⟨slV_ok 11 (cInt .i64), List.forall_mem_cons.2 ⟨slV_ok 13 (cInt .u64), List.forall_mem_cons.2 ⟨slV_ok 14 (cInt .u64), fun _ h => absurd h List.not_mem_nil⟩⟩⟩⟩⟩⟩⟩⟩, by decide⟩, List.forall_mem_cons.2 ⟨⟨List.forall_mem_cons.2 ⟨slV_ok 6 (cInt .i64), List.forall_mem_cons.2 ⟨slV_ok 7 (cInt .u32), List.forall_mem_cons.2 ⟨slA_ok 8 (.i .u32) 133, List.forall_mem_cons.2 ⟨slV_ok 9 (cL (.i .u32)), List.forall_mem_cons.2 ⟨slA_ok 10 (.i .u32) 133, List.forall_mem_cons.2 ⟨slV_ok 11 (cInt .i64), List.forall_mem_cons.2 ⟨slV_ok 13 (cInt .u64), fun _ h => absurd h List.not_mem_nil⟩⟩⟩⟩⟩⟩⟩, by decide⟩, fun _ h => absurd h List.not_mem_nil⟩⟩, List.forall_mem_cons.2 ⟨⟨⟨List.forall_mem_cons.2 ⟨slV_ok 6 (cInt .i64), List.forall_mem_cons.2 ⟨slV_ok 7 (cInt .u32), List.forall_mem_cons.2 ⟨slA_ok 8 (.i .u32) 133, List.forall_mem_cons.2 ⟨slV_ok 9 (cL (.i .u32)), List.forall_mem_cons.2 ⟨slA_ok 10 (.i .u32) 133, List.forall_mem_cons.2 ⟨slV_ok 11 (cInt .i64), fun _ h => absurd h List.not_mem_nil⟩⟩⟩⟩⟩⟩, by decide⟩, List.forall_mem_cons.2 ⟨⟨List.forall_mem_cons.2 ⟨slV_ok 6 (cInt .i64), List.forall_mem_cons.2 ⟨slV_ok 7 (cInt .u32), List.forall_mem_cons.2 ⟨slA_ok 8 (.i .u32) 133, List.forall_mem_cons.2 ⟨slA_ok 10 (.i .u32) 133, fun _ h => absurd h List.not_mem_nil⟩⟩⟩⟩, by decide⟩, fun _ h => absurd h List.not_mem_nil⟩⟩, fun _ h => absurd h List.not_mem_nil⟩⟩)
theorem integer_divide_ok (k : Nat) (x : TL [List Int, List Int]) (t : List Int × List Int) (h : integer_divide k x.1 x.2.1 = some t) : CallOk Try.prog 128 (Cods.enc (.cons (cL (.i .u32)) (.cons (cL (.i .u32)) .nil)) x) ((o2 (cL (.i .u32)) (cL (.i .u32))).enc t) :=
  fun_ok (ctx_integer_divide_ok k) mixed rfl Try.func128 body_integer_divide Try.ntmps128 (rs := [.tmp 4, .tmp 5]) (by kernel_rfl) (by show 2 ≤ 179; decide)
    (show runF (ctx_integer_divide k) code_integer_divide [.tmp 4, .tmp 5] none (Cods.enc (.cons (cL (.i .u32)) (.cons (cL (.i .u32)) .nil)) x) (o2 (cL (.i .u32)) (cL (.i .u32))).dec = integer_divide k x.1 x.2.1 by kernel_rfl) h
def e_integer_divide (k : Nat) : Nat × Ent := (128, ent (.cons (cL (.i .u32)) (.cons (cL (.i .u32)) .nil)) (o2 (cL (.i .u32)) (cL (.i .u32))) fun x => integer_divide k x.1 x.2.1)
theorem e_integer_divide_ok (k : Nat) : EntOk Try.prog (e_integer_divide k).1 (e_integer_divide k).2 ∧ entered Try.prog (e_integer_divide k).1 := ⟨ent_ok (integer_divide_ok k), Try.f128, Try.func128, by kernel_rfl, by kernel_rfl⟩
noncomputable def code_integer_plus : Code := (Try.f124.body).getD .skip
theorem body_integer_plus : Try.f124.body = some code_integer_plus := by kernel_rfl
def ctx_integer_plus (k : Nat) : Ctx := mkC 53 tyTab [] [] [(0, .norm k [slV 1 (cL (.i .u32)), slA 5 (.i .u32) 133, slV 6 (cInt .u32), slV 20 (cL (.i .u32)), slV 21 (cInt .i64), slV 22 (cInt .i64)] [(.exit 0, [slA 5 (.i .u32) 133, slV 6 (cInt .u32)])]), (0, .norm k [slV 1 (cL (.i .u32)), slA 5 (.i .u32) 133, slV 6 (cInt .u32), slV 20 (cL (.i .u32)), slV 21 (cInt .i64), slV 22 (cInt .i64)] [(.exit 0, [slA 5 (.i .u32) 133, slV 6 (cInt .u32)])])] true 133 false
theorem ctx_integer_plus_ok (k : Nat) : CtxOk Try.prog (ctx_integer_plus k) := mkC_ok tyTab_ok (fun _ h => absurd h List.not_mem_nil) (fun _ h => absurd h List.not_mem_nil) (List.forall_mem_cons.2 ⟨⟨⟨List.forall_mem_cons.2 ⟨slV_ok 1 (cL (.i .u32)), List.forall_mem_cons.2 ⟨slA_ok 5 (.i .u32) 133, List.forall_mem_cons.2 ⟨slV_ok 6 (cInt .u32), List.forall_mem_cons.2 ⟨slV_ok 20 (cL (.i .u32)), List.forall_mem_cons.2 ⟨slV_ok 21 (cInt .i64), List.forall_mem_cons.2 ⟨slV_ok 22 (cInt .i64), fun _ h => absurd h List.not_mem_nil⟩⟩⟩⟩⟩⟩, by decide⟩, List.forall_mem_cons.2 ⟨⟨List.forall_mem_cons.2 ⟨slA_ok 5 (.i .u32) 133, List.forall_mem_cons.2 ⟨slV_ok 6 (cInt .u32), fun _ h => absurd h List.not_mem_nil⟩⟩, by decide⟩, fun _ h => absurd h List.not_mem_nil⟩⟩, List.forall_mem_cons.2 ⟨⟨⟨List.forall_mem_cons.2 ⟨slV_ok 1 (cL (.i .u32)), List.forall_mem_cons.2 ⟨slA_ok 5 (.i .u32) 133, List.forall_mem_cons.2 ⟨slV_ok 6 (cInt .u32), List.forall_mem_cons.2 ⟨slV_ok 20 (cL (.i .u32)), List.forall_mem_cons.2 ⟨slV_ok 21 (cInt .i64), List.forall_mem_cons.2 ⟨slV_ok 22 (cInt .i64), fun _ h => absurd h List.not_mem_nil⟩⟩⟩⟩⟩⟩, by decide⟩, List.forall_mem_cons.2 ⟨⟨List.forall_mem_cons.2 ⟨slA_ok 5 (.i .u32) 133, List.forall_mem_cons.2 ⟨slV_ok 6 (cInt .u32), fun _ h => absurd h List.not_mem_nil⟩⟩, by decide⟩, fun _ h => absurd h List.not_mem_nil⟩⟩, fun _ h => absurd h List.not_mem_nil⟩⟩)
theorem integer_plus_ok (k : Nat) (x : TL [List Int, List Int]) (t : List Int) (h : integer_plus k x.1 x.2.1 = some t) : CallOk Try.prog 124 (Cods.enc (.cons (cL (.i .u32)) (.cons (cL (.i .u32)) .nil)) x) ((oOne (cL (.i .u32))).enc t) :=
  fun_ok (ctx_integer_plus_ok k) mixed rfl Try.func124 body_integer_plus Try.ntmps124 (rs := [.tmp 4]) (by kernel_rfl) (by show 2 ≤ 53; decide)
    (show runF (ctx_integer_plus k) code_integer_plus [.tmp 4] none (Cods.enc (.cons (cL (.i .u32)) (.cons (cL (.i .u32)) .nil)) x) (oOne (cL (.i .u32))).dec = integer_plus k x.1 x.2.1 by kernel_rfl) h
def e_integer_plus (k : Nat) : Nat × Ent := (124, ent (.cons (cL (.i .u32)) (.cons (cL (.i .u32)) .nil)) (oOne (cL (.i .u32))) fun x => integer_plus k x.1 x.2.1)
theorem e_integer_plus_ok (k : Nat) : EntOk Try.prog (e_integer_plus k).1 (e_integer_plus k).2 ∧ entered Try.prog (e_integer_plus k).1 := ⟨ent_ok (integer_plus_ok k), Try.f124, Try.func124, by kernel_rfl, by kernel_rfl⟩
noncomputable def code_integer_minus : Code := (Try.f126.body).getD .skip
theorem body_integer_minus : Try.f126.body = some code_integer_minus := by kernel_rfl
def ctx_integer_minus (k : Nat) : Ctx := mkC 44 tyTab [] [] [(0, .norm k [slV 1 (cL (.i .u32)), slA 5 (.i .u32) 133, slV 6 (cInt .u32), slV 13 (cL (.i .u32)), slV 14 (cInt .i64), slV 15 (cInt .i64)] [(.exit 0, [slA 5 (.i .u32) 133])])] true 133 false
theorem ctx_integer_minus_ok (k : Nat) : CtxOk Try.prog (ctx_integer_minus k) := mkC_ok tyTab_ok (fun _ h => absurd h List.not_mem_nil) (fun _ h => absurd h List.not_mem_nil) (List.forall_mem_cons.2 ⟨⟨⟨List.forall_mem_cons.2 ⟨slV_ok 1 (cL (.i .u32)), List.forall_mem_cons.2 ⟨slA_ok 5 (.i .u32) 133, List.forall_mem_cons.2 ⟨slV_ok 6 (cInt .u32), List.forall_mem_cons.2 ⟨slV_ok 13 (cL (.i .u32)), List.forall_mem_cons.2 ⟨slV_ok 14 (cInt .i64), List.forall_mem_cons.2 ⟨slV_ok 15 (cInt .i64), fun _ h => absurd h List.not_mem_nil⟩⟩⟩⟩⟩⟩, by decide⟩, List.forall_mem_cons.2 ⟨⟨List.forall_mem_cons.2 ⟨slA_ok 5 (.i .u32) 133, fun _ h => absurd h List.not_mem_nil⟩, by decide⟩, fun _ h => absurd h List.not_mem_nil⟩⟩, fun _ h => absurd h List.not_mem_nil⟩)
theorem integer_minus_ok (k : Nat) (x : TL [List Int, List Int]) (t : List Int) (h : integer_minus k x.1 x.2.1 = some t) : CallOk Try.prog 126 (Cods.enc (.cons (cL (.i .u32)) (.cons (cL (.i .u32)) .nil)) x) ((oOne (cL (.i .u32))).enc t) :=
  fun_ok (ctx_integer_minus_ok k) mixed rfl Try.func126 body_integer_minus Try.ntmps126 (rs := [.tmp 4]) (by kernel_rfl) (by show 2 ≤ 44; decide)
    (show runF (ctx_integer_minus k) code_integer_minus [.tmp 4] none (Cods.enc (.cons (cL (.i .u32)) (.cons (cL (.i .u32)) .nil)) x) (oOne (cL (.i .u32))).dec = integer_minus k x.1 x.2.1 by kernel_rfl) h
def e_integer_minus (k : Nat) : Nat × Ent := (126, ent (.cons (cL (.i .u32)) (.cons (cL (.i .u32)) .nil)) (oOne (cL (.i .u32))) fun x => integer_minus k x.1 x.2.1)
theorem e_integer_minus_ok (k : Nat) : EntOk Try.prog (e_integer_minus k).1 (e_integer_minus k).2 ∧ entered Try.prog (e_integer_minus k).1 := ⟨ent_ok (integer_minus_ok k), Try.f126, Try.func126, by kernel_rfl, by kernel_rfl⟩
noncomputable def code_integer_Add : Code := (Try.f91.body).getD .skip
theorem body_integer_Add : Try.f91.body = some code_integer_Add := by kernel_rfl
def ctx_integer_Add (k : Nat) : Ctx := mkC 34 tyTab [e_integer_signed k, e_integer_plus k, e_integer_compare k, e_integer_minus k] [] [] true 133 false
theorem ctx_integer_Add_ok (k : Nat) : CtxOk Try.prog (ctx_integer_Add k) := mkC_ok tyTab_ok (List.forall_mem_cons.2 ⟨e_integer_signed_ok k, List.forall_mem_cons.2 ⟨e_integer_plus_ok k, List.forall_mem_cons.2 ⟨e_integer_compare_ok k, List.forall_mem_cons.2 ⟨e_integer_minus_ok k, fun _ h => absurd h List.not_mem_nil⟩⟩⟩⟩) (fun _ h => absurd h List.not_mem_nil) (fun _ h => absurd h List.not_mem_nil)
theorem integer_Add_ok (k : Nat) (x : TL [IntD, IntD]) (t : IntD) (h : integer_Add k x.1 x.2.1 = some t) : CallOk Try.prog 91 (Cods.enc (.cons cIntD (.cons cIntD .nil)) x) ((oOne cIntD).enc t) :=
  fun_ok (ctx_integer_Add_ok k) mixed rfl Try.func91 body_integer_Add Try.ntmps91 (rs := [.cell 4 24]) (by kernel_rfl) (by show 2 ≤ 34; decide)
    (show runF (ctx_integer_Add k) code_integer_Add [.cell 4 24] none (Cods.enc (.cons cIntD (.cons cIntD .nil)) x) (oOne cIntD).dec = integer_Add k x.1 x.2.1 by kernel_rfl) h
def e_integer_Add (k : Nat) : Nat × Ent := (91, ent (.cons cIntD (.cons cIntD .nil)) (oOne cIntD) fun x => integer_Add k x.1 x.2.1)
theorem e_integer_Add_ok (k : Nat) : EntOk Try.prog (e_integer_Add k).1 (e_integer_Add k).2 ∧ entered Try.prog (e_integer_Add k).1 := ⟨ent_ok (integer_Add_ok k), Try.f91, Try.func91, by kernel_rfl, by kernel_rfl⟩
noncomputable def code_integer_Sub : Code := (Try.f129.body).getD .skip
theorem body_integer_Sub : Try.f129.body = some code_integer_Sub := by kernel_rfl
def ctx_integer_Sub (k : Nat) : Ctx := mkC 18 tyTab [e_integer_Add k] [] [] true 133 false
theorem ctx_integer_Sub_ok (k : Nat) : CtxOk Try.prog (ctx_integer_Sub k) := mkC_ok tyTab_ok (List.forall_mem_cons.2 ⟨e_integer_Add_ok k, fun _ h => absurd h List.not_mem_nil⟩) (fun _ h => absurd h List.not_mem_nil) (fun _ h => absurd h List.not_mem_nil)
theorem integer_Sub_ok (k : Nat) (x : TL [IntD, IntD]) (t : IntD) (h : integer_Sub k x.1 x.2.1 = some t) : CallOk Try.prog 129 (Cods.enc (.cons cIntD (.cons cIntD .nil)) x) ((oOne cIntD).enc t) :=
  fun_ok (ctx_integer_Sub_ok k) mixed rfl Try.func129 body_integer_Sub Try.ntmps129 (rs := [.cell 4 24]) (by kernel_rfl) (by show 2 ≤ 18; decide)
    (show runF (ctx_integer_Sub k) code_integer_Sub [.cell 4 24] none (Cods.enc (.cons cIntD (.cons cIntD .nil)) x) (oOne cIntD).dec = integer_Sub k x.1 x.2.1 by kernel_rfl) h
def e_integer_Sub (k : Nat) : Nat × Ent := (129, ent (.cons cIntD (.cons cIntD .nil)) (oOne cIntD) fun x => integer_Sub k x.1 x.2.1)
theorem e_integer_Sub_ok (k : Nat) : EntOk Try.prog (e_integer_Sub k).1 (e_integer_Sub k).2 ∧ entered Try.prog (e_integer_Sub k).1 := ⟨ent_ok (integer_Sub_ok k), Try.f129, Try.func129, by kernel_rfl, by kernel_rfl⟩
noncomputable def code_integer_DivMod : Code := (Try.f93.body).getD .skip
theorem body_integer_DivMod : Try.f93.body = some code_integer_DivMod := by kernel_rfl
def ctx_integer_DivMod (k : Nat) : Ctx := mkC 55 tyTab [e_integer_Add k, e_integer_FromInt64 k, e_integer_signed k, e_integer_divide k, e_integer_Sub k] [] [] true 133 false
theorem ctx_integer_DivMod_ok (k : Nat) : CtxOk Try.prog (ctx_integer_DivMod k) := mkC_ok tyTab_ok (List.forall_mem_cons.2 ⟨e_integer_Add_ok k, List.forall_mem_cons.2 ⟨e_integer_FromInt64_ok k, List.forall_mem_cons.2 ⟨e_integer_signed_ok k, List.forall_mem_cons.2 ⟨e_integer_divide_ok k, List.forall_mem_cons.2 ⟨e_integer_Sub_ok k, fun _ h => absurd h List.not_mem_nil⟩⟩⟩⟩⟩) (fun _ h => absurd h List.not_mem_nil) (fun _ h => absurd h List.not_mem_nil)
theorem integer_DivMod_ok (k : Nat) (x : TL [IntD, IntD]) (t : IntD × IntD × Int) (h : integer_DivMod k x.1 x.2.1 = some t) : CallOk Try.prog 93 (Cods.enc (.cons cIntD (.cons cIntD .nil)) x) ((o3 cIntD cIntD (cInt .i64)).enc t) :=
  fun_ok (ctx_integer_DivMod_ok k) mixed rfl Try.func93 body_integer_DivMod Try.ntmps93 (rs := [.cell 4 24, .cell 5 24, .tmp 6]) (by kernel_rfl) (by show 2 ≤ 55; decide)
    (show runF (ctx_integer_DivMod k) code_integer_DivMod [.cell 4 24, .cell 5 24, .tmp 6] none (Cods.enc (.cons cIntD (.cons cIntD .nil)) x) (o3 cIntD cIntD (cInt .i64)).dec = integer_DivMod k x.1 x.2.1 by kernel_rfl) h
def e_integer_DivMod (k : Nat) : Nat × Ent := (93, ent (.cons cIntD (.cons cIntD .nil)) (o3 cIntD cIntD (cInt .i64)) fun x => integer_DivMod k x.1 x.2.1)
theorem e_integer_DivMod_ok (k : Nat) : EntOk Try.prog (e_integer_DivMod k).1 (e_integer_DivMod k).2 ∧ entered Try.prog (e_integer_DivMod k).1 := ⟨ent_ok (integer_DivMod_ok k), Try.f93, Try.func93, by kernel_rfl, by kernel_rfl⟩
noncomputable def code_integer_Cmp : Code := (Try.f99.body).getD .skip
theorem body_integer_Cmp : Try.f99.body = some code_integer_Cmp := by kernel_rfl
def ctx_integer_Cmp (k : Nat) : Ctx := mkC 24 tyTab [e_integer_compare k] [] [] true 133 false
theorem ctx_integer_Cmp_ok (k : Nat) : CtxOk Try.prog (ctx_integer_Cmp k) := mkC_ok tyTab_ok (List.forall_mem_cons.2 ⟨e_integer_compare_ok k, fun _ h => absurd h List.not_mem_nil⟩) (fun _ h => absurd h List.not_mem_nil) (fun _ h => absurd h List.not_mem_nil)
theorem integer_Cmp_ok (k : Nat) (x : TL [IntD, IntD]) (t : Int) (h : integer_Cmp k x.1 x.2.1 = some t) : CallOk Try.prog 99 (Cods.enc (.cons cIntD (.cons cIntD .nil)) x) ((oOne (cInt .i64)).enc t) :=
  fun_ok (ctx_integer_Cmp_ok k) mixed rfl Try.func99 body_integer_Cmp Try.ntmps99 (rs := [.tmp 4]) (by kernel_rfl) (by show 2 ≤ 24; decide)
    (show runF (ctx_integer_Cmp k) code_integer_Cmp [.tmp 4] none (Cods.enc (.cons cIntD (.cons cIntD .nil)) x) (oOne (cInt .i64)).dec = integer_Cmp k x.1 x.2.1 by kernel_rfl) h
def e_integer_Cmp (k : Nat) : Nat × Ent := (99, ent (.cons cIntD (.cons cIntD .nil)) (oOne (cInt .i64)) fun x => integer_Cmp k x.1 x.2.1)
theorem e_integer_Cmp_ok (k : Nat) : EntOk Try.prog (e_integer_Cmp k).1 (e_integer_Cmp k).2 ∧ entered Try.prog (e_integer_Cmp k).1 := ⟨ent_ok (integer_Cmp_ok k), Try.f99, Try.func99, by kernel_rfl, by kernel_rfl⟩
noncomputable def code_integer_Sqrt : Code := (Try.f89.body).getD .skip
theorem body_integer_Sqrt : Try.f89.body = some code_integer_Sqrt := by kernel_rfl
def ctx_integer_Sqrt (k : Nat) : Ctx := mkC 54 tyTab [e_integer_Add k, e_integer_FromInt64 k, e_integer_DivMod k, e_integer_Cmp k, e_integer_signed k] [] [(0, .norm k [slR 1 IntD.lv dIntD, slR 2 IntD.lv dIntD, slR 5 IntD.lv dIntD, slR 6 IntD.lv dIntD] [(.ret, [slR 2 IntD.lv dIntD, slV 3 (cInt .i64)])])] true 133 false
theorem ctx_integer_Sqrt_ok (k : Nat) : CtxOk Try.prog (ctx_integer_Sqrt k) := mkC_ok tyTab_ok (List.forall_mem_cons.2 ⟨e_integer_Add_ok k, List.forall_mem_cons.2 ⟨e_integer_FromInt64_ok k, List.forall_mem_cons.2 ⟨e_integer_DivMod_ok k, List.forall_mem_cons.2 ⟨e_integer_Cmp_ok k, List.forall_mem_cons.2 ⟨e_integer_signed_ok k, fun _ h => absurd h List.not_mem_nil⟩⟩⟩⟩⟩) (fun _ h => absurd h List.not_mem_nil) (List.forall_mem_cons.2 ⟨⟨⟨List.forall_mem_cons.2 ⟨slR_ok 1 fun _ _ => dIntD_weak, List.forall_mem_cons.2 ⟨slR_ok 2 fun _ _ => dIntD_weak, List.forall_mem_cons.2 ⟨slR_ok 5 fun _ _ => dIntD_weak, List.forall_mem_cons.2 ⟨slR_ok 6 fun _ _ => dIntD_weak, fun _ h => absurd h List.not_mem_nil⟩⟩⟩⟩, by decide⟩, List.forall_mem_cons.2 ⟨⟨List.forall_mem_cons.2 ⟨slR_ok 2 fun _ _ => dIntD_weak, List.forall_mem_cons.2 ⟨slV_ok 3 (cInt .i64), fun _ h => absurd h List.not_mem_nil⟩⟩, by decide⟩, fun _ h => absurd h List.not_mem_nil⟩⟩, fun _ h => absurd h List.not_mem_nil⟩)
theorem integer_Sqrt_ok (k : Nat) (x : TL [IntD]) (t : IntD × Int) (h : integer_Sqrt k x.1 = some t) : CallOk Try.prog 89 (Cods.enc (.cons cIntD .nil) x) ((o2 cIntD (cInt .i64)).enc t) :=
  fun_ok (ctx_integer_Sqrt_ok k) mixed rfl Try.func89 body_integer_Sqrt Try.ntmps89 (rs := [.cell 2 24, .tmp 3]) (by kernel_rfl) (by show 1 ≤ 54; decide)
    (show runF (ctx_integer_Sqrt k) code_integer_Sqrt [.cell 2 24, .tmp 3] none (Cods.enc (.cons cIntD .nil) x) (o2 cIntD (cInt .i64)).dec = integer_Sqrt k x.1 by kernel_rfl) h
def e_integer_Sqrt (k : Nat) : Nat × Ent := (89, ent (.cons cIntD .nil) (o2 cIntD (cInt .i64)) fun x => integer_Sqrt k x.1)
theorem e_integer_Sqrt_ok (k : Nat) : EntOk Try.prog (e_integer_Sqrt k).1 (e_integer_Sqrt k).2 ∧ entered Try.prog (e_integer_Sqrt k).1 := ⟨ent_ok (integer_Sqrt_ok k), Try.f89, Try.func89, by kernel_rfl, by kernel_rfl⟩
noncomputable def code_integer_Mul : Code := (Try.f88.body).getD .skip
theorem body_integer_Mul : Try.f88.body = some code_integer_Mul := by kernel_rfl
def ctx_integer_Mul (k : Nat) : Ctx := mkC 16 tyTab [e_integer_signed k, e_integer_times k] [] [] true 133 false
theorem ctx_integer_Mul_ok (k : Nat) : CtxOk Try.prog (ctx_integer_Mul k) := mkC_ok tyTab_ok (List.forall_mem_cons.2 ⟨e_integer_signed_ok k, List.forall_mem_cons.2 ⟨e_integer_times_ok k, fun _ h => absurd h List.not_mem_nil⟩⟩) (fun _ h => absurd h List.not_mem_nil) (fun _ h => absurd h List.not_mem_nil)
theorem integer_Mul_ok (k : Nat) (x : TL [IntD, IntD]) (t : IntD) (h : integer_Mul k x.1 x.2.1 = some t) : CallOk Try.prog 88 (Cods.enc (.cons cIntD (.cons cIntD .nil)) x) ((oOne cIntD).enc t) :=
  fun_ok (ctx_integer_Mul_ok k) mixed rfl Try.func88 body_integer_Mul Try.ntmps88 (rs := [.cell 4 24]) (by kernel_rfl) (by show 2 ≤ 16; decide)
    (show runF (ctx_integer_Mul k) code_integer_Mul [.cell 4 24] none (Cods.enc (.cons cIntD (.cons cIntD .nil)) x) (oOne cIntD).dec = integer_Mul k x.1 x.2.1 by kernel_rfl) h
def e_integer_Mul (k : Nat) : Nat × Ent := (88, ent (.cons cIntD (.cons cIntD .nil)) (oOne cIntD) fun x => integer_Mul k x.1 x.2.1)
theorem e_integer_Mul_ok (k : Nat) : EntOk Try.prog (e_integer_Mul k).1 (e_integer_Mul k).2 ∧ entered Try.prog (e_integer_Mul k).1 := ⟨ent_ok (integer_Mul_ok k), Try.f88, Try.func88, by kernel_rfl, by kernel_rfl⟩
noncomputable def code_rational_side : Code := (Try.f98.body).getD .skip
theorem body_rational_side : Try.f98.body = some code_rational_side := by kernel_rfl
def ctx_rational_side (k : Nat) : Ctx := mkC 22 tyTab [e_integer_Mul k, e_integer_Sqrt k, e_integer_Cmp k] [] [] true 133 false
theorem ctx_rational_side_ok (k : Nat) : CtxOk Try.prog (ctx_rational_side k) := mkC_ok tyTab_ok (List.forall_mem_cons.2 ⟨e_integer_Mul_ok k, List.forall_mem_cons.2 ⟨e_integer_Sqrt_ok k, List.forall_mem_cons.2 ⟨e_integer_Cmp_ok k, fun _ h => absurd h List.not_mem_nil⟩⟩⟩) (fun _ h => absurd h List.not_mem_nil) (fun _ h => absurd h List.not_mem_nil)
theorem rational_side_ok (k : Nat) (x : TL [IntD]) (t : IntD × Bool) (h : rational_side k x.1 = some t) : CallOk Try.prog 98 (Cods.enc (.cons cIntD .nil) x) ((o2 cIntD cB).enc t) :=
  fun_ok (ctx_rational_side_ok k) mixed rfl Try.func98 body_rational_side Try.ntmps98 (rs := [.cell 2 24, .tmp 3]) (by kernel_rfl) (by show 1 ≤ 22; decide)
    (show runF (ctx_rational_side k) code_rational_side [.cell 2 24, .tmp 3] none (Cods.enc (.cons cIntD .nil) x) (o2 cIntD cB).dec = rational_side k x.1 by kernel_rfl) h
def e_rational_side (k : Nat) : Nat × Ent := (98, ent (.cons cIntD .nil) (o2 cIntD cB) fun x => rational_side k x.1)
theorem e_rational_side_ok (k : Nat) : EntOk Try.prog (e_rational_side k).1 (e_rational_side k).2 ∧ entered Try.prog (e_rational_side k).1 := ⟨ent_ok (rational_side_ok k), Try.f98, Try.func98, by kernel_rfl, by kernel_rfl⟩
noncomputable def code_rational_Sqrt : Code := (Try.f49.body).getD .skip
theorem body_rational_Sqrt : Try.f49.body = some code_rational_Sqrt := by kernel_rfl
def ctx_rational_Sqrt (k : Nat) : Ctx := mkC 26 tyTab [e_rational_side k] [] [] true 133 false
theorem ctx_rational_Sqrt_ok (k : Nat) : CtxOk Try.prog (ctx_rational_Sqrt k) := mkC_ok tyTab_ok (List.forall_mem_cons.2 ⟨e_rational_side_ok k, fun _ h => absurd h List.not_mem_nil⟩) (fun _ h => absurd h List.not_mem_nil) (fun _ h => absurd h List.not_mem_nil)
theorem rational_Sqrt_ok (k : Nat) (x : TL [RatD]) (t : RatD × Bool) (h : rational_Sqrt k x.1 = some t) : CallOk Try.prog 49 (Cods.enc (.cons cRat .nil) x) ((o2 cRat cB).enc t) :=
  fun_ok (ctx_rational_Sqrt_ok k) mixed rfl Try.func49 body_rational_Sqrt Try.ntmps49 (rs := [.cell 2 26, .tmp 3]) (by kernel_rfl) (by show 1 ≤ 26; decide)
    (show runF (ctx_rational_Sqrt k) code_rational_Sqrt [.cell 2 26, .tmp 3] none (Cods.enc (.cons cRat .nil) x) (o2 cRat cB).dec = rational_Sqrt k x.1 by kernel_rfl) h
def e_rational_Sqrt (k : Nat) : Nat × Ent := (49, ent (.cons cRat .nil) (o2 cRat cB) fun x => rational_Sqrt k x.1)
theorem e_rational_Sqrt_ok (k : Nat) : EntOk Try.prog (e_rational_Sqrt k).1 (e_rational_Sqrt k).2 ∧ entered Try.prog (e_rational_Sqrt k).1 := ⟨ent_ok (rational_Sqrt_ok k), Try.f49, Try.func49, by kernel_rfl, by kernel_rfl⟩
noncomputable def code_integer_Neg : Code := (Try.f90.body).getD .skip
theorem body_integer_Neg : Try.f90.body = some code_integer_Neg := by kernel_rfl
def ctx_integer_Neg (k : Nat) : Ctx := mkC 10 tyTab [e_integer_signed k] [] [] true 133 false
theorem ctx_integer_Neg_ok (k : Nat) : CtxOk Try.prog (ctx_integer_Neg k) := mkC_ok tyTab_ok (List.forall_mem_cons.2 ⟨e_integer_signed_ok k, fun _ h => absurd h List.not_mem_nil⟩) (fun _ h => absurd h List.not_mem_nil) (fun _ h => absurd h List.not_mem_nil)
theorem integer_Neg_ok (k : Nat) (x : TL [IntD]) (t : IntD) (h : integer_Neg k x.1 = some t) : CallOk Try.prog 90 (Cods.enc (.cons cIntD .nil) x) ((oOne cIntD).enc t) :=
  fun_ok (ctx_integer_Neg_ok k) mixed rfl Try.func90 body_integer_Neg Try.ntmps90 (rs := [.cell 2 24]) (by kernel_rfl) (by show 1 ≤ 10; decide)
    (show runF (ctx_integer_Neg k) code_integer_Neg [.cell 2 24] none (Cods.enc (.cons cIntD .nil) x) (oOne cIntD).dec = integer_Neg k x.1 by kernel_rfl) h
def e_integer_Neg (k : Nat) : Nat × Ent := (90, ent (.cons cIntD .nil) (oOne cIntD) fun x => integer_Neg k x.1)
theorem e_integer_Neg_ok (k : Nat) : EntOk Try.prog (e_integer_Neg k).1 (e_integer_Neg k).2 ∧ entered Try.prog (e_integer_Neg k).1 := ⟨ent_ok (integer_Neg_ok k), Try.f90, Try.func90, by kernel_rfl, by kernel_rfl⟩
noncomputable def code_integer_word : Code := (Try.f138.body).getD .skip
theorem body_integer_word : Try.f138.body = some code_integer_word := by kernel_rfl
def ctx_integer_word (k : Nat) : Ctx := mkC 30 tyTab [] [] [] true 133 false
theorem ctx_integer_word_ok (k : Nat) : CtxOk Try.prog (ctx_integer_word k) := mkC_ok tyTab_ok (fun _ h => absurd h List.not_mem_nil) (fun _ h => absurd h List.not_mem_nil) (fun _ h => absurd h List.not_mem_nil)
theorem integer_word_ok (k : Nat) (x : TL [IntD]) (t : Int × Bool) (h : integer_word k x.1 = some t) : CallOk Try.prog 138 (Cods.enc (.cons cIntD .nil) x) ((o2 (cInt .u64) cB).enc t) :=
  fun_ok (ctx_integer_word_ok k) mixed rfl Try.func138 body_integer_word Try.ntmps138 (rs := [.tmp 2, .tmp 3]) (by kernel_rfl) (by show 1 ≤ 30; decide)
    (show runF (ctx_integer_word k) code_integer_word [.tmp 2, .tmp 3] none (Cods.enc (.cons cIntD .nil) x) (o2 (cInt .u64) cB).dec = integer_word k x.1 by kernel_rfl) h
def e_integer_word (k : Nat) : Nat × Ent := (138, ent (.cons cIntD .nil) (o2 (cInt .u64) cB) fun x => integer_word k x.1)
theorem e_integer_word_ok (k : Nat) : EntOk Try.prog (e_integer_word k).1 (e_integer_word k).2 ∧ entered Try.prog (e_integer_word k).1 := ⟨ent_ok (integer_word_ok k), Try.f138, Try.func138, by kernel_rfl, by kernel_rfl⟩
noncomputable def code_integer_GCD : Code := (Try.f106.body).getD .skip
theorem body_integer_GCD : Try.f106.body = some code_integer_GCD := by kernel_rfl
def ctx_integer_GCD (k : Nat) : Ctx := mkC 61 tyTab [e_integer_signed k, e_integer_split k, e_integer_divide k, e_integer_word k] [] [(2, .norm k [slR 4 IntD.lv dIntD, slV 7 (cInt .u64), slV 9 (cInt .u64)] [(.exit 2, [slR 4 IntD.lv dIntD, slV 7 (cInt .u64)])]), (0, .norm k [slR 4 IntD.lv dIntD, slR 5 IntD.lv dIntD, slR 6 IntD.lv dIntD] [(.exit 0, [slR 4 IntD.lv dIntD, slR 5 IntD.lv dIntD]), (.ret, [slR 4 IntD.lv dIntD])])] true 133 false
theorem ctx_integer_GCD_ok (k : Nat) : CtxOk Try.prog (ctx_integer_GCD k) := mkC_ok tyTab_ok (List.forall_mem_cons.2 ⟨e_integer_signed_ok k, List.forall_mem_cons.2 ⟨e_integer_split_ok k, List.forall_mem_cons.2 ⟨e_integer_divide_ok k, List.forall_mem_cons.2 ⟨e_integer_word_ok k, fun _ h => absurd h List.not_mem_nil⟩⟩⟩⟩) (fun _ h => absurd h List.not_mem_nil) (List.forall_mem_cons.2 ⟨⟨⟨List.forall_mem_cons.2 ⟨slR_ok 4 fun _ _ => dIntD_weak, List.forall_mem_cons.2 ⟨slV_ok 7 (cInt .u64), List.forall_mem_cons.2 ⟨slV_ok 9 (cInt .u64), fun _ h => absurd h List.not_mem_nil⟩⟩⟩, by decide⟩, List.forall_mem_cons.2 ⟨⟨List.forall_mem_cons.2 ⟨slR_ok 4 fun _ _ => dIntD_weak, List.forall_mem_cons.2 ⟨slV_ok 7 (cInt .u64), fun _ h => absurd h List.not_mem_nil⟩⟩, by decide⟩, fun _ h => absurd h List.not_mem_nil⟩⟩, List.forall_mem_cons.2 ⟨⟨⟨List.forall_mem_cons.2 ⟨slR_ok 4 fun _ _ => dIntD_weak, List.forall_mem_cons.2 ⟨slR_ok 5 fun _ _ => dIntD_weak, List.forall_mem_cons.2 ⟨slR_ok 6 fun _ _ => dIntD_weak, fun _ h => absurd h List.not_mem_nil⟩⟩⟩, by decide⟩, List.forall_mem_cons.2 ⟨⟨List.forall_mem_cons.2 ⟨slR_ok 4 fun _ _ => dIntD_weak, List.forall_mem_cons.2 ⟨slR_ok 5 fun _ _ => dIntD_weak, fun _ h => absurd h List.not_mem_nil⟩⟩, by decide⟩, List.forall_mem_cons.2 ⟨⟨List.forall_mem_cons.2 ⟨slR_ok 4 fun _ _ => dIntD_weak, fun _ h => absurd h List.not_mem_nil⟩, by decide⟩, fun _ h => absurd h List.not_mem_nil⟩⟩⟩, fun _ h => absurd h List.not_mem_nil⟩⟩)
theorem integer_GCD_ok (k : Nat) (x : TL [IntD, IntD]) (t : IntD) (h : integer_GCD k x.1 x.2.1 = some t) : CallOk Try.prog 106 (Cods.enc (.cons cIntD (.cons cIntD .nil)) x) ((oOne cIntD).enc t) :=
  fun_ok (ctx_integer_GCD_ok k) mixed rfl Try.func106 body_integer_GCD Try.ntmps106 (rs := [.cell 4 24]) (by kernel_rfl) (by show 2 ≤ 61; decide)
    (show runF (ctx_integer_GCD k) code_integer_GCD [.cell 4 24] none (Cods.enc (.cons cIntD (.cons cIntD .nil)) x) (oOne cIntD).dec = integer_GCD k x.1 x.2.1 by kernel_rfl) h
def e_integer_GCD (k : Nat) : Nat × Ent := (106, ent (.cons cIntD (.cons cIntD .nil)) (oOne cIntD) fun x => integer_GCD k x.1 x.2.1)
theorem e_integer_GCD_ok (k : Nat) : EntOk Try.prog (e_integer_GCD k).1 (e_integer_GCD k).2 ∧ entered Try.prog (e_integer_GCD k).1 := ⟨ent_ok (integer_GCD_ok k), Try.f106, Try.func106, by kernel_rfl, by kernel_rfl⟩
noncomputable def code_rational_unit : Code := (Try.f107.body).getD .skip
theorem body_rational_unit : Try.f107.body = some code_rational_unit := by kernel_rfl
def ctx_rational_unit (k : Nat) : Ctx := mkC 2 tyTab [e_integer_FromInt64 k] [] [] true 133 false
theorem ctx_rational_unit_ok (k : Nat) : CtxOk Try.prog (ctx_rational_unit k) := mkC_ok tyTab_ok (List.forall_mem_cons.2 ⟨e_integer_FromInt64_ok k, fun _ h => absurd h List.not_mem_nil⟩) (fun _ h => absurd h List.not_mem_nil) (fun _ h => absurd h List.not_mem_nil)
theorem rational_unit_ok (k : Nat) (x : TL []) (t : IntD) (h : rational_unit k = some t) : CallOk Try.prog 107 (Cods.enc .nil x) ((oOne cIntD).enc t) :=
  fun_ok (ctx_rational_unit_ok k) mixed rfl Try.func107 body_rational_unit Try.ntmps107 (rs := [.cell 0 24]) (by kernel_rfl) (by show 0 ≤ 2; decide)
    (show runF (ctx_rational_unit k) code_rational_unit [.cell 0 24] none (Cods.enc .nil x) (oOne cIntD).dec = rational_unit k by kernel_rfl) h
def e_rational_unit (k : Nat) : Nat × Ent := (107, ent .nil (oOne cIntD) fun x => rational_unit k)
theorem e_rational_unit_ok (k : Nat) : EntOk Try.prog (e_rational_unit k).1 (e_rational_unit k).2 ∧ entered Try.prog (e_rational_unit k).1 := ⟨ent_ok (rational_unit_ok k), Try.f107, Try.func107, by kernel_rfl, by kernel_rfl⟩
noncomputable def code_rational_exact : Code := (Try.f133.body).getD .skip
theorem body_rational_exact : Try.f133.body = some code_rational_exact := by kernel_rfl
def ctx_rational_exact (k : Nat) : Ctx := mkC 16 tyTab [e_integer_DivMod k] [] [] true 133 false
theorem ctx_rational_exact_ok (k : Nat) : CtxOk Try.prog (ctx_rational_exact k) := mkC_ok tyTab_ok (List.forall_mem_cons.2 ⟨e_integer_DivMod_ok k, fun _ h => absurd h List.not_mem_nil⟩) (fun _ h => absurd h List.not_mem_nil) (fun _ h => absurd h List.not_mem_nil)
theorem rational_exact_ok (k : Nat) (x : TL [IntD, IntD]) (t : IntD) (h : rational_exact k x.1 x.2.1 = some t) : CallOk Try.prog 133 (Cods.enc (.cons cIntD (.cons cIntD .nil)) x) ((oOne cIntD).enc t) :=
  fun_ok (ctx_rational_exact_ok k) mixed rfl Try.func133 body_rational_exact Try.ntmps133 (rs := [.cell 4 24]) (by kernel_rfl) (by show 2 ≤ 16; decide)
    (show runF (ctx_rational_exact k) code_rational_exact [.cell 4 24] none (Cods.enc (.cons cIntD (.cons cIntD .nil)) x) (oOne cIntD).dec = rational_exact k x.1 x.2.1 by kernel_rfl) h
def e_rational_exact (k : Nat) : Nat × Ent := (133, ent (.cons cIntD (.cons cIntD .nil)) (oOne cIntD) fun x => rational_exact k x.1 x.2.1)
theorem e_rational_exact_ok (k : Nat) : EntOk Try.prog (e_rational_exact k).1 (e_rational_exact k).2 ∧ entered Try.prog (e_rational_exact k).1 := ⟨ent_ok (rational_exact_ok k), Try.f133, Try.func133, by kernel_rfl, by kernel_rfl⟩
noncomputable def code_rational_reduce : Code := (Try.f100.body).getD .skip
theorem body_rational_reduce : Try.f100.body = some code_rational_reduce := by kernel_rfl
def ctx_rational_reduce (k : Nat) : Ctx := mkC 29 tyTab [e_integer_Neg k, e_integer_Sign k, e_integer_Cmp k, e_integer_GCD k, e_rational_unit k, e_rational_exact k] [] [] true 133 false
theorem ctx_rational_reduce_ok (k : Nat) : CtxOk Try.prog (ctx_rational_reduce k) := mkC_ok tyTab_ok (List.forall_mem_cons.2 ⟨e_integer_Neg_ok k, List.forall_mem_cons.2 ⟨e_integer_Sign_ok k, List.forall_mem_cons.2 ⟨e_integer_Cmp_ok k, List.forall_mem_cons.2 ⟨e_integer_GCD_ok k, List.forall_mem_cons.2 ⟨e_rational_unit_ok k, List.forall_mem_cons.2 ⟨e_rational_exact_ok k, fun _ h => absurd h List.not_mem_nil⟩⟩⟩⟩⟩⟩) (fun _ h => absurd h List.not_mem_nil) (fun _ h => absurd h List.not_mem_nil)
theorem rational_reduce_ok (k : Nat) (x : TL [IntD, IntD]) (t : RatD) (h : rational_reduce k x.1 x.2.1 = some t) : CallOk Try.prog 100 (Cods.enc (.cons cIntD (.cons cIntD .nil)) x) ((oOne cRat).enc t) :=
  fun_ok (ctx_rational_reduce_ok k) mixed rfl Try.func100 body_rational_reduce Try.ntmps100 (rs := [.cell 4 26]) (by kernel_rfl) (by show 2 ≤ 29; decide)
    (show runF (ctx_rational_reduce k) code_rational_reduce [.cell 4 26] none (Cods.enc (.cons cIntD (.cons cIntD .nil)) x) (oOne cRat).dec = rational_reduce k x.1 x.2.1 by kernel_rfl) h
def e_rational_reduce (k : Nat) : Nat × Ent := (100, ent (.cons cIntD (.cons cIntD .nil)) (oOne cRat) fun x => rational_reduce k x.1 x.2.1)
theorem e_rational_reduce_ok (k : Nat) : EntOk Try.prog (e_rational_reduce k).1 (e_rational_reduce k).2 ∧ entered Try.prog (e_rational_reduce k).1 := ⟨ent_ok (rational_reduce_ok k), Try.f100, Try.func100, by kernel_rfl, by kernel_rfl⟩
noncomputable def code_rational_Mul : Code := (Try.f51.body).getD .skip
theorem body_rational_Mul : Try.f51.body = some code_rational_Mul := by kernel_rfl
def ctx_rational_Mul (k : Nat) : Ctx := mkC 16 tyTab [e_integer_Mul k, e_rational_reduce k] [] [] true 133 false
theorem ctx_rational_Mul_ok (k : Nat) : CtxOk Try.prog (ctx_rational_Mul k) := mkC_ok tyTab_ok (List.forall_mem_cons.2 ⟨e_integer_Mul_ok k, List.forall_mem_cons.2 ⟨e_rational_reduce_ok k, fun _ h => absurd h List.not_mem_nil⟩⟩) (fun _ h => absurd h List.not_mem_nil) (fun _ h => absurd h List.not_mem_nil)
theorem rational_Mul_ok (k : Nat) (x : TL [RatD, RatD]) (t : RatD) (h : rational_Mul k x.1 x.2.1 = some t) : CallOk Try.prog 51 (Cods.enc (.cons cRat (.cons cRat .nil)) x) ((oOne cRat).enc t) :=
  fun_ok (ctx_rational_Mul_ok k) mixed rfl Try.func51 body_rational_Mul Try.ntmps51 (rs := [.cell 4 26]) (by kernel_rfl) (by show 2 ≤ 16; decide)
    (show runF (ctx_rational_Mul k) code_rational_Mul [.cell 4 26] none (Cods.enc (.cons cRat (.cons cRat .nil)) x) (oOne cRat).dec = rational_Mul k x.1 x.2.1 by kernel_rfl) h
def e_rational_Mul (k : Nat) : Nat × Ent := (51, ent (.cons cRat (.cons cRat .nil)) (oOne cRat) fun x => rational_Mul k x.1 x.2.1)
theorem e_rational_Mul_ok (k : Nat) : EntOk Try.prog (e_rational_Mul k).1 (e_rational_Mul k).2 ∧ entered Try.prog (e_rational_Mul k).1 := ⟨ent_ok (rational_Mul_ok k), Try.f51, Try.func51, by kernel_rfl, by kernel_rfl⟩
noncomputable def code_rational_Add : Code := (Try.f50.body).getD .skip
theorem body_rational_Add : Try.f50.body = some code_rational_Add := by kernel_rfl
def ctx_rational_Add (k : Nat) : Ctx := mkC 36 tyTab [e_integer_Mul k, e_integer_Add k, e_integer_Cmp k, e_rational_reduce k] [] [] true 133 false
theorem ctx_rational_Add_ok (k : Nat) : CtxOk Try.prog (ctx_rational_Add k) := mkC_ok tyTab_ok (List.forall_mem_cons.2 ⟨e_integer_Mul_ok k, List.forall_mem_cons.2 ⟨e_integer_Add_ok k, List.forall_mem_cons.2 ⟨e_integer_Cmp_ok k, List.forall_mem_cons.2 ⟨e_rational_reduce_ok k, fun _ h => absurd h List.not_mem_nil⟩⟩⟩⟩) (fun _ h => absurd h List.not_mem_nil) (fun _ h => absurd h List.not_mem_nil)
theorem rational_Add_ok (k : Nat) (x : TL [RatD, RatD]) (t : RatD) (h : rational_Add k x.1 x.2.1 = some t) : CallOk Try.prog 50 (Cods.enc (.cons cRat (.cons cRat .nil)) x) ((oOne cRat).enc t) :=
  fun_ok (ctx_rational_Add_ok k) mixed rfl Try.func50 body_rational_Add Try.ntmps50 (rs := [.cell 4 26]) (by kernel_rfl) (by show 2 ≤ 36; decide)
    (show runF (ctx_rational_Add k) code_rational_Add [.cell 4 26] none (Cods.enc (.cons cRat (.cons cRat .nil)) x) (oOne cRat).dec = rational_Add k x.1 x.2.1 by kernel_rfl) h
def e_rational_Add (k : Nat) : Nat × Ent := (50, ent (.cons cRat (.cons cRat .nil)) (oOne cRat) fun x => rational_Add k x.1 x.2.1)
theorem e_rational_Add_ok (k : Nat) : EntOk Try.prog (e_rational_Add k).1 (e_rational_Add k).2 ∧ entered Try.prog (e_rational_Add k).1 := ⟨ent_ok (rational_Add_ok k), Try.f50, Try.func50, by kernel_rfl, by kernel_rfl⟩
noncomputable def code_rational_whole : Code := (Try.f121.body).getD .skip
theorem body_rational_whole : Try.f121.body = some code_rational_whole := by kernel_rfl
def ctx_rational_whole (k : Nat) : Ctx := mkC 6 tyTab [e_rational_unit k] [] [] true 133 false
theorem ctx_rational_whole_ok (k : Nat) : CtxOk Try.prog (ctx_rational_whole k) := mkC_ok tyTab_ok (List.forall_mem_cons.2 ⟨e_rational_unit_ok k, fun _ h => absurd h List.not_mem_nil⟩) (fun _ h => absurd h List.not_mem_nil) (fun _ h => absurd h List.not_mem_nil)
theorem rational_whole_ok (k : Nat) (x : TL [IntD]) (t : RatD) (h : rational_whole k x.1 = some t) : CallOk Try.prog 121 (Cods.enc (.cons cIntD .nil) x) ((oOne cRat).enc t) :=
  fun_ok (ctx_rational_whole_ok k) mixed rfl Try.func121 body_rational_whole Try.ntmps121 (rs := [.cell 2 26]) (by kernel_rfl) (by show 1 ≤ 6; decide)
    (show runF (ctx_rational_whole k) code_rational_whole [.cell 2 26] none (Cods.enc (.cons cIntD .nil) x) (oOne cRat).dec = rational_whole k x.1 by kernel_rfl) h
def e_rational_whole (k : Nat) : Nat × Ent := (121, ent (.cons cIntD .nil) (oOne cRat) fun x => rational_whole k x.1)
theorem e_rational_whole_ok (k : Nat) : EntOk Try.prog (e_rational_whole k).1 (e_rational_whole k).2 ∧ entered Try.prog (e_rational_whole k).1 := ⟨ent_ok (rational_whole_ok k), Try.f121, Try.func121, by kernel_rfl, by kernel_rfl⟩
noncomputable def code_rational_FromInt64 : Code := (Try.f83.body).getD .skip
theorem body_rational_FromInt64 : Try.f83.body = some code_rational_FromInt64 := by kernel_rfl
def ctx_rational_FromInt64 (k : Nat) : Ctx := mkC 6 tyTab [e_integer_FromInt64 k, e_rational_whole k] [] [] true 133 false
theorem ctx_rational_FromInt64_ok (k : Nat) : CtxOk Try.prog (ctx_rational_FromInt64 k) := mkC_ok tyTab_ok (List.forall_mem_cons.2 ⟨e_integer_FromInt64_ok k, List.forall_mem_cons.2 ⟨e_rational_whole_ok k, fun _ h => absurd h List.not_mem_nil⟩⟩) (fun _ h => absurd h List.not_mem_nil) (fun _ h => absurd h List.not_mem_nil)
theorem rational_FromInt64_ok (k : Nat) (x : TL [Int]) (t : RatD) (h : rational_FromInt64 k x.1 = some t) : CallOk Try.prog 83 (Cods.enc (.cons (cInt .i64) .nil) x) ((oOne cRat).enc t) :=
  fun_ok (ctx_rational_FromInt64_ok k) mixed rfl Try.func83 body_rational_FromInt64 Try.ntmps83 (rs := [.cell 2 26]) (by kernel_rfl) (by show 1 ≤ 6; decide)
    (show runF (ctx_rational_FromInt64 k) code_rational_FromInt64 [.cell 2 26] none (Cods.enc (.cons (cInt .i64) .nil) x) (oOne cRat).dec = rational_FromInt64 k x.1 by kernel_rfl) h
def e_rational_FromInt64 (k : Nat) : Nat × Ent := (83, ent (.cons (cInt .i64) .nil) (oOne cRat) fun x => rational_FromInt64 k x.1)
theorem e_rational_FromInt64_ok (k : Nat) : EntOk Try.prog (e_rational_FromInt64 k).1 (e_rational_FromInt64 k).2 ∧ entered Try.prog (e_rational_FromInt64 k).1 := ⟨ent_ok (rational_FromInt64_ok k), Try.f83, Try.func83, by kernel_rfl, by kernel_rfl⟩
noncomputable def code_root_zero : Code := (Try.f58.body).getD .skip
theorem body_root_zero : Try.f58.body = some code_root_zero := by kernel_rfl
def ctx_root_zero (k : Nat) : Ctx := mkC 2 tyTab [e_rational_FromInt64 k] [] [] true 133 false
theorem ctx_root_zero_ok (k : Nat) : CtxOk Try.prog (ctx_root_zero k) := mkC_ok tyTab_ok (List.forall_mem_cons.2 ⟨e_rational_FromInt64_ok k, fun _ h => absurd h List.not_mem_nil⟩) (fun _ h => absurd h List.not_mem_nil) (fun _ h => absurd h List.not_mem_nil)
theorem root_zero_ok (k : Nat) (x : TL []) (t : RatD) (h : root_zero k = some t) : CallOk Try.prog 58 (Cods.enc .nil x) ((oOne cRat).enc t) :=
  fun_ok (ctx_root_zero_ok k) mixed rfl Try.func58 body_root_zero Try.ntmps58 (rs := [.cell 0 26]) (by kernel_rfl) (by show 0 ≤ 2; decide)
    (show runF (ctx_root_zero k) code_root_zero [.cell 0 26] none (Cods.enc .nil x) (oOne cRat).dec = root_zero k by kernel_rfl) h
def e_root_zero (k : Nat) : Nat × Ent := (58, ent .nil (oOne cRat) fun x => root_zero k)
theorem e_root_zero_ok (k : Nat) : EntOk Try.prog (e_root_zero k).1 (e_root_zero k).2 ∧ entered Try.prog (e_root_zero k).1 := ⟨ent_ok (root_zero_ok k), Try.f58, Try.func58, by kernel_rfl, by kernel_rfl⟩
noncomputable def code_root_FromRat : Code := (Try.f16.body).getD .skip
theorem body_root_FromRat : Try.f16.body = some code_root_FromRat := by kernel_rfl
def ctx_root_FromRat (k : Nat) : Ctx := mkC 7 tyTab [e_root_zero k] [] [] true 133 false
theorem ctx_root_FromRat_ok (k : Nat) : CtxOk Try.prog (ctx_root_FromRat k) := mkC_ok tyTab_ok (List.forall_mem_cons.2 ⟨e_root_zero_ok k, fun _ h => absurd h List.not_mem_nil⟩) (fun _ h => absurd h List.not_mem_nil) (fun _ h => absurd h List.not_mem_nil)
theorem root_FromRat_ok (k : Nat) (x : TL [RatD]) (t : RootD) (h : root_FromRat k x.1 = some t) : CallOk Try.prog 16 (Cods.enc (.cons cRat .nil) x) ((oOne cRoot).enc t) :=
  fun_ok (ctx_root_FromRat_ok k) mixed rfl Try.func16 body_root_FromRat Try.ntmps16 (rs := [.cell 2 30]) (by kernel_rfl) (by show 1 ≤ 7; decide)
    (show runF (ctx_root_FromRat k) code_root_FromRat [.cell 2 30] none (Cods.enc (.cons cRat .nil) x) (oOne cRoot).dec = root_FromRat k x.1 by kernel_rfl) h
def e_root_FromRat (k : Nat) : Nat × Ent := (16, ent (.cons cRat .nil) (oOne cRoot) fun x => root_FromRat k x.1)
theorem e_root_FromRat_ok (k : Nat) : EntOk Try.prog (e_root_FromRat k).1 (e_root_FromRat k).2 ∧ entered Try.prog (e_root_FromRat k).1 := ⟨ent_ok (root_FromRat_ok k), Try.f16, Try.func16, by kernel_rfl, by kernel_rfl⟩
noncomputable def code_root_reduced : Code := (Try.f52.body).getD .skip
theorem body_root_reduced : Try.f52.body = some code_root_reduced := by kernel_rfl
def ctx_root_reduced (k : Nat) : Ctx := mkC 15 tyTab [e_rational_Sign k, e_root_zero k] [] [] true 133 false
theorem ctx_root_reduced_ok (k : Nat) : CtxOk Try.prog (ctx_root_reduced k) := mkC_ok tyTab_ok (List.forall_mem_cons.2 ⟨e_rational_Sign_ok k, List.forall_mem_cons.2 ⟨e_root_zero_ok k, fun _ h => absurd h List.not_mem_nil⟩⟩) (fun _ h => absurd h List.not_mem_nil) (fun _ h => absurd h List.not_mem_nil)
theorem root_reduced_ok (k : Nat) (x : TL [RatD, RatD, RatD]) (t : RootD) (h : root_reduced k x.1 x.2.1 x.2.2.1 = some t) : CallOk Try.prog 52 (Cods.enc (.cons cRat (.cons cRat (.cons cRat .nil))) x) ((oOne cRoot).enc t) :=
  fun_ok (ctx_root_reduced_ok k) mixed rfl Try.func52 body_root_reduced Try.ntmps52 (rs := [.cell 6 30]) (by kernel_rfl) (by show 3 ≤ 15; decide)
    (show runF (ctx_root_reduced k) code_root_reduced [.cell 6 30] none (Cods.enc (.cons cRat (.cons cRat (.cons cRat .nil))) x) (oOne cRoot).dec = root_reduced k x.1 x.2.1 x.2.2.1 by kernel_rfl) h
def e_root_reduced (k : Nat) : Nat × Ent := (52, ent (.cons cRat (.cons cRat (.cons cRat .nil))) (oOne cRoot) fun x => root_reduced k x.1 x.2.1 x.2.2.1)
theorem e_root_reduced_ok (k : Nat) : EntOk Try.prog (e_root_reduced k).1 (e_root_reduced k).2 ∧ entered Try.prog (e_root_reduced k).1 := ⟨ent_ok (root_reduced_ok k), Try.f52, Try.func52, by kernel_rfl, by kernel_rfl⟩
noncomputable def code_root_Make : Code := (Try.f12.body).getD .skip
theorem body_root_Make : Try.f12.body = some code_root_Make := by kernel_rfl
def ctx_root_Make (k : Nat) : Ctx := mkC 30 tyTab [e_root_FromRat k, e_rational_Sign k, e_rational_Sqrt k, e_rational_Add k, e_rational_Mul k, e_root_reduced k] [] [] true 133 false
theorem ctx_root_Make_ok (k : Nat) : CtxOk Try.prog (ctx_root_Make k) := mkC_ok tyTab_ok (List.forall_mem_cons.2 ⟨e_root_FromRat_ok k, List.forall_mem_cons.2 ⟨e_rational_Sign_ok k, List.forall_mem_cons.2 ⟨e_rational_Sqrt_ok k, List.forall_mem_cons.2 ⟨e_rational_Add_ok k, List.forall_mem_cons.2 ⟨e_rational_Mul_ok k, List.forall_mem_cons.2 ⟨e_root_reduced_ok k, fun _ h => absurd h List.not_mem_nil⟩⟩⟩⟩⟩⟩) (fun _ h => absurd h List.not_mem_nil) (fun _ h => absurd h List.not_mem_nil)
theorem root_Make_ok (k : Nat) (x : TL [RatD, RatD, RatD]) (t : RootD × Int) (h : root_Make k x.1 x.2.1 x.2.2.1 = some t) : CallOk Try.prog 12 (Cods.enc (.cons cRat (.cons cRat (.cons cRat .nil))) x) ((o2 cRoot (cInt .i64)).enc t) :=
  fun_ok (ctx_root_Make_ok k) mixed rfl Try.func12 body_root_Make Try.ntmps12 (rs := [.cell 6 30, .tmp 7]) (by kernel_rfl) (by show 3 ≤ 30; decide)
    (show runF (ctx_root_Make k) code_root_Make [.cell 6 30, .tmp 7] none (Cods.enc (.cons cRat (.cons cRat (.cons cRat .nil))) x) (o2 cRoot (cInt .i64)).dec = root_Make k x.1 x.2.1 x.2.2.1 by kernel_rfl) h
def e_root_Make (k : Nat) : Nat × Ent := (12, ent (.cons cRat (.cons cRat (.cons cRat .nil))) (o2 cRoot (cInt .i64)) fun x => root_Make k x.1 x.2.1 x.2.2.1)
theorem e_root_Make_ok (k : Nat) : EntOk Try.prog (e_root_Make k).1 (e_root_Make k).2 ∧ entered Try.prog (e_root_Make k).1 := ⟨ent_ok (root_Make_ok k), Try.f12, Try.func12, by kernel_rfl, by kernel_rfl⟩
noncomputable def code_swarfref01_Same : Code := (Try.f60.body).getD .skip
theorem body_swarfref01_Same : Try.f60.body = some code_swarfref01_Same := by kernel_rfl
def ctx_swarfref01_Same (k : Nat) : Ctx := mkC 18 tyTab [e_swarfref01_compare k] [] [] true 133 false
theorem ctx_swarfref01_Same_ok (k : Nat) : CtxOk Try.prog (ctx_swarfref01_Same k) := mkC_ok tyTab_ok (List.forall_mem_cons.2 ⟨e_swarfref01_compare_ok k, fun _ h => absurd h List.not_mem_nil⟩) (fun _ h => absurd h List.not_mem_nil) (fun _ h => absurd h List.not_mem_nil)
theorem swarfref01_Same_ok (k : Nat) (x : TL [IntD, IntD]) (t : Bool) (h : swarfref01_Same k x.1 x.2.1 = some t) : CallOk Try.prog 60 (Cods.enc (.cons cIntD (.cons cIntD .nil)) x) ((oOne cB).enc t) :=
  fun_ok (ctx_swarfref01_Same_ok k) mixed rfl Try.func60 body_swarfref01_Same Try.ntmps60 (rs := [.tmp 4]) (by kernel_rfl) (by show 2 ≤ 18; decide)
    (show runF (ctx_swarfref01_Same k) code_swarfref01_Same [.tmp 4] none (Cods.enc (.cons cIntD (.cons cIntD .nil)) x) (oOne cB).dec = swarfref01_Same k x.1 x.2.1 by kernel_rfl) h
def e_swarfref01_Same (k : Nat) : Nat × Ent := (60, ent (.cons cIntD (.cons cIntD .nil)) (oOne cB) fun x => swarfref01_Same k x.1 x.2.1)
theorem e_swarfref01_Same_ok (k : Nat) : EntOk Try.prog (e_swarfref01_Same k).1 (e_swarfref01_Same k).2 ∧ entered Try.prog (e_swarfref01_Same k).1 := ⟨ent_ok (swarfref01_Same_ok k), Try.f60, Try.func60, by kernel_rfl, by kernel_rfl⟩
noncomputable def code_swarfref02_Same : Code := (Try.f19.body).getD .skip
theorem body_swarfref02_Same : Try.f19.body = some code_swarfref02_Same := by kernel_rfl
def ctx_swarfref02_Same (k : Nat) : Ctx := mkC 17 tyTab [e_swarfref01_Same k] [] [] true 133 false
theorem ctx_swarfref02_Same_ok (k : Nat) : CtxOk Try.prog (ctx_swarfref02_Same k) := mkC_ok tyTab_ok (List.forall_mem_cons.2 ⟨e_swarfref01_Same_ok k, fun _ h => absurd h List.not_mem_nil⟩) (fun _ h => absurd h List.not_mem_nil) (fun _ h => absurd h List.not_mem_nil)
theorem swarfref02_Same_ok (k : Nat) (x : TL [RatD, RatD]) (t : Bool) (h : swarfref02_Same k x.1 x.2.1 = some t) : CallOk Try.prog 19 (Cods.enc (.cons cRat (.cons cRat .nil)) x) ((oOne cB).enc t) :=
  fun_ok (ctx_swarfref02_Same_ok k) mixed rfl Try.func19 body_swarfref02_Same Try.ntmps19 (rs := [.tmp 4]) (by kernel_rfl) (by show 2 ≤ 17; decide)
    (show runF (ctx_swarfref02_Same k) code_swarfref02_Same [.tmp 4] none (Cods.enc (.cons cRat (.cons cRat .nil)) x) (oOne cB).dec = swarfref02_Same k x.1 x.2.1 by kernel_rfl) h
def e_swarfref02_Same (k : Nat) : Nat × Ent := (19, ent (.cons cRat (.cons cRat .nil)) (oOne cB) fun x => swarfref02_Same k x.1 x.2.1)
theorem e_swarfref02_Same_ok (k : Nat) : EntOk Try.prog (e_swarfref02_Same k).1 (e_swarfref02_Same k).2 ∧ entered Try.prog (e_swarfref02_Same k).1 := ⟨ent_ok (swarfref02_Same_ok k), Try.f19, Try.func19, by kernel_rfl, by kernel_rfl⟩
noncomputable def code_rational_Neg : Code := (Try.f86.body).getD .skip
theorem body_rational_Neg : Try.f86.body = some code_rational_Neg := by kernel_rfl
def ctx_rational_Neg (k : Nat) : Ctx := mkC 9 tyTab [e_integer_Neg k] [] [] true 133 false
theorem ctx_rational_Neg_ok (k : Nat) : CtxOk Try.prog (ctx_rational_Neg k) := mkC_ok tyTab_ok (List.forall_mem_cons.2 ⟨e_integer_Neg_ok k, fun _ h => absurd h List.not_mem_nil⟩) (fun _ h => absurd h List.not_mem_nil) (fun _ h => absurd h List.not_mem_nil)
theorem rational_Neg_ok (k : Nat) (x : TL [RatD]) (t : RatD) (h : rational_Neg k x.1 = some t) : CallOk Try.prog 86 (Cods.enc (.cons cRat .nil) x) ((oOne cRat).enc t) :=
  fun_ok (ctx_rational_Neg_ok k) mixed rfl Try.func86 body_rational_Neg Try.ntmps86 (rs := [.cell 2 26]) (by kernel_rfl) (by show 1 ≤ 9; decide)
    (show runF (ctx_rational_Neg k) code_rational_Neg [.cell 2 26] none (Cods.enc (.cons cRat .nil) x) (oOne cRat).dec = rational_Neg k x.1 by kernel_rfl) h
def e_rational_Neg (k : Nat) : Nat × Ent := (86, ent (.cons cRat .nil) (oOne cRat) fun x => rational_Neg k x.1)
theorem e_rational_Neg_ok (k : Nat) : EntOk Try.prog (e_rational_Neg k).1 (e_rational_Neg k).2 ∧ entered Try.prog (e_rational_Neg k).1 := ⟨ent_ok (rational_Neg_ok k), Try.f86, Try.func86, by kernel_rfl, by kernel_rfl⟩
noncomputable def code_rational_Sub : Code := (Try.f113.body).getD .skip
theorem body_rational_Sub : Try.f113.body = some code_rational_Sub := by kernel_rfl
def ctx_rational_Sub (k : Nat) : Ctx := mkC 9 tyTab [e_rational_Add k, e_rational_Neg k] [] [] true 133 false
theorem ctx_rational_Sub_ok (k : Nat) : CtxOk Try.prog (ctx_rational_Sub k) := mkC_ok tyTab_ok (List.forall_mem_cons.2 ⟨e_rational_Add_ok k, List.forall_mem_cons.2 ⟨e_rational_Neg_ok k, fun _ h => absurd h List.not_mem_nil⟩⟩) (fun _ h => absurd h List.not_mem_nil) (fun _ h => absurd h List.not_mem_nil)
theorem rational_Sub_ok (k : Nat) (x : TL [RatD, RatD]) (t : RatD) (h : rational_Sub k x.1 x.2.1 = some t) : CallOk Try.prog 113 (Cods.enc (.cons cRat (.cons cRat .nil)) x) ((oOne cRat).enc t) :=
  fun_ok (ctx_rational_Sub_ok k) mixed rfl Try.func113 body_rational_Sub Try.ntmps113 (rs := [.cell 4 26]) (by kernel_rfl) (by show 2 ≤ 9; decide)
    (show runF (ctx_rational_Sub k) code_rational_Sub [.cell 4 26] none (Cods.enc (.cons cRat (.cons cRat .nil)) x) (oOne cRat).dec = rational_Sub k x.1 x.2.1 by kernel_rfl) h
def e_rational_Sub (k : Nat) : Nat × Ent := (113, ent (.cons cRat (.cons cRat .nil)) (oOne cRat) fun x => rational_Sub k x.1 x.2.1)
theorem e_rational_Sub_ok (k : Nat) : EntOk Try.prog (e_rational_Sub k).1 (e_rational_Sub k).2 ∧ entered Try.prog (e_rational_Sub k).1 := ⟨ent_ok (rational_Sub_ok k), Try.f113, Try.func113, by kernel_rfl, by kernel_rfl⟩
noncomputable def code_root_norm : Code := (Try.f84.body).getD .skip
theorem body_root_norm : Try.f84.body = some code_root_norm := by kernel_rfl
def ctx_root_norm (k : Nat) : Ctx := mkC 17 tyTab [e_rational_Mul k, e_rational_Sub k] [] [] true 133 false
theorem ctx_root_norm_ok (k : Nat) : CtxOk Try.prog (ctx_root_norm k) := mkC_ok tyTab_ok (List.forall_mem_cons.2 ⟨e_rational_Mul_ok k, List.forall_mem_cons.2 ⟨e_rational_Sub_ok k, fun _ h => absurd h List.not_mem_nil⟩⟩) (fun _ h => absurd h List.not_mem_nil) (fun _ h => absurd h List.not_mem_nil)
theorem root_norm_ok (k : Nat) (x : TL [RootD]) (t : RatD) (h : root_norm k x.1 = some t) : CallOk Try.prog 84 (Cods.enc (.cons cRoot .nil) x) ((oOne cRat).enc t) :=
  fun_ok (ctx_root_norm_ok k) mixed rfl Try.func84 body_root_norm Try.ntmps84 (rs := [.cell 2 26]) (by kernel_rfl) (by show 1 ≤ 17; decide)
    (show runF (ctx_root_norm k) code_root_norm [.cell 2 26] none (Cods.enc (.cons cRoot .nil) x) (oOne cRat).dec = root_norm k x.1 by kernel_rfl) h
def e_root_norm (k : Nat) : Nat × Ent := (84, ent (.cons cRoot .nil) (oOne cRat) fun x => root_norm k x.1)
theorem e_root_norm_ok (k : Nat) : EntOk Try.prog (e_root_norm k).1 (e_root_norm k).2 ∧ entered Try.prog (e_root_norm k).1 := ⟨ent_ok (root_norm_ok k), Try.f84, Try.func84, by kernel_rfl, by kernel_rfl⟩
noncomputable def code_root_Sign : Code := (Try.f46.body).getD .skip
theorem body_root_Sign : Try.f46.body = some code_root_Sign := by kernel_rfl
def ctx_root_Sign (k : Nat) : Ctx := mkC 29 tyTab [e_rational_Sign k, e_root_norm k] [] [] true 133 false
theorem ctx_root_Sign_ok (k : Nat) : CtxOk Try.prog (ctx_root_Sign k) := mkC_ok tyTab_ok (List.forall_mem_cons.2 ⟨e_rational_Sign_ok k, List.forall_mem_cons.2 ⟨e_root_norm_ok k, fun _ h => absurd h List.not_mem_nil⟩⟩) (fun _ h => absurd h List.not_mem_nil) (fun _ h => absurd h List.not_mem_nil)
theorem root_Sign_ok (k : Nat) (x : TL [RootD]) (t : Int) (h : root_Sign k x.1 = some t) : CallOk Try.prog 46 (Cods.enc (.cons cRoot .nil) x) ((oOne (cInt .i64)).enc t) :=
  fun_ok (ctx_root_Sign_ok k) mixed rfl Try.func46 body_root_Sign Try.ntmps46 (rs := [.tmp 2]) (by kernel_rfl) (by show 1 ≤ 29; decide)
    (show runF (ctx_root_Sign k) code_root_Sign [.tmp 2] none (Cods.enc (.cons cRoot .nil) x) (oOne (cInt .i64)).dec = root_Sign k x.1 by kernel_rfl) h
def e_root_Sign (k : Nat) : Nat × Ent := (46, ent (.cons cRoot .nil) (oOne (cInt .i64)) fun x => root_Sign k x.1)
theorem e_root_Sign_ok (k : Nat) : EntOk Try.prog (e_root_Sign k).1 (e_root_Sign k).2 ∧ entered Try.prog (e_root_Sign k).1 := ⟨ent_ok (root_Sign_ok k), Try.f46, Try.func46, by kernel_rfl, by kernel_rfl⟩
noncomputable def code_rational_Div : Code := (Try.f82.body).getD .skip
theorem body_rational_Div : Try.f82.body = some code_rational_Div := by kernel_rfl
def ctx_rational_Div (k : Nat) : Ctx := mkC 21 tyTab [e_rational_Sign k, e_integer_Mul k, e_rational_reduce k] [] [] true 133 false
theorem ctx_rational_Div_ok (k : Nat) : CtxOk Try.prog (ctx_rational_Div k) := mkC_ok tyTab_ok (List.forall_mem_cons.2 ⟨e_rational_Sign_ok k, List.forall_mem_cons.2 ⟨e_integer_Mul_ok k, List.forall_mem_cons.2 ⟨e_rational_reduce_ok k, fun _ h => absurd h List.not_mem_nil⟩⟩⟩) (fun _ h => absurd h List.not_mem_nil) (fun _ h => absurd h List.not_mem_nil)
theorem rational_Div_ok (k : Nat) (x : TL [RatD, RatD]) (t : RatD × Int) (h : rational_Div k x.1 x.2.1 = some t) : CallOk Try.prog 82 (Cods.enc (.cons cRat (.cons cRat .nil)) x) ((o2 cRat (cInt .i64)).enc t) :=
  fun_ok (ctx_rational_Div_ok k) mixed rfl Try.func82 body_rational_Div Try.ntmps82 (rs := [.cell 4 26, .tmp 5]) (by kernel_rfl) (by show 2 ≤ 21; decide)
    (show runF (ctx_rational_Div k) code_rational_Div [.cell 4 26, .tmp 5] none (Cods.enc (.cons cRat (.cons cRat .nil)) x) (o2 cRat (cInt .i64)).dec = rational_Div k x.1 x.2.1 by kernel_rfl) h
def e_rational_Div (k : Nat) : Nat × Ent := (82, ent (.cons cRat (.cons cRat .nil)) (o2 cRat (cInt .i64)) fun x => rational_Div k x.1 x.2.1)
theorem e_rational_Div_ok (k : Nat) : EntOk Try.prog (e_rational_Div k).1 (e_rational_Div k).2 ∧ entered Try.prog (e_rational_Div k).1 := ⟨ent_ok (rational_Div_ok k), Try.f82, Try.func82, by kernel_rfl, by kernel_rfl⟩
noncomputable def code_root_Scale : Code := (Try.f85.body).getD .skip
theorem body_root_Scale : Try.f85.body = some code_root_Scale := by kernel_rfl
def ctx_root_Scale (k : Nat) : Ctx := mkC 16 tyTab [e_rational_Mul k, e_root_reduced k] [] [] true 133 false
theorem ctx_root_Scale_ok (k : Nat) : CtxOk Try.prog (ctx_root_Scale k) := mkC_ok tyTab_ok (List.forall_mem_cons.2 ⟨e_rational_Mul_ok k, List.forall_mem_cons.2 ⟨e_root_reduced_ok k, fun _ h => absurd h List.not_mem_nil⟩⟩) (fun _ h => absurd h List.not_mem_nil) (fun _ h => absurd h List.not_mem_nil)
theorem root_Scale_ok (k : Nat) (x : TL [RootD, RatD]) (t : RootD) (h : root_Scale k x.1 x.2.1 = some t) : CallOk Try.prog 85 (Cods.enc (.cons cRoot (.cons cRat .nil)) x) ((oOne cRoot).enc t) :=
  fun_ok (ctx_root_Scale_ok k) mixed rfl Try.func85 body_root_Scale Try.ntmps85 (rs := [.cell 4 30]) (by kernel_rfl) (by show 2 ≤ 16; decide)
    (show runF (ctx_root_Scale k) code_root_Scale [.cell 4 30] none (Cods.enc (.cons cRoot (.cons cRat .nil)) x) (oOne cRoot).dec = root_Scale k x.1 x.2.1 by kernel_rfl) h
def e_root_Scale (k : Nat) : Nat × Ent := (85, ent (.cons cRoot (.cons cRat .nil)) (oOne cRoot) fun x => root_Scale k x.1 x.2.1)
theorem e_root_Scale_ok (k : Nat) : EntOk Try.prog (e_root_Scale k).1 (e_root_Scale k).2 ∧ entered Try.prog (e_root_Scale k).1 := ⟨ent_ok (root_Scale_ok k), Try.f85, Try.func85, by kernel_rfl, by kernel_rfl⟩
noncomputable def code_lookahead_within : Code := (Try.f66.body).getD .skip
theorem body_lookahead_within : Try.f66.body = some code_lookahead_within := by kernel_rfl
def ctx_lookahead_within (k : Nat) : Ctx := mkC 15 tyTab [] [] [] true 133 false
theorem ctx_lookahead_within_ok (k : Nat) : CtxOk Try.prog (ctx_lookahead_within k) := mkC_ok tyTab_ok (fun _ h => absurd h List.not_mem_nil) (fun _ h => absurd h List.not_mem_nil) (fun _ h => absurd h List.not_mem_nil)
theorem lookahead_within_ok (k : Nat) (x : TL [Int, Int, Int]) (t : Bool) (h : lookahead_within k x.1 x.2.1 x.2.2.1 = some t) : CallOk Try.prog 66 (Cods.enc (.cons (cInt .i64) (.cons (cInt .i64) (.cons (cInt .i64) .nil))) x) ((oOne cB).enc t) :=
  fun_ok (ctx_lookahead_within_ok k) mixed rfl Try.func66 body_lookahead_within Try.ntmps66 (rs := [.tmp 6]) (by kernel_rfl) (by show 3 ≤ 15; decide)
    (show runF (ctx_lookahead_within k) code_lookahead_within [.tmp 6] none (Cods.enc (.cons (cInt .i64) (.cons (cInt .i64) (.cons (cInt .i64) .nil))) x) (oOne cB).dec = lookahead_within k x.1 x.2.1 x.2.2.1 by kernel_rfl) h
def e_lookahead_within (k : Nat) : Nat × Ent := (66, ent (.cons (cInt .i64) (.cons (cInt .i64) (.cons (cInt .i64) .nil))) (oOne cB) fun x => lookahead_within k x.1 x.2.1 x.2.2.1)
theorem e_lookahead_within_ok (k : Nat) : EntOk Try.prog (e_lookahead_within k).1 (e_lookahead_within k).2 ∧ entered Try.prog (e_lookahead_within k).1 := ⟨ent_ok (lookahead_within_ok k), Try.f66, Try.func66, by kernel_rfl, by kernel_rfl⟩
noncomputable def code_integer_Int64 : Code := (Try.f116.body).getD .skip
theorem body_integer_Int64 : Try.f116.body = some code_integer_Int64 := by kernel_rfl
def ctx_integer_Int64 (k : Nat) : Ctx := mkC 39 tyTab [e_integer_FromInt64 k, e_integer_Cmp k] [] [(0, .norm k [slR 1 IntD.lv dIntD, slV 4 (cInt .u64), slV 5 (cInt .i64)] [(.exit 0, [slR 1 IntD.lv dIntD, slV 4 (cInt .u64)])])] true 133 false
theorem ctx_integer_Int64_ok (k : Nat) : CtxOk Try.prog (ctx_integer_Int64 k) := mkC_ok tyTab_ok (List.forall_mem_cons.2 ⟨e_integer_FromInt64_ok k, List.forall_mem_cons.2 ⟨e_integer_Cmp_ok k, fun _ h => absurd h List.not_mem_nil⟩⟩) (fun _ h => absurd h List.not_mem_nil) (List.forall_mem_cons.2 ⟨⟨⟨List.forall_mem_cons.2 ⟨slR_ok 1 fun _ _ => dIntD_weak, List.forall_mem_cons.2 ⟨slV_ok 4 (cInt .u64), List.forall_mem_cons.2 ⟨slV_ok 5 (cInt .i64), fun _ h => absurd h List.not_mem_nil⟩⟩⟩, by decide⟩, List.forall_mem_cons.2 ⟨⟨List.forall_mem_cons.2 ⟨slR_ok 1 fun _ _ => dIntD_weak, List.forall_mem_cons.2 ⟨slV_ok 4 (cInt .u64), fun _ h => absurd h List.not_mem_nil⟩⟩, by decide⟩, fun _ h => absurd h List.not_mem_nil⟩⟩, fun _ h => absurd h List.not_mem_nil⟩)
theorem integer_Int64_ok (k : Nat) (x : TL [IntD]) (t : Int × Bool) (h : integer_Int64 k x.1 = some t) : CallOk Try.prog 116 (Cods.enc (.cons cIntD .nil) x) ((o2 (cInt .i64) cB).enc t) :=
  fun_ok (ctx_integer_Int64_ok k) mixed rfl Try.func116 body_integer_Int64 Try.ntmps116 (rs := [.tmp 2, .tmp 3]) (by kernel_rfl) (by show 1 ≤ 39; decide)
    (show runF (ctx_integer_Int64 k) code_integer_Int64 [.tmp 2, .tmp 3] none (Cods.enc (.cons cIntD .nil) x) (o2 (cInt .i64) cB).dec = integer_Int64 k x.1 by kernel_rfl) h
def e_integer_Int64 (k : Nat) : Nat × Ent := (116, ent (.cons cIntD .nil) (o2 (cInt .i64) cB) fun x => integer_Int64 k x.1)
theorem e_integer_Int64_ok (k : Nat) : EntOk Try.prog (e_integer_Int64 k).1 (e_integer_Int64 k).2 ∧ entered Try.prog (e_integer_Int64 k).1 := ⟨ent_ok (integer_Int64_ok k), Try.f116, Try.func116, by kernel_rfl, by kernel_rfl⟩
noncomputable def code_lookahead_sqrt : Code := (Try.f75.body).getD .skip
theorem body_lookahead_sqrt : Try.f75.body = some code_lookahead_sqrt := by kernel_rfl
def ctx_lookahead_sqrt (k : Nat) : Ctx := mkC 21 tyTab [e_integer_Sqrt k, e_integer_FromInt64 k, e_integer_Int64 k] [] [] true 133 false
theorem ctx_lookahead_sqrt_ok (k : Nat) : CtxOk Try.prog (ctx_lookahead_sqrt k) := mkC_ok tyTab_ok (List.forall_mem_cons.2 ⟨e_integer_Sqrt_ok k, List.forall_mem_cons.2 ⟨e_integer_FromInt64_ok k, List.forall_mem_cons.2 ⟨e_integer_Int64_ok k, fun _ h => absurd h List.not_mem_nil⟩⟩⟩) (fun _ h => absurd h List.not_mem_nil) (fun _ h => absurd h List.not_mem_nil)
theorem lookahead_sqrt_ok (k : Nat) (x : TL [Int]) (t : Int) (h : lookahead_sqrt k x.1 = some t) : CallOk Try.prog 75 (Cods.enc (.cons (cInt .i64) .nil) x) ((oOne (cInt .i64)).enc t) :=
  fun_ok (ctx_lookahead_sqrt_ok k) mixed rfl Try.func75 body_lookahead_sqrt Try.ntmps75 (rs := [.tmp 2]) (by kernel_rfl) (by show 1 ≤ 21; decide)
    (show runF (ctx_lookahead_sqrt k) code_lookahead_sqrt [.tmp 2] none (Cods.enc (.cons (cInt .i64) .nil) x) (oOne (cInt .i64)).dec = lookahead_sqrt k x.1 by kernel_rfl) h
def e_lookahead_sqrt (k : Nat) : Nat × Ent := (75, ent (.cons (cInt .i64) .nil) (oOne (cInt .i64)) fun x => lookahead_sqrt k x.1)
theorem e_lookahead_sqrt_ok (k : Nat) : EntOk Try.prog (e_lookahead_sqrt k).1 (e_lookahead_sqrt k).2 ∧ entered Try.prog (e_lookahead_sqrt k).1 := ⟨ent_ok (lookahead_sqrt_ok k), Try.f75, Try.func75, by kernel_rfl, by kernel_rfl⟩
noncomputable def code_lookahead_faster : Code := (Try.f68.body).getD .skip
theorem body_lookahead_faster : Try.f68.body = some code_lookahead_faster := by kernel_rfl
def ctx_lookahead_faster (k : Nat) : Ctx := mkC 16 tyTab [e_lookahead_sqrt k] [] [] true 133 false
theorem ctx_lookahead_faster_ok (k : Nat) : CtxOk Try.prog (ctx_lookahead_faster k) := mkC_ok tyTab_ok (List.forall_mem_cons.2 ⟨e_lookahead_sqrt_ok k, fun _ h => absurd h List.not_mem_nil⟩) (fun _ h => absurd h List.not_mem_nil) (fun _ h => absurd h List.not_mem_nil)
theorem lookahead_faster_ok (k : Nat) (x : TL [Int, Int, Int]) (t : Int) (h : lookahead_faster k x.1 x.2.1 x.2.2.1 = some t) : CallOk Try.prog 68 (Cods.enc (.cons (cInt .i64) (.cons (cInt .i64) (.cons (cInt .i64) .nil))) x) ((oOne (cInt .i64)).enc t) :=
  fun_ok (ctx_lookahead_faster_ok k) mixed rfl Try.func68 body_lookahead_faster Try.ntmps68 (rs := [.tmp 6]) (by kernel_rfl) (by show 3 ≤ 16; decide)
    (show runF (ctx_lookahead_faster k) code_lookahead_faster [.tmp 6] none (Cods.enc (.cons (cInt .i64) (.cons (cInt .i64) (.cons (cInt .i64) .nil))) x) (oOne (cInt .i64)).dec = lookahead_faster k x.1 x.2.1 x.2.2.1 by kernel_rfl) h
def e_lookahead_faster (k : Nat) : Nat × Ent := (68, ent (.cons (cInt .i64) (.cons (cInt .i64) (.cons (cInt .i64) .nil))) (oOne (cInt .i64)) fun x => lookahead_faster k x.1 x.2.1 x.2.2.1)
theorem e_lookahead_faster_ok (k : Nat) : EntOk Try.prog (e_lookahead_faster k).1 (e_lookahead_faster k).2 ∧ entered Try.prog (e_lookahead_faster k).1 := ⟨ent_ok (lookahead_faster_ok k), Try.f68, Try.func68, by kernel_rfl, by kernel_rfl⟩
noncomputable def code_lookahead_Faster : Code := (Try.f35.body).getD .skip
theorem body_lookahead_Faster : Try.f35.body = some code_lookahead_Faster := by kernel_rfl
def ctx_lookahead_Faster (k : Nat) : Ctx := mkC 25 tyTab [e_lookahead_within k, e_lookahead_faster k] [] [] true 133 false
theorem ctx_lookahead_Faster_ok (k : Nat) : CtxOk Try.prog (ctx_lookahead_Faster k) := mkC_ok tyTab_ok (List.forall_mem_cons.2 ⟨e_lookahead_within_ok k, List.forall_mem_cons.2 ⟨e_lookahead_faster_ok k, fun _ h => absurd h List.not_mem_nil⟩⟩) (fun _ h => absurd h List.not_mem_nil) (fun _ h => absurd h List.not_mem_nil)
theorem lookahead_Faster_ok (k : Nat) (x : TL [Int, Int, Int]) (t : Int × Int) (h : lookahead_Faster k x.1 x.2.1 x.2.2.1 = some t) : CallOk Try.prog 35 (Cods.enc (.cons (cInt .i64) (.cons (cInt .i64) (.cons (cInt .i64) .nil))) x) ((o2 (cInt .i64) (cInt .i64)).enc t) :=
  fun_ok (ctx_lookahead_Faster_ok k) mixed rfl Try.func35 body_lookahead_Faster Try.ntmps35 (rs := [.tmp 6, .tmp 7]) (by kernel_rfl) (by show 3 ≤ 25; decide)
    (show runF (ctx_lookahead_Faster k) code_lookahead_Faster [.tmp 6, .tmp 7] none (Cods.enc (.cons (cInt .i64) (.cons (cInt .i64) (.cons (cInt .i64) .nil))) x) (o2 (cInt .i64) (cInt .i64)).dec = lookahead_Faster k x.1 x.2.1 x.2.2.1 by kernel_rfl) h
def e_lookahead_Faster (k : Nat) : Nat × Ent := (35, ent (.cons (cInt .i64) (.cons (cInt .i64) (.cons (cInt .i64) .nil))) (o2 (cInt .i64) (cInt .i64)) fun x => lookahead_Faster k x.1 x.2.1 x.2.2.1)
theorem e_lookahead_Faster_ok (k : Nat) : EntOk Try.prog (e_lookahead_Faster k).1 (e_lookahead_Faster k).2 ∧ entered Try.prog (e_lookahead_Faster k).1 := ⟨ent_ok (lookahead_Faster_ok k), Try.f35, Try.func35, by kernel_rfl, by kernel_rfl⟩
noncomputable def code_lookahead_Valid : Code := (Try.f32.body).getD .skip
theorem body_lookahead_Valid : Try.f32.body = some code_lookahead_Valid := by kernel_rfl
def ctx_lookahead_Valid (k : Nat) : Ctx := mkC 36 tyTab [e_lookahead_within k] [] [(0, .norm k [slV 13 (cL .part), slV 14 (cInt .i64), slV 15 (cInt .i64)] [(.exit 0, []), (.ret, [slV 4 (cInt .i64)])])] true 133 false
theorem ctx_lookahead_Valid_ok (k : Nat) : CtxOk Try.prog (ctx_lookahead_Valid k) := mkC_ok tyTab_ok (List.forall_mem_cons.2 ⟨e_lookahead_within_ok k, fun _ h => absurd h List.not_mem_nil⟩) (fun _ h => absurd h List.not_mem_nil) (List.forall_mem_cons.2 ⟨⟨⟨List.forall_mem_cons.2 ⟨slV_ok 13 (cL .part), List.forall_mem_cons.2 ⟨slV_ok 14 (cInt .i64), List.forall_mem_cons.2 ⟨slV_ok 15 (cInt .i64), fun _ h => absurd h List.not_mem_nil⟩⟩⟩, by decide⟩, List.forall_mem_cons.2 ⟨⟨fun _ h => absurd h List.not_mem_nil, by decide⟩, List.forall_mem_cons.2 ⟨⟨List.forall_mem_cons.2 ⟨slV_ok 4 (cInt .i64), fun _ h => absurd h List.not_mem_nil⟩, by decide⟩, fun _ h => absurd h List.not_mem_nil⟩⟩⟩, fun _ h => absurd h List.not_mem_nil⟩)
theorem lookahead_Valid_ok (k : Nat) (x : TL [List PartD, Int]) (t : Int) (h : lookahead_Valid k x.1 x.2.1 = some t) : CallOk Try.prog 32 (Cods.enc (.cons (cL .part) (.cons (cInt .i64) .nil)) x) ((oOne (cInt .i64)).enc t) :=
  fun_ok (ctx_lookahead_Valid_ok k) mixed rfl Try.func32 body_lookahead_Valid Try.ntmps32 (rs := [.tmp 4]) (by kernel_rfl) (by show 2 ≤ 36; decide)
    (show runF (ctx_lookahead_Valid k) code_lookahead_Valid [.tmp 4] none (Cods.enc (.cons (cL .part) (.cons (cInt .i64) .nil)) x) (oOne (cInt .i64)).dec = lookahead_Valid k x.1 x.2.1 by kernel_rfl) h
def e_lookahead_Valid (k : Nat) : Nat × Ent := (32, ent (.cons (cL .part) (.cons (cInt .i64) .nil)) (oOne (cInt .i64)) fun x => lookahead_Valid k x.1 x.2.1)
theorem e_lookahead_Valid_ok (k : Nat) : EntOk Try.prog (e_lookahead_Valid k).1 (e_lookahead_Valid k).2 ∧ entered Try.prog (e_lookahead_Valid k).1 := ⟨ent_ok (lookahead_Valid_ok k), Try.f32, Try.func32, by kernel_rfl, by kernel_rfl⟩
noncomputable def code_lookahead_Speeds : Code := (Try.f30.body).getD .skip
theorem body_lookahead_Speeds : Try.f30.body = some code_lookahead_Speeds := by kernel_rfl
def ctx_lookahead_Speeds (k : Nat) : Ctx := mkC 88 tyTab [e_lookahead_Valid k, e_lookahead_faster k] [] [(0, .norm k [slV 0 (cL .part), slV 1 (cInt .i64), slA 7 (.i .i64) 2, slV 8 (cInt .i64)] [(.exit 0, [slV 0 (cL .part), slV 1 (cInt .i64), slA 7 (.i .i64) 2])]), (2, .norm k [slV 0 (cL .part), slV 1 (cInt .i64), slA 7 (.i .i64) 2, slV 9 (cInt .i64)] [(.exit 2, [slA 7 (.i .i64) 2])])] true 133 false
theorem ctx_lookahead_Speeds_ok (k : Nat) : CtxOk Try.prog (ctx_lookahead_Speeds k) := mkC_ok tyTab_ok (List.forall_mem_cons.2 ⟨e_lookahead_Valid_ok k, List.forall_mem_cons.2 ⟨e_lookahead_faster_ok k, fun _ h => absurd h List.not_mem_nil⟩⟩) (fun _ h => absurd h List.not_mem_nil) (List.forall_mem_cons.2 ⟨⟨⟨List.forall_mem_cons.2 ⟨slV_ok 0 (cL .part), List.forall_mem_cons.2 ⟨slV_ok 1 (cInt .i64), List.forall_mem_cons.2 ⟨slA_ok 7 (.i .i64) 2, List.forall_mem_cons.2 ⟨slV_ok 8 (cInt .i64), fun _ h => absurd h List.not_mem_nil⟩⟩⟩⟩, by decide⟩, List.forall_mem_cons.2 ⟨⟨List.forall_mem_cons.2 ⟨slV_ok 0 (cL .part), List.forall_mem_cons.2 ⟨slV_ok 1 (cInt .i64), List.forall_mem_cons.2 ⟨slA_ok 7 (.i .i64) 2, fun _ h => absurd h List.not_mem_nil⟩⟩⟩, by decide⟩, fun _ h => absurd h List.not_mem_nil⟩⟩, List.forall_mem_cons.2 ⟨⟨⟨List.forall_mem_cons.2 ⟨slV_ok 0 (cL .part), List.forall_mem_cons.2 ⟨slV_ok 1 (cInt .i64), List.forall_mem_cons.2 ⟨slA_ok 7 (.i .i64) 2, List.forall_mem_cons.2 ⟨slV_ok 9 (cInt .i64), fun _ h => absurd h List.not_mem_nil⟩⟩⟩⟩, by decide⟩, List.forall_mem_cons.2 ⟨⟨List.forall_mem_cons.2 ⟨slA_ok 7 (.i .i64) 2, fun _ h => absurd h List.not_mem_nil⟩, by decide⟩, fun _ h => absurd h List.not_mem_nil⟩⟩, fun _ h => absurd h List.not_mem_nil⟩⟩)
theorem lookahead_Speeds_ok (k : Nat) (x : TL [List PartD, Int]) (t : List Int × Int) (h : lookahead_Speeds k x.1 x.2.1 = some t) : CallOk Try.prog 30 (Cods.enc (.cons (cL .part) (.cons (cInt .i64) .nil)) x) ((oF2 (.i .i64) 2 (cInt .i64)).enc t) :=
  fun_ok (ctx_lookahead_Speeds_ok k) mixed rfl Try.func30 body_lookahead_Speeds Try.ntmps30 (rs := [.tmp 4, .tmp 5]) (by kernel_rfl) (by show 2 ≤ 88; decide)
    (show runF (ctx_lookahead_Speeds k) code_lookahead_Speeds [.tmp 4, .tmp 5] (some ((.i .i64), 2)) (Cods.enc (.cons (cL .part) (.cons (cInt .i64) .nil)) x) (oF2 (.i .i64) 2 (cInt .i64)).dec = lookahead_Speeds k x.1 x.2.1 by kernel_rfl) h
def e_lookahead_Speeds (k : Nat) : Nat × Ent := (30, ent (.cons (cL .part) (.cons (cInt .i64) .nil)) (oF2 (.i .i64) 2 (cInt .i64)) fun x => lookahead_Speeds k x.1 x.2.1)
theorem e_lookahead_Speeds_ok (k : Nat) : EntOk Try.prog (e_lookahead_Speeds k).1 (e_lookahead_Speeds k).2 ∧ entered Try.prog (e_lookahead_Speeds k).1 := ⟨ent_ok (lookahead_Speeds_ok k), Try.f30, Try.func30, by kernel_rfl, by kernel_rfl⟩
noncomputable def code_lookahead_far : Code := (Try.f73.body).getD .skip
theorem body_lookahead_far : Try.f73.body = some code_lookahead_far := by kernel_rfl
def ctx_lookahead_far (k : Nat) : Ctx := mkC 21 tyTab [e_lookahead_within k] [] [(0, .norm k [slA 11 (.i .i64) 2, slV 12 (cInt .i64), slV 13 (cInt .i64)] [(.exit 0, []), (.ret, [slV 2 cB])])] true 133 false
theorem ctx_lookahead_far_ok (k : Nat) : CtxOk Try.prog (ctx_lookahead_far k) := mkC_ok tyTab_ok (List.forall_mem_cons.2 ⟨e_lookahead_within_ok k, fun _ h => absurd h List.not_mem_nil⟩) (fun _ h => absurd h List.not_mem_nil) (List.forall_mem_cons.2 ⟨⟨⟨List.forall_mem_cons.2 ⟨slA_ok 11 (.i .i64) 2, List.forall_mem_cons.2 ⟨slV_ok 12 (cInt .i64), List.forall_mem_cons.2 ⟨slV_ok 13 (cInt .i64), fun _ h => absurd h List.not_mem_nil⟩⟩⟩, by decide⟩, List.forall_mem_cons.2 ⟨⟨fun _ h => absurd h List.not_mem_nil, by decide⟩, List.forall_mem_cons.2 ⟨⟨List.forall_mem_cons.2 ⟨slV_ok 2 cB, fun _ h => absurd h List.not_mem_nil⟩, by decide⟩, fun _ h => absurd h List.not_mem_nil⟩⟩⟩, fun _ h => absurd h List.not_mem_nil⟩)
theorem lookahead_far_ok (k : Nat) (x : TL [PosD]) (t : Bool) (h : lookahead_far k x.1 = some t) : CallOk Try.prog 73 (Cods.enc (.cons cPos .nil) x) ((oOne cB).enc t) :=
  fun_ok (ctx_lookahead_far_ok k) mixed rfl Try.func73 body_lookahead_far Try.ntmps73 (rs := [.tmp 2]) (by kernel_rfl) (by show 1 ≤ 21; decide)
    (show runF (ctx_lookahead_far k) code_lookahead_far [.tmp 2] none (Cods.enc (.cons cPos .nil) x) (oOne cB).dec = lookahead_far k x.1 by kernel_rfl) h
def e_lookahead_far (k : Nat) : Nat × Ent := (73, ent (.cons cPos .nil) (oOne cB) fun x => lookahead_far k x.1)
theorem e_lookahead_far_ok (k : Nat) : EntOk Try.prog (e_lookahead_far k).1 (e_lookahead_far k).2 ∧ entered Try.prog (e_lookahead_far k).1 := ⟨ent_ok (lookahead_far_ok k), Try.f73, Try.func73, by kernel_rfl, by kernel_rfl⟩
noncomputable def code_lookahead_square : Code := (Try.f74.body).getD .skip
theorem body_lookahead_square : Try.f74.body = some code_lookahead_square := by kernel_rfl
def ctx_lookahead_square (k : Nat) : Ctx := mkC 20 tyTab [] [] [] true 133 false
theorem ctx_lookahead_square_ok (k : Nat) : CtxOk Try.prog (ctx_lookahead_square k) := mkC_ok tyTab_ok (fun _ h => absurd h List.not_mem_nil) (fun _ h => absurd h List.not_mem_nil) (fun _ h => absurd h List.not_mem_nil)
theorem lookahead_square_ok (k : Nat) (x : TL [PosD]) (t : Int) (h : lookahead_square k x.1 = some t) : CallOk Try.prog 74 (Cods.enc (.cons cPos .nil) x) ((oOne (cInt .i64)).enc t) :=
  fun_ok (ctx_lookahead_square_ok k) mixed rfl Try.func74 body_lookahead_square Try.ntmps74 (rs := [.tmp 2]) (by kernel_rfl) (by show 1 ≤ 20; decide)
    (show runF (ctx_lookahead_square k) code_lookahead_square [.tmp 2] none (Cods.enc (.cons cPos .nil) x) (oOne (cInt .i64)).dec = lookahead_square k x.1 by kernel_rfl) h
def e_lookahead_square (k : Nat) : Nat × Ent := (74, ent (.cons cPos .nil) (oOne (cInt .i64)) fun x => lookahead_square k x.1)
theorem e_lookahead_square_ok (k : Nat) : EntOk Try.prog (e_lookahead_square k).1 (e_lookahead_square k).2 ∧ entered Try.prog (e_lookahead_square k).1 := ⟨ent_ok (lookahead_square_ok k), Try.f74, Try.func74, by kernel_rfl, by kernel_rfl⟩
noncomputable def code_rational_Frac : Code := (Try.f111.body).getD .skip
theorem body_rational_Frac : Try.f111.body = some code_rational_Frac := by kernel_rfl
def ctx_rational_Frac (k : Nat) : Ctx := mkC 13 tyTab [e_rational_FromInt64 k, e_integer_FromInt64 k, e_rational_reduce k] [] [] true 133 false
theorem ctx_rational_Frac_ok (k : Nat) : CtxOk Try.prog (ctx_rational_Frac k) := mkC_ok tyTab_ok (List.forall_mem_cons.2 ⟨e_rational_FromInt64_ok k, List.forall_mem_cons.2 ⟨e_integer_FromInt64_ok k, List.forall_mem_cons.2 ⟨e_rational_reduce_ok k, fun _ h => absurd h List.not_mem_nil⟩⟩⟩) (fun _ h => absurd h List.not_mem_nil) (fun _ h => absurd h List.not_mem_nil)
theorem rational_Frac_ok (k : Nat) (x : TL [Int, Int]) (t : RatD) (h : rational_Frac k x.1 x.2.1 = some t) : CallOk Try.prog 111 (Cods.enc (.cons (cInt .i64) (.cons (cInt .i64) .nil)) x) ((oOne cRat).enc t) :=
  fun_ok (ctx_rational_Frac_ok k) mixed rfl Try.func111 body_rational_Frac Try.ntmps111 (rs := [.cell 4 26]) (by kernel_rfl) (by show 2 ≤ 13; decide)
    (show runF (ctx_rational_Frac k) code_rational_Frac [.cell 4 26] none (Cods.enc (.cons (cInt .i64) (.cons (cInt .i64) .nil)) x) (oOne cRat).dec = rational_Frac k x.1 x.2.1 by kernel_rfl) h
def e_rational_Frac (k : Nat) : Nat × Ent := (111, ent (.cons (cInt .i64) (.cons (cInt .i64) .nil)) (oOne cRat) fun x => rational_Frac k x.1 x.2.1)
theorem e_rational_Frac_ok (k : Nat) : EntOk Try.prog (e_rational_Frac k).1 (e_rational_Frac k).2 ∧ entered Try.prog (e_rational_Frac k).1 := ⟨ent_ok (rational_Frac_ok k), Try.f111, Try.func111, by kernel_rfl, by kernel_rfl⟩
noncomputable def code_cmp_isNaN : Code := (Try.f147.body).getD .skip
theorem body_cmp_isNaN : Try.f147.body = some code_cmp_isNaN := by kernel_rfl
def ctx_cmp_isNaN (k : Nat) : Ctx := mkC 6 tyTab [] [] [] true 133 false
theorem ctx_cmp_isNaN_ok (k : Nat) : CtxOk Try.prog (ctx_cmp_isNaN k) := mkC_ok tyTab_ok (fun _ h => absurd h List.not_mem_nil) (fun _ h => absurd h List.not_mem_nil) (fun _ h => absurd h List.not_mem_nil)
theorem cmp_isNaN_ok (k : Nat) (x : TL [Int]) (t : Bool) (h : cmp_isNaN k x.1 = some t) : CallOk Try.prog 147 (Cods.enc (.cons (cInt .i64) .nil) x) ((oOne cB).enc t) :=
  fun_ok (ctx_cmp_isNaN_ok k) mixed rfl Try.func147 body_cmp_isNaN Try.ntmps147 (rs := [.tmp 2]) (by kernel_rfl) (by show 1 ≤ 6; decide)
    (show runF (ctx_cmp_isNaN k) code_cmp_isNaN [.tmp 2] none (Cods.enc (.cons (cInt .i64) .nil) x) (oOne cB).dec = cmp_isNaN k x.1 by kernel_rfl) h
def e_cmp_isNaN (k : Nat) : Nat × Ent := (147, ent (.cons (cInt .i64) .nil) (oOne cB) fun x => cmp_isNaN k x.1)
theorem e_cmp_isNaN_ok (k : Nat) : EntOk Try.prog (e_cmp_isNaN k).1 (e_cmp_isNaN k).2 ∧ entered Try.prog (e_cmp_isNaN k).1 := ⟨ent_ok (cmp_isNaN_ok k), Try.f147, Try.func147, by kernel_rfl, by kernel_rfl⟩
noncomputable def code_cmp_Compare : Code := (Try.f139.body).getD .skip
theorem body_cmp_Compare : Try.f139.body = some code_cmp_Compare := by kernel_rfl
def ctx_cmp_Compare (k : Nat) : Ctx := mkC 20 tyTab [e_cmp_isNaN k] [] [] true 133 false
theorem ctx_cmp_Compare_ok (k : Nat) : CtxOk Try.prog (ctx_cmp_Compare k) := mkC_ok tyTab_ok (List.forall_mem_cons.2 ⟨e_cmp_isNaN_ok k, fun _ h => absurd h List.not_mem_nil⟩) (fun _ h => absurd h List.not_mem_nil) (fun _ h => absurd h List.not_mem_nil)
theorem cmp_Compare_ok (k : Nat) (x : TL [Int, Int]) (t : Int) (h : cmp_Compare k x.1 x.2.1 = some t) : CallOk Try.prog 139 (Cods.enc (.cons (cInt .i64) (.cons (cInt .i64) .nil)) x) ((oOne (cInt .i64)).enc t) :=
  fun_ok (ctx_cmp_Compare_ok k) mixed rfl Try.func139 body_cmp_Compare Try.ntmps139 (rs := [.tmp 4]) (by kernel_rfl) (by show 2 ≤ 20; decide)
    (show runF (ctx_cmp_Compare k) code_cmp_Compare [.tmp 4] none (Cods.enc (.cons (cInt .i64) (.cons (cInt .i64) .nil)) x) (oOne (cInt .i64)).dec = cmp_Compare k x.1 x.2.1 by kernel_rfl) h
def e_cmp_Compare (k : Nat) : Nat × Ent := (139, ent (.cons (cInt .i64) (.cons (cInt .i64) .nil)) (oOne (cInt .i64)) fun x => cmp_Compare k x.1 x.2.1)
theorem e_cmp_Compare_ok (k : Nat) : EntOk Try.prog (e_cmp_Compare k).1 (e_cmp_Compare k).2 ∧ entered Try.prog (e_cmp_Compare k).1 := ⟨ent_ok (cmp_Compare_ok k), Try.f139, Try.func139, by kernel_rfl, by kernel_rfl⟩
noncomputable def code_rational_Cmp : Code := (Try.f112.body).getD .skip
theorem body_rational_Cmp : Try.f112.body = some code_rational_Cmp := by kernel_rfl
def ctx_rational_Cmp (k : Nat) : Ctx := mkC 25 tyTab [e_rational_Sign k, e_integer_Mul k, e_integer_Cmp k, e_cmp_Compare k] [] [] true 133 false
theorem ctx_rational_Cmp_ok (k : Nat) : CtxOk Try.prog (ctx_rational_Cmp k) := mkC_ok tyTab_ok (List.forall_mem_cons.2 ⟨e_rational_Sign_ok k, List.forall_mem_cons.2 ⟨e_integer_Mul_ok k, List.forall_mem_cons.2 ⟨e_integer_Cmp_ok k, List.forall_mem_cons.2 ⟨e_cmp_Compare_ok k, fun _ h => absurd h List.not_mem_nil⟩⟩⟩⟩) (fun _ h => absurd h List.not_mem_nil) (fun _ h => absurd h List.not_mem_nil)
theorem rational_Cmp_ok (k : Nat) (x : TL [RatD, RatD]) (t : Int) (h : rational_Cmp k x.1 x.2.1 = some t) : CallOk Try.prog 112 (Cods.enc (.cons cRat (.cons cRat .nil)) x) ((oOne (cInt .i64)).enc t) :=
  fun_ok (ctx_rational_Cmp_ok k) mixed rfl Try.func112 body_rational_Cmp Try.ntmps112 (rs := [.tmp 4]) (by kernel_rfl) (by show 2 ≤ 25; decide)
    (show runF (ctx_rational_Cmp k) code_rational_Cmp [.tmp 4] none (Cods.enc (.cons cRat (.cons cRat .nil)) x) (oOne (cInt .i64)).dec = rational_Cmp k x.1 x.2.1 by kernel_rfl) h
def e_rational_Cmp (k : Nat) : Nat × Ent := (112, ent (.cons cRat (.cons cRat .nil)) (oOne (cInt .i64)) fun x => rational_Cmp k x.1 x.2.1)
theorem e_rational_Cmp_ok (k : Nat) : EntOk Try.prog (e_rational_Cmp k).1 (e_rational_Cmp k).2 ∧ entered Try.prog (e_rational_Cmp k).1 := ⟨ent_ok (rational_Cmp_ok k), Try.f112, Try.func112, by kernel_rfl, by kernel_rfl⟩
noncomputable def code_root_common : Code := (Try.f67.body).getD .skip
theorem body_root_common : Try.f67.body = some code_root_common := by kernel_rfl
def ctx_root_common (k : Nat) : Ctx := mkC 26 tyTab [e_rational_Sign k, e_rational_Cmp k] [] [] true 133 false
theorem ctx_root_common_ok (k : Nat) : CtxOk Try.prog (ctx_root_common k) := mkC_ok tyTab_ok (List.forall_mem_cons.2 ⟨e_rational_Sign_ok k, List.forall_mem_cons.2 ⟨e_rational_Cmp_ok k, fun _ h => absurd h List.not_mem_nil⟩⟩) (fun _ h => absurd h List.not_mem_nil) (fun _ h => absurd h List.not_mem_nil)
theorem root_common_ok (k : Nat) (x : TL [RootD, RootD]) (t : RatD × Bool) (h : root_common k x.1 x.2.1 = some t) : CallOk Try.prog 67 (Cods.enc (.cons cRoot (.cons cRoot .nil)) x) ((o2 cRat cB).enc t) :=
  fun_ok (ctx_root_common_ok k) mixed rfl Try.func67 body_root_common Try.ntmps67 (rs := [.cell 4 26, .tmp 5]) (by kernel_rfl) (by show 2 ≤ 26; decide)
    (show runF (ctx_root_common k) code_root_common [.cell 4 26, .tmp 5] none (Cods.enc (.cons cRoot (.cons cRoot .nil)) x) (o2 cRat cB).dec = root_common k x.1 x.2.1 by kernel_rfl) h
def e_root_common (k : Nat) : Nat × Ent := (67, ent (.cons cRoot (.cons cRoot .nil)) (o2 cRat cB) fun x => root_common k x.1 x.2.1)
theorem e_root_common_ok (k : Nat) : EntOk Try.prog (e_root_common k).1 (e_root_common k).2 ∧ entered Try.prog (e_root_common k).1 := ⟨ent_ok (root_common_ok k), Try.f67, Try.func67, by kernel_rfl, by kernel_rfl⟩
noncomputable def code_root_Add : Code := (Try.f28.body).getD .skip
theorem body_root_Add : Try.f28.body = some code_root_Add := by kernel_rfl
def ctx_root_Add (k : Nat) : Ctx := mkC 29 tyTab [e_rational_Add k, e_root_reduced k, e_root_common k] [] [] true 133 false
theorem ctx_root_Add_ok (k : Nat) : CtxOk Try.prog (ctx_root_Add k) := mkC_ok tyTab_ok (List.forall_mem_cons.2 ⟨e_rational_Add_ok k, List.forall_mem_cons.2 ⟨e_root_reduced_ok k, List.forall_mem_cons.2 ⟨e_root_common_ok k, fun _ h => absurd h List.not_mem_nil⟩⟩⟩) (fun _ h => absurd h List.not_mem_nil) (fun _ h => absurd h List.not_mem_nil)
theorem root_Add_ok (k : Nat) (x : TL [RootD, RootD]) (t : RootD × Int) (h : root_Add k x.1 x.2.1 = some t) : CallOk Try.prog 28 (Cods.enc (.cons cRoot (.cons cRoot .nil)) x) ((o2 cRoot (cInt .i64)).enc t) :=
  fun_ok (ctx_root_Add_ok k) mixed rfl Try.func28 body_root_Add Try.ntmps28 (rs := [.cell 4 30, .tmp 5]) (by kernel_rfl) (by show 2 ≤ 29; decide)
    (show runF (ctx_root_Add k) code_root_Add [.cell 4 30, .tmp 5] none (Cods.enc (.cons cRoot (.cons cRoot .nil)) x) (o2 cRoot (cInt .i64)).dec = root_Add k x.1 x.2.1 by kernel_rfl) h
def e_root_Add (k : Nat) : Nat × Ent := (28, ent (.cons cRoot (.cons cRoot .nil)) (o2 cRoot (cInt .i64)) fun x => root_Add k x.1 x.2.1)
theorem e_root_Add_ok (k : Nat) : EntOk Try.prog (e_root_Add k).1 (e_root_Add k).2 ∧ entered Try.prog (e_root_Add k).1 := ⟨ent_ok (root_Add_ok k), Try.f28, Try.func28, by kernel_rfl, by kernel_rfl⟩
noncomputable def code_lookahead_allowed : Code := (Try.f110.body).getD .skip
theorem body_lookahead_allowed : Try.f110.body = some code_lookahead_allowed := by kernel_rfl
def ctx_lookahead_allowed (k : Nat) : Ctx := mkC 93 tyTab [e_root_Make k, e_root_FromRat k, e_root_Add k, e_root_Sign k, e_rational_Add k, e_rational_Mul k, e_rational_Div k, e_rational_FromInt64 k, e_root_Scale k, e_rational_Neg k, e_rational_Frac k] [] [] true 133 false
theorem ctx_lookahead_allowed_ok (k : Nat) : CtxOk Try.prog (ctx_lookahead_allowed k) := mkC_ok tyTab_ok (List.forall_mem_cons.2 ⟨e_root_Make_ok k, List.forall_mem_cons.2 ⟨e_root_FromRat_ok k, List.forall_mem_cons.2 ⟨e_root_Add_ok k, List.forall_mem_cons.2 ⟨e_root_Sign_ok k, List.forall_mem_cons.2 ⟨e_rational_Add_ok k, List.forall_mem_cons.2 ⟨e_rational_Mul_ok k, List.forall_mem_cons.2 ⟨e_rational_Div_ok k, List.forall_mem_cons.2 ⟨e_rational_FromInt64_ok k, List.forall_mem_cons.2 ⟨e_root_Scale_ok k, List.forall_mem_cons.2 ⟨e_rational_Neg_ok k, List.forall_mem_cons.2 ⟨e_rational_Frac_ok k, fun _ h => absurd h List.not_mem_nil⟩⟩⟩⟩⟩⟩⟩⟩⟩⟩⟩) (fun _ h => absurd h List.not_mem_nil) (fun _ h => absurd h List.not_mem_nil)
theorem lookahead_allowed_ok (k : Nat) (x : TL [Int, Int, Int, Int, Int, Int]) (t : Bool) (h : lookahead_allowed k x.1 x.2.1 x.2.2.1 x.2.2.2.1 x.2.2.2.2.1 x.2.2.2.2.2.1 = some t) : CallOk Try.prog 110 (Cods.enc (.cons (cInt .i64) (.cons (cInt .i64) (.cons (cInt .i64) (.cons (cInt .i64) (.cons (cInt .i64) (.cons (cInt .i64) .nil)))))) x) ((oOne cB).enc t) :=
  fun_ok (ctx_lookahead_allowed_ok k) mixed rfl Try.func110 body_lookahead_allowed Try.ntmps110 (rs := [.tmp 12]) (by kernel_rfl) (by show 6 ≤ 93; decide)
    (show runF (ctx_lookahead_allowed k) code_lookahead_allowed [.tmp 12] none (Cods.enc (.cons (cInt .i64) (.cons (cInt .i64) (.cons (cInt .i64) (.cons (cInt .i64) (.cons (cInt .i64) (.cons (cInt .i64) .nil)))))) x) (oOne cB).dec = lookahead_allowed k x.1 x.2.1 x.2.2.1 x.2.2.2.1 x.2.2.2.2.1 x.2.2.2.2.2.1 by kernel_rfl) h
def e_lookahead_allowed (k : Nat) : Nat × Ent := (110, ent (.cons (cInt .i64) (.cons (cInt .i64) (.cons (cInt .i64) (.cons (cInt .i64) (.cons (cInt .i64) (.cons (cInt .i64) .nil)))))) (oOne cB) fun x => lookahead_allowed k x.1 x.2.1 x.2.2.1 x.2.2.2.1 x.2.2.2.2.1 x.2.2.2.2.2.1)
theorem e_lookahead_allowed_ok (k : Nat) : EntOk Try.prog (e_lookahead_allowed k).1 (e_lookahead_allowed k).2 ∧ entered Try.prog (e_lookahead_allowed k).1 := ⟨ent_ok (lookahead_allowed_ok k), Try.f110, Try.func110, by kernel_rfl, by kernel_rfl⟩
noncomputable def code_lookahead_Corner_1 : Code := (Try.f109.body).getD .skip
theorem body_lookahead_Corner_1 : Try.f109.body = some code_lookahead_Corner_1 := by kernel_rfl
def ctx_lookahead_Corner_1 (k : Nat) : Ctx := mkC 45 tyTab [e_lookahead_allowed k] [] [] true 133 false
theorem ctx_lookahead_Corner_1_ok (k : Nat) : CtxOk Try.prog (ctx_lookahead_Corner_1 k) := mkC_ok tyTab_ok (List.forall_mem_cons.2 ⟨e_lookahead_allowed_ok k, fun _ h => absurd h List.not_mem_nil⟩) (fun _ h => absurd h List.not_mem_nil) (fun _ h => absurd h List.not_mem_nil)
theorem lookahead_Corner_1_ok (k : Nat) (x : TL [Int, PosD, PosD, Int, Int, Int]) (t : Bool) (h : lookahead_Corner_1 k x.1 x.2.1 x.2.2.1 x.2.2.2.1 x.2.2.2.2.1 x.2.2.2.2.2.1 = some t) : CallOk Try.prog 109 (Cods.enc (.cons (cInt .i64) (.cons (cPl (pSt PosD.lv dPos fun _ _ => dPos_weak)) (.cons (cPl (pSt PosD.lv dPos fun _ _ => dPos_weak)) (.cons (cPl (pI .i64)) (.cons (cPl (pI .i64)) (.cons (cPl (pI .i64)) .nil)))))) x) ((oOne cB).enc t) :=
  fun_ok (ctx_lookahead_Corner_1_ok k) mixed rfl Try.func109 body_lookahead_Corner_1 Try.ntmps109 (rs := [.tmp 7]) (by kernel_rfl) (by show 6 ≤ 45; decide)
    (show runF (ctx_lookahead_Corner_1 k) code_lookahead_Corner_1 [.tmp 7] none (Cods.enc (.cons (cInt .i64) (.cons (cPl (pSt PosD.lv dPos fun _ _ => dPos_weak)) (.cons (cPl (pSt PosD.lv dPos fun _ _ => dPos_weak)) (.cons (cPl (pI .i64)) (.cons (cPl (pI .i64)) (.cons (cPl (pI .i64)) .nil)))))) x) (oOne cB).dec = lookahead_Corner_1 k x.1 x.2.1 x.2.2.1 x.2.2.2.1 x.2.2.2.2.1 x.2.2.2.2.2.1 by kernel_rfl) h
def e_lookahead_Corner_1 (k : Nat) : Nat × Ent := (109, ent (.cons (cInt .i64) (.cons (cPl (pSt PosD.lv dPos fun _ _ => dPos_weak)) (.cons (cPl (pSt PosD.lv dPos fun _ _ => dPos_weak)) (.cons (cPl (pI .i64)) (.cons (cPl (pI .i64)) (.cons (cPl (pI .i64)) .nil)))))) (oOne cB) fun x => lookahead_Corner_1 k x.1 x.2.1 x.2.2.1 x.2.2.2.1 x.2.2.2.2.1 x.2.2.2.2.2.1)
theorem e_lookahead_Corner_1_ok (k : Nat) : EntOk Try.prog (e_lookahead_Corner_1 k).1 (e_lookahead_Corner_1 k).2 ∧ entered Try.prog (e_lookahead_Corner_1 k).1 := ⟨ent_ok (lookahead_Corner_1_ok k), Try.f109, Try.func109, by kernel_rfl, by kernel_rfl⟩
noncomputable def code_sort_Search_lookahead_Corner_1 : Code := (Try.f108.body).getD .skip
theorem body_sort_Search_lookahead_Corner_1 : Try.f108.body = some code_sort_Search_lookahead_Corner_1 := by kernel_rfl
def ctx_sort_Search_lookahead_Corner_1 (k : Nat) : Ctx := mkC 26 tyTab [e_lookahead_Corner_1 k] [] [(0, .norm k [slV 1 (cClo 109 (.cons (pSt PosD.lv dPos fun _ _ => dPos_weak) (.cons (pSt PosD.lv dPos fun _ _ => dPos_weak) (.cons (pI .i64) (.cons (pI .i64) (.cons (pI .i64) .nil)))))), slV 5 (cInt .i64), slV 6 (cInt .i64)] [(.exit 0, [slV 5 (cInt .i64)])])] true 133 false
theorem ctx_sort_Search_lookahead_Corner_1_ok (k : Nat) : CtxOk Try.prog (ctx_sort_Search_lookahead_Corner_1 k) := mkC_ok tyTab_ok (List.forall_mem_cons.2 ⟨e_lookahead_Corner_1_ok k, fun _ h => absurd h List.not_mem_nil⟩) (fun _ h => absurd h List.not_mem_nil) (List.forall_mem_cons.2 ⟨⟨⟨List.forall_mem_cons.2 ⟨slV_ok 1 (cClo 109 (.cons (pSt PosD.lv dPos fun _ _ => dPos_weak) (.cons (pSt PosD.lv dPos fun _ _ => dPos_weak) (.cons (pI .i64) (.cons (pI .i64) (.cons (pI .i64) .nil)))))), List.forall_mem_cons.2 ⟨slV_ok 5 (cInt .i64), List.forall_mem_cons.2 ⟨slV_ok 6 (cInt .i64), fun _ h => absurd h List.not_mem_nil⟩⟩⟩, by decide⟩, List.forall_mem_cons.2 ⟨⟨List.forall_mem_cons.2 ⟨slV_ok 5 (cInt .i64), fun _ h => absurd h List.not_mem_nil⟩, by decide⟩, fun _ h => absurd h List.not_mem_nil⟩⟩, fun _ h => absurd h List.not_mem_nil⟩)
theorem sort_Search_lookahead_Corner_1_ok (k : Nat) (x : TL [Int, (PosD × PosD × Int × Int × Int × Unit)]) (t : Int) (h : sort_Search_lookahead_Corner_1 k x.1 x.2.1 = some t) : CallOk Try.prog 108 (Cods.enc (.cons (cInt .i64) (.cons (cClo 109 (.cons (pSt PosD.lv dPos fun _ _ => dPos_weak) (.cons (pSt PosD.lv dPos fun _ _ => dPos_weak) (.cons (pI .i64) (.cons (pI .i64) (.cons (pI .i64) .nil)))))) .nil)) x) ((oOne (cInt .i64)).enc t) :=
  fun_ok (ctx_sort_Search_lookahead_Corner_1_ok k) mixed rfl Try.func108 body_sort_Search_lookahead_Corner_1 Try.ntmps108 (rs := [.tmp 4]) (by kernel_rfl) (by show 2 ≤ 26; decide)
    (show runF (ctx_sort_Search_lookahead_Corner_1 k) code_sort_Search_lookahead_Corner_1 [.tmp 4] none (Cods.enc (.cons (cInt .i64) (.cons (cClo 109 (.cons (pSt PosD.lv dPos fun _ _ => dPos_weak) (.cons (pSt PosD.lv dPos fun _ _ => dPos_weak) (.cons (pI .i64) (.cons (pI .i64) (.cons (pI .i64) .nil)))))) .nil)) x) (oOne (cInt .i64)).dec = sort_Search_lookahead_Corner_1 k x.1 x.2.1 by kernel_rfl) h
def e_sort_Search_lookahead_Corner_1 (k : Nat) : Nat × Ent := (108, ent (.cons (cInt .i64) (.cons (cClo 109 (.cons (pSt PosD.lv dPos fun _ _ => dPos_weak) (.cons (pSt PosD.lv dPos fun _ _ => dPos_weak) (.cons (pI .i64) (.cons (pI .i64) (.cons (pI .i64) .nil)))))) .nil)) (oOne (cInt .i64)) fun x => sort_Search_lookahead_Corner_1 k x.1 x.2.1)
theorem e_sort_Search_lookahead_Corner_1_ok (k : Nat) : EntOk Try.prog (e_sort_Search_lookahead_Corner_1 k).1 (e_sort_Search_lookahead_Corner_1 k).2 ∧ entered Try.prog (e_sort_Search_lookahead_Corner_1 k).1 := ⟨ent_ok (sort_Search_lookahead_Corner_1_ok k), Try.f108, Try.func108, by kernel_rfl, by kernel_rfl⟩
noncomputable def code_lookahead_Corner : Code := (Try.f62.body).getD .skip
theorem body_lookahead_Corner : Try.f62.body = some code_lookahead_Corner := by kernel_rfl
def ctx_lookahead_Corner (k : Nat) : Ctx := mkC 35 tyTab [e_lookahead_within k, e_lookahead_far k, e_lookahead_square k, e_sort_Search_lookahead_Corner_1 k] [] [] true 133 false
theorem ctx_lookahead_Corner_ok (k : Nat) : CtxOk Try.prog (ctx_lookahead_Corner k) := mkC_ok tyTab_ok (List.forall_mem_cons.2 ⟨e_lookahead_within_ok k, List.forall_mem_cons.2 ⟨e_lookahead_far_ok k, List.forall_mem_cons.2 ⟨e_lookahead_square_ok k, List.forall_mem_cons.2 ⟨e_sort_Search_lookahead_Corner_1_ok k, fun _ h => absurd h List.not_mem_nil⟩⟩⟩⟩) (fun _ h => absurd h List.not_mem_nil) (fun _ h => absurd h List.not_mem_nil)
theorem lookahead_Corner_ok (k : Nat) (x : TL [PosD, PosD, Int]) (t : Int × Int) (h : lookahead_Corner k x.1 x.2.1 x.2.2.1 = some t) : CallOk Try.prog 62 (Cods.enc (.cons cPos (.cons cPos (.cons (cInt .i64) .nil))) x) ((o2 (cInt .i64) (cInt .i64)).enc t) :=
  fun_ok (ctx_lookahead_Corner_ok k) mixed rfl Try.func62 body_lookahead_Corner Try.ntmps62 (rs := [.tmp 6, .tmp 7]) (by kernel_rfl) (by show 3 ≤ 35; decide)
    (show runF (ctx_lookahead_Corner k) code_lookahead_Corner [.tmp 6, .tmp 7] none (Cods.enc (.cons cPos (.cons cPos (.cons (cInt .i64) .nil))) x) (o2 (cInt .i64) (cInt .i64)).dec = lookahead_Corner k x.1 x.2.1 x.2.2.1 by kernel_rfl) h
def e_lookahead_Corner (k : Nat) : Nat × Ent := (62, ent (.cons cPos (.cons cPos (.cons (cInt .i64) .nil))) (o2 (cInt .i64) (cInt .i64)) fun x => lookahead_Corner k x.1 x.2.1 x.2.2.1)
theorem e_lookahead_Corner_ok (k : Nat) : EntOk Try.prog (e_lookahead_Corner k).1 (e_lookahead_Corner k).2 ∧ entered Try.prog (e_lookahead_Corner k).1 := ⟨ent_ok (lookahead_Corner_ok k), Try.f62, Try.func62, by kernel_rfl, by kernel_rfl⟩
noncomputable def code_lookahead_Reach : Code := (Try.f63.body).getD .skip
theorem body_lookahead_Reach : Try.f63.body = some code_lookahead_Reach := by kernel_rfl
def ctx_lookahead_Reach (k : Nat) : Ctx := mkC 54 tyTab [e_rational_Add k, e_rational_Mul k, e_lookahead_within k, e_rational_FromInt64 k, e_rational_Frac k, e_rational_Cmp k, e_rational_Sub k] [] [] true 133 false
theorem ctx_lookahead_Reach_ok (k : Nat) : CtxOk Try.prog (ctx_lookahead_Reach k) := mkC_ok tyTab_ok (List.forall_mem_cons.2 ⟨e_rational_Add_ok k, List.forall_mem_cons.2 ⟨e_rational_Mul_ok k, List.forall_mem_cons.2 ⟨e_lookahead_within_ok k, List.forall_mem_cons.2 ⟨e_rational_FromInt64_ok k, List.forall_mem_cons.2 ⟨e_rational_Frac_ok k, List.forall_mem_cons.2 ⟨e_rational_Cmp_ok k, List.forall_mem_cons.2 ⟨e_rational_Sub_ok k, fun _ h => absurd h List.not_mem_nil⟩⟩⟩⟩⟩⟩⟩) (fun _ h => absurd h List.not_mem_nil) (fun _ h => absurd h List.not_mem_nil)
theorem lookahead_Reach_ok (k : Nat) (x : TL [Int, Int, Int]) (t : RatD × Int) (h : lookahead_Reach k x.1 x.2.1 x.2.2.1 = some t) : CallOk Try.prog 63 (Cods.enc (.cons (cInt .i64) (.cons (cInt .i64) (.cons (cInt .i64) .nil))) x) ((o2 cRat (cInt .i64)).enc t) :=
  fun_ok (ctx_lookahead_Reach_ok k) mixed rfl Try.func63 body_lookahead_Reach Try.ntmps63 (rs := [.cell 6 26, .tmp 7]) (by kernel_rfl) (by show 3 ≤ 54; decide)
    (show runF (ctx_lookahead_Reach k) code_lookahead_Reach [.cell 6 26, .tmp 7] none (Cods.enc (.cons (cInt .i64) (.cons (cInt .i64) (.cons (cInt .i64) .nil))) x) (o2 cRat (cInt .i64)).dec = lookahead_Reach k x.1 x.2.1 x.2.2.1 by kernel_rfl) h
def e_lookahead_Reach (k : Nat) : Nat × Ent := (63, ent (.cons (cInt .i64) (.cons (cInt .i64) (.cons (cInt .i64) .nil))) (o2 cRat (cInt .i64)) fun x => lookahead_Reach k x.1 x.2.1 x.2.2.1)
theorem e_lookahead_Reach_ok (k : Nat) : EntOk Try.prog (e_lookahead_Reach k).1 (e_lookahead_Reach k).2 ∧ entered Try.prog (e_lookahead_Reach k).1 := ⟨ent_ok (lookahead_Reach_ok k), Try.f63, Try.func63, by kernel_rfl, by kernel_rfl⟩
noncomputable def code_lookahead_Straight_1 : Code := (Try.f114.body).getD .skip
theorem body_lookahead_Straight_1 : Try.f114.body = some code_lookahead_Straight_1 := by kernel_rfl
def ctx_lookahead_Straight_1 (k : Nat) : Ctx := mkC 23 tyTab [e_lookahead_Reach k, e_rational_Cmp k] [] [] true 133 false
theorem ctx_lookahead_Straight_1_ok (k : Nat) : CtxOk Try.prog (ctx_lookahead_Straight_1 k) := mkC_ok tyTab_ok (List.forall_mem_cons.2 ⟨e_lookahead_Reach_ok k, List.forall_mem_cons.2 ⟨e_rational_Cmp_ok k, fun _ h => absurd h List.not_mem_nil⟩⟩) (fun _ h => absurd h List.not_mem_nil) (fun _ h => absurd h List.not_mem_nil)
theorem lookahead_Straight_1_ok (k : Nat) (x : TL [Int, Int, Int, RatD]) (t : Bool) (h : lookahead_Straight_1 k x.1 x.2.1 x.2.2.1 x.2.2.2.1 = some t) : CallOk Try.prog 114 (Cods.enc (.cons (cInt .i64) (.cons (cPl (pI .i64)) (.cons (cPl (pI .i64)) (.cons (cPl (pSt RatD.lv dRat fun _ _ => dRat_weak)) .nil)))) x) ((oOne cB).enc t) :=
  fun_ok (ctx_lookahead_Straight_1_ok k) mixed rfl Try.func114 body_lookahead_Straight_1 Try.ntmps114 (rs := [.tmp 5]) (by kernel_rfl) (by show 4 ≤ 23; decide)
    (show runF (ctx_lookahead_Straight_1 k) code_lookahead_Straight_1 [.tmp 5] none (Cods.enc (.cons (cInt .i64) (.cons (cPl (pI .i64)) (.cons (cPl (pI .i64)) (.cons (cPl (pSt RatD.lv dRat fun _ _ => dRat_weak)) .nil)))) x) (oOne cB).dec = lookahead_Straight_1 k x.1 x.2.1 x.2.2.1 x.2.2.2.1 by kernel_rfl) h
def e_lookahead_Straight_1 (k : Nat) : Nat × Ent := (114, ent (.cons (cInt .i64) (.cons (cPl (pI .i64)) (.cons (cPl (pI .i64)) (.cons (cPl (pSt RatD.lv dRat fun _ _ => dRat_weak)) .nil)))) (oOne cB) fun x => lookahead_Straight_1 k x.1 x.2.1 x.2.2.1 x.2.2.2.1)
theorem e_lookahead_Straight_1_ok (k : Nat) : EntOk Try.prog (e_lookahead_Straight_1 k).1 (e_lookahead_Straight_1 k).2 ∧ entered Try.prog (e_lookahead_Straight_1 k).1 := ⟨ent_ok (lookahead_Straight_1_ok k), Try.f114, Try.func114, by kernel_rfl, by kernel_rfl⟩
noncomputable def code_sort_Search_lookahead_Straight_1 : Code := (Try.f108.body).getD .skip
theorem body_sort_Search_lookahead_Straight_1 : Try.f108.body = some code_sort_Search_lookahead_Straight_1 := by kernel_rfl
def ctx_sort_Search_lookahead_Straight_1 (k : Nat) : Ctx := mkC 26 tyTab [e_lookahead_Straight_1 k] [] [(0, .norm k [slV 1 (cClo 114 (.cons (pI .i64) (.cons (pI .i64) (.cons (pSt RatD.lv dRat fun _ _ => dRat_weak) .nil)))), slV 5 (cInt .i64), slV 6 (cInt .i64)] [(.exit 0, [slV 5 (cInt .i64)])])] true 133 false
theorem ctx_sort_Search_lookahead_Straight_1_ok (k : Nat) : CtxOk Try.prog (ctx_sort_Search_lookahead_Straight_1 k) := mkC_ok tyTab_ok (List.forall_mem_cons.2 ⟨e_lookahead_Straight_1_ok k, fun _ h => absurd h List.not_mem_nil⟩) (fun _ h => absurd h List.not_mem_nil) (List.forall_mem_cons.2 ⟨⟨⟨List.forall_mem_cons.2 ⟨slV_ok 1 (cClo 114 (.cons (pI .i64) (.cons (pI .i64) (.cons (pSt RatD.lv dRat fun _ _ => dRat_weak) .nil)))), List.forall_mem_cons.2 ⟨slV_ok 5 (cInt .i64), List.forall_mem_cons.2 ⟨slV_ok 6 (cInt .i64), fun _ h => absurd h List.not_mem_nil⟩⟩⟩, by decide⟩, List.forall_mem_cons.2 ⟨⟨List.forall_mem_cons.2 ⟨slV_ok 5 (cInt .i64), fun _ h => absurd h List.not_mem_nil⟩, by decide⟩, fun _ h => absurd h List.not_mem_nil⟩⟩, fun _ h => absurd h List.not_mem_nil⟩)
theorem sort_Search_lookahead_Straight_1_ok (k : Nat) (x : TL [Int, (Int × Int × RatD × Unit)]) (t : Int) (h : sort_Search_lookahead_Straight_1 k x.1 x.2.1 = some t) : CallOk Try.prog 108 (Cods.enc (.cons (cInt .i64) (.cons (cClo 114 (.cons (pI .i64) (.cons (pI .i64) (.cons (pSt RatD.lv dRat fun _ _ => dRat_weak) .nil)))) .nil)) x) ((oOne (cInt .i64)).enc t) :=
  fun_ok (ctx_sort_Search_lookahead_Straight_1_ok k) mixed rfl Try.func108 body_sort_Search_lookahead_Straight_1 Try.ntmps108 (rs := [.tmp 4]) (by kernel_rfl) (by show 2 ≤ 26; decide)
    (show runF (ctx_sort_Search_lookahead_Straight_1 k) code_sort_Search_lookahead_Straight_1 [.tmp 4] none (Cods.enc (.cons (cInt .i64) (.cons (cClo 114 (.cons (pI .i64) (.cons (pI .i64) (.cons (pSt RatD.lv dRat fun _ _ => dRat_weak) .nil)))) .nil)) x) (oOne (cInt .i64)).dec = sort_Search_lookahead_Straight_1 k x.1 x.2.1 by kernel_rfl) h
def e_sort_Search_lookahead_Straight_1 (k : Nat) : Nat × Ent := (108, ent (.cons (cInt .i64) (.cons (cClo 114 (.cons (pI .i64) (.cons (pI .i64) (.cons (pSt RatD.lv dRat fun _ _ => dRat_weak) .nil)))) .nil)) (oOne (cInt .i64)) fun x => sort_Search_lookahead_Straight_1 k x.1 x.2.1)
theorem e_sort_Search_lookahead_Straight_1_ok (k : Nat) : EntOk Try.prog (e_sort_Search_lookahead_Straight_1 k).1 (e_sort_Search_lookahead_Straight_1 k).2 ∧ entered Try.prog (e_sort_Search_lookahead_Straight_1 k).1 := ⟨ent_ok (sort_Search_lookahead_Straight_1_ok k), Try.f108, Try.func108, by kernel_rfl, by kernel_rfl⟩
noncomputable def code_lookahead_Straight : Code := (Try.f64.body).getD .skip
theorem body_lookahead_Straight : Try.f64.body = some code_lookahead_Straight := by kernel_rfl
def ctx_lookahead_Straight (k : Nat) : Ctx := mkC 28 tyTab [e_lookahead_within k, e_rational_FromInt64 k, e_sort_Search_lookahead_Straight_1 k] [] [] true 133 false
theorem ctx_lookahead_Straight_ok (k : Nat) : CtxOk Try.prog (ctx_lookahead_Straight k) := mkC_ok tyTab_ok (List.forall_mem_cons.2 ⟨e_lookahead_within_ok k, List.forall_mem_cons.2 ⟨e_rational_FromInt64_ok k, List.forall_mem_cons.2 ⟨e_sort_Search_lookahead_Straight_1_ok k, fun _ h => absurd h List.not_mem_nil⟩⟩⟩) (fun _ h => absurd h List.not_mem_nil) (fun _ h => absurd h List.not_mem_nil)
theorem lookahead_Straight_ok (k : Nat) (x : TL [Int, Int, Int]) (t : Int × Int) (h : lookahead_Straight k x.1 x.2.1 x.2.2.1 = some t) : CallOk Try.prog 64 (Cods.enc (.cons (cInt .i64) (.cons (cInt .i64) (.cons (cInt .i64) .nil))) x) ((o2 (cInt .i64) (cInt .i64)).enc t) :=
  fun_ok (ctx_lookahead_Straight_ok k) mixed rfl Try.func64 body_lookahead_Straight Try.ntmps64 (rs := [.tmp 6, .tmp 7]) (by kernel_rfl) (by show 3 ≤ 28; decide)
    (show runF (ctx_lookahead_Straight k) code_lookahead_Straight [.tmp 6, .tmp 7] none (Cods.enc (.cons (cInt .i64) (.cons (cInt .i64) (.cons (cInt .i64) .nil))) x) (o2 (cInt .i64) (cInt .i64)).dec = lookahead_Straight k x.1 x.2.1 x.2.2.1 by kernel_rfl) h
def e_lookahead_Straight (k : Nat) : Nat × Ent := (64, ent (.cons (cInt .i64) (.cons (cInt .i64) (.cons (cInt .i64) .nil))) (o2 (cInt .i64) (cInt .i64)) fun x => lookahead_Straight k x.1 x.2.1 x.2.2.1)
theorem e_lookahead_Straight_ok (k : Nat) : EntOk Try.prog (e_lookahead_Straight k).1 (e_lookahead_Straight k).2 ∧ entered Try.prog (e_lookahead_Straight k).1 := ⟨ent_ok (lookahead_Straight_ok k), Try.f64, Try.func64, by kernel_rfl, by kernel_rfl⟩
noncomputable def code_slices_Equal : Code := (Try.f34.body).getD .skip
theorem body_slices_Equal : Try.f34.body = some code_slices_Equal := by kernel_rfl
def ctx_slices_Equal (k : Nat) : Ctx := mkC 26 tyTab [] [] [(0, .norm k [slV 0 (cL (.i .i64)), slV 1 (cL (.i .i64)), slV 12 (cInt .i64), slV 13 (cInt .i64)] [(.exit 0, []), (.ret, [slV 4 cB])])] true 133 false
theorem ctx_slices_Equal_ok (k : Nat) : CtxOk Try.prog (ctx_slices_Equal k) := mkC_ok tyTab_ok (fun _ h => absurd h List.not_mem_nil) (fun _ h => absurd h List.not_mem_nil) (List.forall_mem_cons.2 ⟨⟨⟨List.forall_mem_cons.2 ⟨slV_ok 0 (cL (.i .i64)), List.forall_mem_cons.2 ⟨slV_ok 1 (cL (.i .i64)), List.forall_mem_cons.2 ⟨slV_ok 12 (cInt .i64), List.forall_mem_cons.2 ⟨slV_ok 13 (cInt .i64), fun _ h => absurd h List.not_mem_nil⟩⟩⟩⟩, by decide⟩, List.forall_mem_cons.2 ⟨⟨fun _ h => absurd h List.not_mem_nil, by decide⟩, List.forall_mem_cons.2 ⟨⟨List.forall_mem_cons.2 ⟨slV_ok 4 cB, fun _ h => absurd h List.not_mem_nil⟩, by decide⟩, fun _ h => absurd h List.not_mem_nil⟩⟩⟩, fun _ h => absurd h List.not_mem_nil⟩)
theorem slices_Equal_ok (k : Nat) (x : TL [List Int, List Int]) (t : Bool) (h : slices_Equal k x.1 x.2.1 = some t) : CallOk Try.prog 34 (Cods.enc (.cons (cL (.i .i64)) (.cons (cL (.i .i64)) .nil)) x) ((oOne cB).enc t) :=
  fun_ok (ctx_slices_Equal_ok k) mixed rfl Try.func34 body_slices_Equal Try.ntmps34 (rs := [.tmp 4]) (by kernel_rfl) (by show 2 ≤ 26; decide)
    (show runF (ctx_slices_Equal k) code_slices_Equal [.tmp 4] none (Cods.enc (.cons (cL (.i .i64)) (.cons (cL (.i .i64)) .nil)) x) (oOne cB).dec = slices_Equal k x.1 x.2.1 by kernel_rfl) h
def e_slices_Equal (k : Nat) : Nat × Ent := (34, ent (.cons (cL (.i .i64)) (.cons (cL (.i .i64)) .nil)) (oOne cB) fun x => slices_Equal k x.1 x.2.1)
theorem e_slices_Equal_ok (k : Nat) : EntOk Try.prog (e_slices_Equal k).1 (e_slices_Equal k).2 ∧ entered Try.prog (e_slices_Equal k).1 := ⟨ent_ok (slices_Equal_ok k), Try.f34, Try.func34, by kernel_rfl, by kernel_rfl⟩
noncomputable def code_swarfref02_FromInt : Code := (Try.f115.body).getD .skip
theorem body_swarfref02_FromInt : Try.f115.body = some code_swarfref02_FromInt := by kernel_rfl
def ctx_swarfref02_FromInt (k : Nat) : Ctx := mkC 6 tyTab [e_swarfref02_unit k] [] [] true 133 false
theorem ctx_swarfref02_FromInt_ok (k : Nat) : CtxOk Try.prog (ctx_swarfref02_FromInt k) := mkC_ok tyTab_ok (List.forall_mem_cons.2 ⟨e_swarfref02_unit_ok k, fun _ h => absurd h List.not_mem_nil⟩) (fun _ h => absurd h List.not_mem_nil) (fun _ h => absurd h List.not_mem_nil)
theorem swarfref02_FromInt_ok (k : Nat) (x : TL [IntD]) (t : RatD) (h : swarfref02_FromInt k x.1 = some t) : CallOk Try.prog 115 (Cods.enc (.cons cIntD .nil) x) ((oOne cRat).enc t) :=
  fun_ok (ctx_swarfref02_FromInt_ok k) mixed rfl Try.func115 body_swarfref02_FromInt Try.ntmps115 (rs := [.cell 2 26]) (by kernel_rfl) (by show 1 ≤ 6; decide)
    (show runF (ctx_swarfref02_FromInt k) code_swarfref02_FromInt [.cell 2 26] none (Cods.enc (.cons cIntD .nil) x) (oOne cRat).dec = swarfref02_FromInt k x.1 by kernel_rfl) h
def e_swarfref02_FromInt (k : Nat) : Nat × Ent := (115, ent (.cons cIntD .nil) (oOne cRat) fun x => swarfref02_FromInt k x.1)
theorem e_swarfref02_FromInt_ok (k : Nat) : EntOk Try.prog (e_swarfref02_FromInt k).1 (e_swarfref02_FromInt k).2 ∧ entered Try.prog (e_swarfref02_FromInt k).1 := ⟨ent_ok (swarfref02_FromInt_ok k), Try.f115, Try.func115, by kernel_rfl, by kernel_rfl⟩
noncomputable def code_swarfref48_Whole : Code := (Try.f65.body).getD .skip
theorem body_swarfref48_Whole : Try.f65.body = some code_swarfref48_Whole := by kernel_rfl
def ctx_swarfref48_Whole (k : Nat) : Ctx := mkC 6 tyTab [e_swarfref01_FromInt64 k, e_swarfref02_FromInt k] [] [] true 133 false
theorem ctx_swarfref48_Whole_ok (k : Nat) : CtxOk Try.prog (ctx_swarfref48_Whole k) := mkC_ok tyTab_ok (List.forall_mem_cons.2 ⟨e_swarfref01_FromInt64_ok k, List.forall_mem_cons.2 ⟨e_swarfref02_FromInt_ok k, fun _ h => absurd h List.not_mem_nil⟩⟩) (fun _ h => absurd h List.not_mem_nil) (fun _ h => absurd h List.not_mem_nil)
theorem swarfref48_Whole_ok (k : Nat) (x : TL [Int]) (t : RatD) (h : swarfref48_Whole k x.1 = some t) : CallOk Try.prog 65 (Cods.enc (.cons (cInt .i64) .nil) x) ((oOne cRat).enc t) :=
  fun_ok (ctx_swarfref48_Whole_ok k) mixed rfl Try.func65 body_swarfref48_Whole Try.ntmps65 (rs := [.cell 2 26]) (by kernel_rfl) (by show 1 ≤ 6; decide)
    (show runF (ctx_swarfref48_Whole k) code_swarfref48_Whole [.cell 2 26] none (Cods.enc (.cons (cInt .i64) .nil) x) (oOne cRat).dec = swarfref48_Whole k x.1 by kernel_rfl) h
def e_swarfref48_Whole (k : Nat) : Nat × Ent := (65, ent (.cons (cInt .i64) .nil) (oOne cRat) fun x => swarfref48_Whole k x.1)
theorem e_swarfref48_Whole_ok (k : Nat) : EntOk Try.prog (e_swarfref48_Whole k).1 (e_swarfref48_Whole k).2 ∧ entered Try.prog (e_swarfref48_Whole k).1 := ⟨ent_ok (swarfref48_Whole_ok k), Try.f65, Try.func65, by kernel_rfl, by kernel_rfl⟩
noncomputable def code_swarflaw48_awake : Code := (Try.f23.body).getD .skip
theorem body_swarflaw48_awake : Try.f23.body = some code_swarflaw48_awake := by kernel_rfl
def ctx_swarflaw48_awake (k : Nat) : Ctx := mkC 76 tyTab [e_swarfref02_Same k, e_lookahead_Speeds k, e_slices_Equal k, e_lookahead_Faster k, e_lookahead_Corner k, e_lookahead_Reach k, e_lookahead_Straight k, e_swarfref48_Whole k] [] [] true 133 false
theorem ctx_swarflaw48_awake_ok (k : Nat) : CtxOk Try.prog (ctx_swarflaw48_awake k) := mkC_ok tyTab_ok (List.forall_mem_cons.2 ⟨e_swarfref02_Same_ok k, List.forall_mem_cons.2 ⟨e_lookahead_Speeds_ok k, List.forall_mem_cons.2 ⟨e_slices_Equal_ok k, List.forall_mem_cons.2 ⟨e_lookahead_Faster_ok k, List.forall_mem_cons.2 ⟨e_lookahead_Corner_ok k, List.forall_mem_cons.2 ⟨e_lookahead_Reach_ok k, List.forall_mem_cons.2 ⟨e_lookahead_Straight_ok k, List.forall_mem_cons.2 ⟨e_swarfref48_Whole_ok k, fun _ h => absurd h List.not_mem_nil⟩⟩⟩⟩⟩⟩⟩⟩) (fun _ h => absurd h List.not_mem_nil) (fun _ h => absurd h List.not_mem_nil)
theorem swarflaw48_awake_ok (k : Nat) (x : TL []) (t : Bool) (h : swarflaw48_awake k = some t) : CallOk Try.prog 23 (Cods.enc .nil x) ((oOne cB).enc t) :=
  fun_ok (ctx_swarflaw48_awake_ok k) mixed rfl Try.func23 body_swarflaw48_awake Try.ntmps23 (rs := [.tmp 0]) (by kernel_rfl) (by show 0 ≤ 76; decide)
    (show runF (ctx_swarflaw48_awake k) code_swarflaw48_awake [.tmp 0] none (Cods.enc .nil x) (oOne cB).dec = swarflaw48_awake k by kernel_rfl) h
def e_swarflaw48_awake (k : Nat) : Nat × Ent := (23, ent .nil (oOne cB) fun x => swarflaw48_awake k)
theorem e_swarflaw48_awake_ok (k : Nat) : EntOk Try.prog (e_swarflaw48_awake k).1 (e_swarflaw48_awake k).2 ∧ entered Try.prog (e_swarflaw48_awake k).1 := ⟨ent_ok (swarflaw48_awake_ok k), Try.f23, Try.func23, by kernel_rfl, by kernel_rfl⟩
noncomputable def code_swarflaw48_of : Code := (Try.f25.body).getD .skip
theorem body_swarflaw48_of : Try.f25.body = some code_swarflaw48_of := by kernel_rfl
def ctx_swarflaw48_of (k : Nat) : Ctx := mkC 18 tyTab [] [] [(0, .norm k [slA 3 .part 90, slV 6 (cL .part), slV 7 (cInt .i64), slV 8 (cInt .i64)] [(.exit 0, [slA 3 .part 90])])] true 133 false
theorem ctx_swarflaw48_of_ok (k : Nat) : CtxOk Try.prog (ctx_swarflaw48_of k) := mkC_ok tyTab_ok (fun _ h => absurd h List.not_mem_nil) (fun _ h => absurd h List.not_mem_nil) (List.forall_mem_cons.2 ⟨⟨⟨List.forall_mem_cons.2 ⟨slA_ok 3 .part 90, List.forall_mem_cons.2 ⟨slV_ok 6 (cL .part), List.forall_mem_cons.2 ⟨slV_ok 7 (cInt .i64), List.forall_mem_cons.2 ⟨slV_ok 8 (cInt .i64), fun _ h => absurd h List.not_mem_nil⟩⟩⟩⟩, by decide⟩, List.forall_mem_cons.2 ⟨⟨List.forall_mem_cons.2 ⟨slA_ok 3 .part 90, fun _ h => absurd h List.not_mem_nil⟩, by decide⟩, fun _ h => absurd h List.not_mem_nil⟩⟩, fun _ h => absurd h List.not_mem_nil⟩)
theorem swarflaw48_of_ok (k : Nat) (x : TL [List PartD]) (t : List PartD) (h : swarflaw48_of k x.1 = some t) : CallOk Try.prog 25 (Cods.enc (.cons (cL .part) .nil) x) ((oOne (cL .part)).enc t) :=
  fun_ok (ctx_swarflaw48_of_ok k) mixed rfl Try.func25 body_swarflaw48_of Try.ntmps25 (rs := [.tmp 2]) (by kernel_rfl) (by show 1 ≤ 18; decide)
    (show runF (ctx_swarflaw48_of k) code_swarflaw48_of [.tmp 2] none (Cods.enc (.cons (cL .part) .nil) x) (oOne (cL .part)).dec = swarflaw48_of k x.1 by kernel_rfl) h
def e_swarflaw48_of (k : Nat) : Nat × Ent := (25, ent (.cons (cL .part) .nil) (oOne (cL .part)) fun x => swarflaw48_of k x.1)
theorem e_swarflaw48_of_ok (k : Nat) : EntOk Try.prog (e_swarflaw48_of k).1 (e_swarflaw48_of k).2 ∧ entered Try.prog (e_swarflaw48_of k).1 := ⟨ent_ok (swarflaw48_of_ok k), Try.f25, Try.func25, by kernel_rfl, by kernel_rfl⟩
noncomputable def code_lookahead_Feasible : Code := (Try.f24.body).getD .skip
theorem body_lookahead_Feasible : Try.f24.body = some code_lookahead_Feasible := by kernel_rfl
def ctx_lookahead_Feasible (k : Nat) : Ctx := mkC 87 tyTab [e_lookahead_Valid k, e_lookahead_within k] [] [(0, .norm k [slV 1 (cInt .i64), slV 2 (cL (.i .i64)), slV 38 (cL .part), slV 39 (cInt .i64), slV 40 (cInt .i64)] [(.exit 0, []), (.ret, [slV 6 cB])])] true 133 false
theorem ctx_lookahead_Feasible_ok (k : Nat) : CtxOk Try.prog (ctx_lookahead_Feasible k) := mkC_ok tyTab_ok (List.forall_mem_cons.2 ⟨e_lookahead_Valid_ok k, List.forall_mem_cons.2 ⟨e_lookahead_within_ok k, fun _ h => absurd h List.not_mem_nil⟩⟩) (fun _ h => absurd h List.not_mem_nil) (List.forall_mem_cons.2 ⟨⟨⟨List.forall_mem_cons.2 ⟨slV_ok 1 (cInt .i64), List.forall_mem_cons.2 ⟨slV_ok 2 (cL (.i .i64)), List.forall_mem_cons.2 ⟨slV_ok 38 (cL .part), List.forall_mem_cons.2 ⟨slV_ok 39 (cInt .i64), List.forall_mem_cons.2 ⟨slV_ok 40 (cInt .i64), fun _ h => absurd h List.not_mem_nil⟩⟩⟩⟩⟩, by decide⟩, List.forall_mem_cons.2 ⟨⟨fun _ h => absurd h List.not_mem_nil, by decide⟩, List.forall_mem_cons.2 ⟨⟨List.forall_mem_cons.2 ⟨slV_ok 6 cB, fun _ h => absurd h List.not_mem_nil⟩, by decide⟩, fun _ h => absurd h List.not_mem_nil⟩⟩⟩, fun _ h => absurd h List.not_mem_nil⟩)
theorem lookahead_Feasible_ok (k : Nat) (x : TL [List PartD, Int, List Int]) (t : Bool) (h : lookahead_Feasible k x.1 x.2.1 x.2.2.1 = some t) : CallOk Try.prog 24 (Cods.enc (.cons (cL .part) (.cons (cInt .i64) (.cons (cL (.i .i64)) .nil))) x) ((oOne cB).enc t) :=
  fun_ok (ctx_lookahead_Feasible_ok k) mixed rfl Try.func24 body_lookahead_Feasible Try.ntmps24 (rs := [.tmp 6]) (by kernel_rfl) (by show 3 ≤ 87; decide)
    (show runF (ctx_lookahead_Feasible k) code_lookahead_Feasible [.tmp 6] none (Cods.enc (.cons (cL .part) (.cons (cInt .i64) (.cons (cL (.i .i64)) .nil))) x) (oOne cB).dec = lookahead_Feasible k x.1 x.2.1 x.2.2.1 by kernel_rfl) h
def e_lookahead_Feasible (k : Nat) : Nat × Ent := (24, ent (.cons (cL .part) (.cons (cInt .i64) (.cons (cL (.i .i64)) .nil))) (oOne cB) fun x => lookahead_Feasible k x.1 x.2.1 x.2.2.1)
theorem e_lookahead_Feasible_ok (k : Nat) : EntOk Try.prog (e_lookahead_Feasible k).1 (e_lookahead_Feasible k).2 ∧ entered Try.prog (e_lookahead_Feasible k).1 := ⟨ent_ok (lookahead_Feasible_ok k), Try.f24, Try.func24, by kernel_rfl, by kernel_rfl⟩
noncomputable def code_swarfref48_Accel : Code := (Try.f70.body).getD .skip
theorem body_swarfref48_Accel : Try.f70.body = some code_swarfref48_Accel := by kernel_rfl
def ctx_swarfref48_Accel (k : Nat) : Ctx := mkC 9 tyTab [] [] [] true 133 false
theorem ctx_swarfref48_Accel_ok (k : Nat) : CtxOk Try.prog (ctx_swarfref48_Accel k) := mkC_ok tyTab_ok (fun _ h => absurd h List.not_mem_nil) (fun _ h => absurd h List.not_mem_nil) (fun _ h => absurd h List.not_mem_nil)
theorem swarfref48_Accel_ok (k : Nat) (x : TL [Int]) (t : Bool) (h : swarfref48_Accel k x.1 = some t) : CallOk Try.prog 70 (Cods.enc (.cons (cInt .i64) .nil) x) ((oOne cB).enc t) :=
  fun_ok (ctx_swarfref48_Accel_ok k) mixed rfl Try.func70 body_swarfref48_Accel Try.ntmps70 (rs := [.tmp 2]) (by kernel_rfl) (by show 1 ≤ 9; decide)
    (show runF (ctx_swarfref48_Accel k) code_swarfref48_Accel [.tmp 2] none (Cods.enc (.cons (cInt .i64) .nil) x) (oOne cB).dec = swarfref48_Accel k x.1 by kernel_rfl) h
def e_swarfref48_Accel (k : Nat) : Nat × Ent := (70, ent (.cons (cInt .i64) .nil) (oOne cB) fun x => swarfref48_Accel k x.1)
theorem e_swarfref48_Accel_ok (k : Nat) : EntOk Try.prog (e_swarfref48_Accel k).1 (e_swarfref48_Accel k).2 ∧ entered Try.prog (e_swarfref48_Accel k).1 := ⟨ent_ok (swarfref48_Accel_ok k), Try.f70, Try.func70, by kernel_rfl, by kernel_rfl⟩
noncomputable def code_swarfref48_Long : Code := (Try.f71.body).getD .skip
theorem body_swarfref48_Long : Try.f71.body = some code_swarfref48_Long := by kernel_rfl
def ctx_swarfref48_Long (k : Nat) : Ctx := mkC 9 tyTab [] [] [] true 133 false
theorem ctx_swarfref48_Long_ok (k : Nat) : CtxOk Try.prog (ctx_swarfref48_Long k) := mkC_ok tyTab_ok (fun _ h => absurd h List.not_mem_nil) (fun _ h => absurd h List.not_mem_nil) (fun _ h => absurd h List.not_mem_nil)
theorem swarfref48_Long_ok (k : Nat) (x : TL [Int]) (t : Bool) (h : swarfref48_Long k x.1 = some t) : CallOk Try.prog 71 (Cods.enc (.cons (cInt .i64) .nil) x) ((oOne cB).enc t) :=
  fun_ok (ctx_swarfref48_Long_ok k) mixed rfl Try.func71 body_swarfref48_Long Try.ntmps71 (rs := [.tmp 2]) (by kernel_rfl) (by show 1 ≤ 9; decide)
    (show runF (ctx_swarfref48_Long k) code_swarfref48_Long [.tmp 2] none (Cods.enc (.cons (cInt .i64) .nil) x) (oOne cB).dec = swarfref48_Long k x.1 by kernel_rfl) h
def e_swarfref48_Long (k : Nat) : Nat × Ent := (71, ent (.cons (cInt .i64) .nil) (oOne cB) fun x => swarfref48_Long k x.1)
theorem e_swarfref48_Long_ok (k : Nat) : EntOk Try.prog (e_swarfref48_Long k).1 (e_swarfref48_Long k).2 ∧ entered Try.prog (e_swarfref48_Long k).1 := ⟨ent_ok (swarfref48_Long_ok k), Try.f71, Try.func71, by kernel_rfl, by kernel_rfl⟩
noncomputable def code_swarfref48_Speed : Code := (Try.f72.body).getD .skip
theorem body_swarfref48_Speed : Try.f72.body = some code_swarfref48_Speed := by kernel_rfl
def ctx_swarfref48_Speed (k : Nat) : Ctx := mkC 9 tyTab [] [] [] true 133 false
theorem ctx_swarfref48_Speed_ok (k : Nat) : CtxOk Try.prog (ctx_swarfref48_Speed k) := mkC_ok tyTab_ok (fun _ h => absurd h List.not_mem_nil) (fun _ h => absurd h List.not_mem_nil) (fun _ h => absurd h List.not_mem_nil)
theorem swarfref48_Speed_ok (k : Nat) (x : TL [Int]) (t : Bool) (h : swarfref48_Speed k x.1 = some t) : CallOk Try.prog 72 (Cods.enc (.cons (cInt .i64) .nil) x) ((oOne cB).enc t) :=
  fun_ok (ctx_swarfref48_Speed_ok k) mixed rfl Try.func72 body_swarfref48_Speed Try.ntmps72 (rs := [.tmp 2]) (by kernel_rfl) (by show 1 ≤ 9; decide)
    (show runF (ctx_swarfref48_Speed k) code_swarfref48_Speed [.tmp 2] none (Cods.enc (.cons (cInt .i64) .nil) x) (oOne cB).dec = swarfref48_Speed k x.1 by kernel_rfl) h
def e_swarfref48_Speed (k : Nat) : Nat × Ent := (72, ent (.cons (cInt .i64) .nil) (oOne cB) fun x => swarfref48_Speed k x.1)
theorem e_swarfref48_Speed_ok (k : Nat) : EntOk Try.prog (e_swarfref48_Speed k).1 (e_swarfref48_Speed k).2 ∧ entered Try.prog (e_swarfref48_Speed k).1 := ⟨ent_ok (swarfref48_Speed_ok k), Try.f72, Try.func72, by kernel_rfl, by kernel_rfl⟩
noncomputable def code_swarfref48_Valid : Code := (Try.f33.body).getD .skip
theorem body_swarfref48_Valid : Try.f33.body = some code_swarfref48_Valid := by kernel_rfl
def ctx_swarfref48_Valid (k : Nat) : Ctx := mkC 53 tyTab [e_swarfref48_Accel k, e_swarfref48_Long k, e_swarfref48_Speed k] [] [(0, .norm k [slV 0 (cL .part), slV 5 cB, slV 6 (cInt .i64)] [(.exit 0, [slV 5 cB])])] true 133 false
theorem ctx_swarfref48_Valid_ok (k : Nat) : CtxOk Try.prog (ctx_swarfref48_Valid k) := mkC_ok tyTab_ok (List.forall_mem_cons.2 ⟨e_swarfref48_Accel_ok k, List.forall_mem_cons.2 ⟨e_swarfref48_Long_ok k, List.forall_mem_cons.2 ⟨e_swarfref48_Speed_ok k, fun _ h => absurd h List.not_mem_nil⟩⟩⟩) (fun _ h => absurd h List.not_mem_nil) (List.forall_mem_cons.2 ⟨⟨⟨List.forall_mem_cons.2 ⟨slV_ok 0 (cL .part), List.forall_mem_cons.2 ⟨slV_ok 5 cB, List.forall_mem_cons.2 ⟨slV_ok 6 (cInt .i64), fun _ h => absurd h List.not_mem_nil⟩⟩⟩, by decide⟩, List.forall_mem_cons.2 ⟨⟨List.forall_mem_cons.2 ⟨slV_ok 5 cB, fun _ h => absurd h List.not_mem_nil⟩, by decide⟩, fun _ h => absurd h List.not_mem_nil⟩⟩, fun _ h => absurd h List.not_mem_nil⟩)
theorem swarfref48_Valid_ok (k : Nat) (x : TL [List PartD, Int]) (t : Int) (h : swarfref48_Valid k x.1 x.2.1 = some t) : CallOk Try.prog 33 (Cods.enc (.cons (cL .part) (.cons (cInt .i64) .nil)) x) ((oOne (cInt .i64)).enc t) :=
  fun_ok (ctx_swarfref48_Valid_ok k) mixed rfl Try.func33 body_swarfref48_Valid Try.ntmps33 (rs := [.tmp 4]) (by kernel_rfl) (by show 2 ≤ 53; decide)
    (show runF (ctx_swarfref48_Valid k) code_swarfref48_Valid [.tmp 4] none (Cods.enc (.cons (cL .part) (.cons (cInt .i64) .nil)) x) (oOne (cInt .i64)).dec = swarfref48_Valid k x.1 x.2.1 by kernel_rfl) h
def e_swarfref48_Valid (k : Nat) : Nat × Ent := (33, ent (.cons (cL .part) (.cons (cInt .i64) .nil)) (oOne (cInt .i64)) fun x => swarfref48_Valid k x.1 x.2.1)
theorem e_swarfref48_Valid_ok (k : Nat) : EntOk Try.prog (e_swarfref48_Valid k).1 (e_swarfref48_Valid k).2 ∧ entered Try.prog (e_swarfref48_Valid k).1 := ⟨ent_ok (swarfref48_Valid_ok k), Try.f33, Try.func33, by kernel_rfl, by kernel_rfl⟩
noncomputable def code_swarfref48_Feasible : Code := (Try.f26.body).getD .skip
theorem body_swarfref48_Feasible : Try.f26.body = some code_swarfref48_Feasible := by kernel_rfl
def ctx_swarfref48_Feasible (k : Nat) : Ctx := mkC 115 tyTab [e_swarfref48_Valid k] [] [(0, .norm k [slV 0 (cL .part), slV 1 (cInt .i64), slV 2 (cL (.i .i64)), slV 7 (cInt .i64)] [(.exit 0, []), (.ret, [slV 6 cB])])] true 133 false
theorem ctx_swarfref48_Feasible_ok (k : Nat) : CtxOk Try.prog (ctx_swarfref48_Feasible k) := mkC_ok tyTab_ok (List.forall_mem_cons.2 ⟨e_swarfref48_Valid_ok k, fun _ h => absurd h List.not_mem_nil⟩) (fun _ h => absurd h List.not_mem_nil) (List.forall_mem_cons.2 ⟨⟨⟨List.forall_mem_cons.2 ⟨slV_ok 0 (cL .part), List.forall_mem_cons.2 ⟨slV_ok 1 (cInt .i64), List.forall_mem_cons.2 ⟨slV_ok 2 (cL (.i .i64)), List.forall_mem_cons.2 ⟨slV_ok 7 (cInt .i64), fun _ h => absurd h List.not_mem_nil⟩⟩⟩⟩, by decide⟩, List.forall_mem_cons.2 ⟨⟨fun _ h => absurd h List.not_mem_nil, by decide⟩, List.forall_mem_cons.2 ⟨⟨List.forall_mem_cons.2 ⟨slV_ok 6 cB, fun _ h => absurd h List.not_mem_nil⟩, by decide⟩, fun _ h => absurd h List.not_mem_nil⟩⟩⟩, fun _ h => absurd h List.not_mem_nil⟩)
theorem swarfref48_Feasible_ok (k : Nat) (x : TL [List PartD, Int, List Int]) (t : Bool) (h : swarfref48_Feasible k x.1 x.2.1 x.2.2.1 = some t) : CallOk Try.prog 26 (Cods.enc (.cons (cL .part) (.cons (cInt .i64) (.cons (cL (.i .i64)) .nil))) x) ((oOne cB).enc t) :=
  fun_ok (ctx_swarfref48_Feasible_ok k) mixed rfl Try.func26 body_swarfref48_Feasible Try.ntmps26 (rs := [.tmp 6]) (by kernel_rfl) (by show 3 ≤ 115; decide)
    (show runF (ctx_swarfref48_Feasible k) code_swarfref48_Feasible [.tmp 6] none (Cods.enc (.cons (cL .part) (.cons (cInt .i64) (.cons (cL (.i .i64)) .nil))) x) (oOne cB).dec = swarfref48_Feasible k x.1 x.2.1 x.2.2.1 by kernel_rfl) h
def e_swarfref48_Feasible (k : Nat) : Nat × Ent := (26, ent (.cons (cL .part) (.cons (cInt .i64) (.cons (cL (.i .i64)) .nil))) (oOne cB) fun x => swarfref48_Feasible k x.1 x.2.1 x.2.2.1)
theorem e_swarfref48_Feasible_ok (k : Nat) : EntOk Try.prog (e_swarfref48_Feasible k).1 (e_swarfref48_Feasible k).2 ∧ entered Try.prog (e_swarfref48_Feasible k).1 := ⟨ent_ok (swarfref48_Feasible_ok k), Try.f26, Try.func26, by kernel_rfl, by kernel_rfl⟩
noncomputable def code_swarflaw48_LookaheadGreatest : Code := (Try.f9.body).getD .skip
theorem body_swarflaw48_LookaheadGreatest : Try.f9.body = some code_swarflaw48_LookaheadGreatest := by kernel_rfl
def ctx_swarflaw48_LookaheadGreatest (k : Nat) : Ctx := mkC 72 tyTab [e_swarflaw48_awake k, e_lookahead_Feasible k, e_swarflaw48_of k, e_swarfref48_Feasible k, e_lookahead_Speeds k, e_swarfref48_Valid k] [] [] true 133 false
theorem ctx_swarflaw48_LookaheadGreatest_ok (k : Nat) : CtxOk Try.prog (ctx_swarflaw48_LookaheadGreatest k) := mkC_ok tyTab_ok (List.forall_mem_cons.2 ⟨e_swarflaw48_awake_ok k, List.forall_mem_cons.2 ⟨e_lookahead_Feasible_ok k, List.forall_mem_cons.2 ⟨e_swarflaw48_of_ok k, List.forall_mem_cons.2 ⟨e_swarfref48_Feasible_ok k, List.forall_mem_cons.2 ⟨e_lookahead_Speeds_ok k, List.forall_mem_cons.2 ⟨e_swarfref48_Valid_ok k, fun _ h => absurd h List.not_mem_nil⟩⟩⟩⟩⟩⟩) (fun _ h => absurd h List.not_mem_nil) (fun _ h => absurd h List.not_mem_nil)
theorem swarflaw48_LookaheadGreatest_ok (k : Nat) (x : TL [List PartD, Int, (Int × Int)]) (t : Bool) (h : swarflaw48_LookaheadGreatest k x.1 x.2.1 x.2.2.1 = some t) : CallOk Try.prog 9 (Cods.enc (.cons (cL .part) (.cons (cInt .i64) (.cons (cArr2 1 (pI .u16)) .nil))) x) ((oOne cB).enc t) :=
  fun_ok (ctx_swarflaw48_LookaheadGreatest_ok k) mixed rfl Try.func9 body_swarflaw48_LookaheadGreatest Try.ntmps9 (rs := [.tmp 6]) (by kernel_rfl) (by show 3 ≤ 72; decide)
    (show runF (ctx_swarflaw48_LookaheadGreatest k) code_swarflaw48_LookaheadGreatest [.tmp 6] none (Cods.enc (.cons (cL .part) (.cons (cInt .i64) (.cons (cArr2 1 (pI .u16)) .nil))) x) (oOne cB).dec = swarflaw48_LookaheadGreatest k x.1 x.2.1 x.2.2.1 by kernel_rfl) h
end Go.Proofs.Ytbjkpogfgijmaaa
