/- WRITTEN BY gen.py: the loaded functions come to the functions of plain data (those that the law MeetExtremes reaches). -/
import Derived.Test.YtbjkpogfgijmaaaGreatWMeetExtremesp0
import Derived.Test.YtbjkpogfgijmaaaGreatPure1
namespace Go.Proofs.YtbjkpogfgijmaaaGreat
open Go Go.Proofs
set_option linter.unusedVariables false
set_option linter.unusedSimpArgs false
set_option maxRecDepth 1000000
theorem ctx_swarflaw09_MeetExtremes_ok (k : Nat) : CtxOk Tryz.prog (ctx_swarflaw09_MeetExtremes k) := mkC_ok tyTab_ok (List.forall_mem_cons.2 ⟨e_swarfref02_Small_ok k, List.forall_mem_cons.2 ⟨e_swarflaw09_awake_ok k, List.forall_mem_cons.2 ⟨e_swarflaw09_same_ok k, List.forall_mem_cons.2 ⟨e_swarfref09_Circle_ok k, List.forall_mem_cons.2 ⟨e_meet_Extremes_ok k, List.forall_mem_cons.2 ⟨e_swarfref09_Extremes_ok k, List.forall_mem_cons.2 ⟨e_meet_AtX_ok k, List.forall_mem_cons.2 ⟨e_swarfref09_AtX_ok k, fun _ h => absurd h List.not_mem_nil⟩⟩⟩⟩⟩⟩⟩⟩) (fun _ h => absurd h List.not_mem_nil) (fun _ h => absurd h List.not_mem_nil)
theorem swarflaw09_MeetExtremes_ok (k : Nat) (x : TL [CircleD, RatD]) (t : Bool) (h : swarflaw09_MeetExtremes k x.1 x.2.1 = some t) : CallOk Tryz.prog 15 (Cods.enc (.cons cCircle (.cons cRat .nil)) x) ((oOne cB).enc t) :=
  fun_ok (ctx_swarflaw09_MeetExtremes_ok k) mixed rfl Tryz.func15 body_swarflaw09_MeetExtremes Tryz.ntmps15 (rs := [.tmp 4]) (by kernel_rfl) (by show 2 ≤ 48; decide)
    (show runF (ctx_swarflaw09_MeetExtremes k) code_swarflaw09_MeetExtremes [.tmp 4] none (Cods.enc (.cons cCircle (.cons cRat .nil)) x) (oOne cB).dec = swarflaw09_MeetExtremes k x.1 x.2.1 by kernel_rfl) h
end Go.Proofs.YtbjkpogfgijmaaaGreat
