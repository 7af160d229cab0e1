/- WRITTEN BY gen.py: the types. -/
import Derived.Test.YtbjkpogfgijmaaaGreatKit
import Derived.Test.YtbjkpogfgijmaaaGreatProg
namespace Go.Proofs.YtbjkpogfgijmaaaGreat
open Go Go.Proofs
set_option linter.unusedVariables false
set_option linter.unusedSimpArgs false
theorem mixed : Tryz.prog.follows .mixedOrders = true := by kernel_rfl
def tyTab : List (Nat × TI) := [(2, ⟨.int .i64, 1, false, 8, [.int .i64 0]⟩),
  (3, ⟨.int .i64, 1, false, 8, [.int .i64 0]⟩),
  (4, ⟨.bool, 1, false, 1, [.bool false]⟩),
  (5, ⟨.int .u8, 1, false, 1, [.int .u8 0]⟩),
  (22, ⟨.slice (.i .u32) 186, 1, false, 24, [.nil]⟩),
  (24, ⟨.struct [(0, 1, false), (1, 1, false)], 2, true, 32, [.bool false, .nil]⟩),
  (26, ⟨.struct [(0, 2, true), (2, 2, true)], 4, true, 64, [.bool false, .nil, .bool false, .nil]⟩),
  (28, ⟨.struct [(0, 4, true), (4, 4, true), (8, 4, true)], 12, true, 192, [.bool false, .nil, .bool false, .nil, .bool false, .nil, .bool false, .nil, .bool false, .nil, .bool false, .nil]⟩),
  (49, ⟨.struct [(0, 4, true), (4, 4, true)], 8, true, 128, [.bool false, .nil, .bool false, .nil, .bool false, .nil, .bool false, .nil]⟩),
  (61, ⟨.slice .motion 160, 1, false, 24, [.nil]⟩),
  (65, ⟨.struct [(0, 4, true), (4, 4, true), (8, 4, true)], 12, true, 192, [.bool false, .nil, .bool false, .nil, .bool false, .nil, .bool false, .nil, .bool false, .nil, .bool false, .nil]⟩),
  (67, ⟨.slice .point 87, 1, false, 24, [.nil]⟩),
  (73, ⟨.struct [(0, 4, true), (4, 4, true), (8, 4, true)], 12, true, 192, [.bool false, .nil, .bool false, .nil, .bool false, .nil, .bool false, .nil, .bool false, .nil, .bool false, .nil]⟩),
  (81, ⟨.struct [(0, 4, true), (4, 4, true)], 8, true, 128, [.bool false, .nil, .bool false, .nil, .bool false, .nil, .bool false, .nil]⟩),
  (87, ⟨.struct [(0, 4, true), (4, 4, true), (8, 4, true), (12, 4, true), (16, 4, true)], 20, true, 320, [.bool false, .nil, .bool false, .nil, .bool false, .nil, .bool false, .nil, .bool false, .nil, .bool false, .nil, .bool false, .nil, .bool false, .nil, .bool false, .nil, .bool false, .nil]⟩),
  (99, ⟨.struct [(0, 1, false), (1, 12, true), (13, 12, true), (25, 1, false), (26, 20, true), (46, 20, true)], 66, true, 1040, [.bool false, .bool false, .nil, .bool false, .nil, .bool false, .nil, .bool false, .nil, .bool false, .nil, .bool false, .nil, .bool false, .nil, .bool false, .nil, .bool false, .nil, .bool false, .nil, .bool false, .nil, .bool false, .nil, .bool false, .bool false, .nil, .bool false, .nil, .bool false, .nil, .bool false, .nil, .bool false, .nil, .bool false, .nil, .bool false, .nil, .bool false, .nil, .bool false, .nil, .bool false, .nil, .bool false, .nil, .bool false, .nil, .bool false, .nil, .bool false, .nil, .bool false, .nil, .bool false, .nil, .bool false, .nil, .bool false, .nil, .bool false, .nil, .bool false, .nil]⟩),
  (102, ⟨.int .i8, 1, false, 1, [.int .i8 0]⟩),
  (103, ⟨.slice .curve 99, 1, false, 24, [.nil]⟩),
  (107, ⟨.struct [(0, 1, false), (1, 1, false), (2, 1, false)], 3, true, 24, [.int .i64 0, .int .i64 0, .int .i64 0]⟩),
  (122, ⟨.int .i16, 1, false, 2, [.int .i16 0]⟩),
  (123, ⟨.int .u16, 1, false, 2, [.int .u16 0]⟩),
  (125, ⟨.struct [(0, 1, false), (1, 1, false), (2, 1, false), (3, 1, false), (4, 1, false), (5, 1, false)], 6, true, 10, [.int .i16 0, .int .i16 0, .int .u16 0, .int .u8 0, .int .u8 0, .int .u8 0]⟩),
  (127, ⟨.slice .root 28, 1, false, 24, [.nil]⟩),
  (141, ⟨.int .u64, 1, false, 8, [.int .u64 0]⟩),
  (152, ⟨.slice (.i .i64) 2, 1, false, 24, [.nil]⟩),
  (156, ⟨.struct [(0, 1, false), (1, 1, false), (2, 1, false)], 3, true, 24, [.int .i64 0, .int .i64 0, .int .i64 0]⟩),
  (157, ⟨.slice .part 156, 1, false, 24, [.nil]⟩),
  (160, ⟨.struct [(0, 3, true), (3, 3, true), (6, 1, false), (7, 1, false), (8, 1, false)], 9, true, 72, [.int .i64 0, .int .i64 0, .int .i64 0, .int .i64 0, .int .i64 0, .int .i64 0, .int .i64 0, .int .i64 0, .int .i64 0]⟩),
  (186, ⟨.int .u32, 1, false, 4, [.int .u32 0]⟩),
  (196, ⟨.slice .rat 26, 1, false, 24, [.nil]⟩),
  (205, ⟨.int .u64, 1, false, 8, [.int .u64 0]⟩),
  (216, ⟨.struct [(0, 4, true), (4, 4, true), (8, 4, true), (12, 4, true), (16, 4, true), (20, 4, true)], 24, true, 384, [.bool false, .nil, .bool false, .nil, .bool false, .nil, .bool false, .nil, .bool false, .nil, .bool false, .nil, .bool false, .nil, .bool false, .nil, .bool false, .nil, .bool false, .nil, .bool false, .nil, .bool false, .nil]⟩)]
theorem tyTab_ok : tabB Tryz.prog tyTab = true := by kernel_rfl
end Go.Proofs.YtbjkpogfgijmaaaGreat
