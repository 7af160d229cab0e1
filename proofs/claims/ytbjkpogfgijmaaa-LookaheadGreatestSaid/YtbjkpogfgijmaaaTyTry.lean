/- WRITTEN BY gen.py: the types. -/
import Derived.Test.YtbjkpogfgijmaaaKit
import Derived.Test.YtbjkpogfgijmaaaProg
namespace Go.Proofs.Ytbjkpogfgijmaaa
open Go Go.Proofs
set_option linter.unusedVariables false
set_option linter.unusedSimpArgs false
theorem mixed : Try.prog.follows .mixedOrders = true := by kernel_rfl
def tyTab : List (Nat × TI) := [(2, ⟨.int .i64, 1, false, 8, [.int .i64 0]⟩),
  (3, ⟨.int .i64, 1, false, 8, [.int .i64 0]⟩),
  (4, ⟨.bool, 1, false, 1, [.bool false]⟩),
  (5, ⟨.int .u8, 1, false, 1, [.int .u8 0]⟩),
  (22, ⟨.slice (.i .u32) 133, 1, false, 24, [.nil]⟩),
  (24, ⟨.struct [(0, 1, false), (1, 1, false)], 2, true, 32, [.bool false, .nil]⟩),
  (26, ⟨.struct [(0, 2, true), (2, 2, true)], 4, true, 64, [.bool false, .nil, .bool false, .nil]⟩),
  (30, ⟨.struct [(0, 4, true), (4, 4, true), (8, 4, true)], 12, true, 192, [.bool false, .nil, .bool false, .nil, .bool false, .nil, .bool false, .nil, .bool false, .nil, .bool false, .nil]⟩),
  (42, ⟨.slice .part 95, 1, false, 24, [.nil]⟩),
  (43, ⟨.slice (.i .i64) 2, 1, false, 24, [.nil]⟩),
  (45, ⟨.slice .part 90, 1, false, 24, [.nil]⟩),
  (48, ⟨.int .i16, 1, false, 2, [.int .i16 0]⟩),
  (49, ⟨.int .u16, 1, false, 2, [.int .u16 0]⟩),
  (51, ⟨.struct [(0, 1, false), (1, 1, false), (2, 1, false), (3, 1, false), (4, 1, false), (5, 1, false)], 6, true, 10, [.int .i16 0, .int .i16 0, .int .u16 0, .int .u8 0, .int .u8 0, .int .u8 0]⟩),
  (52, ⟨.array 3 6 true, 18, true, 30, [.int .i16 0, .int .i16 0, .int .u16 0, .int .u8 0, .int .u8 0, .int .u8 0, .int .i16 0, .int .i16 0, .int .u16 0, .int .u8 0, .int .u8 0, .int .u8 0, .int .i16 0, .int .i16 0, .int .u16 0, .int .u8 0, .int .u8 0, .int .u8 0]⟩),
  (53, ⟨.slice .root 30, 1, false, 24, [.nil]⟩),
  (64, ⟨.array 3 1 false, 3, true, 24, [.int .i64 0, .int .i64 0, .int .i64 0]⟩),
  (66, ⟨.struct [(0, 1, false), (1, 1, false), (2, 1, false)], 3, true, 24, [.int .i64 0, .int .i64 0, .int .i64 0]⟩),
  (71, ⟨.array 2 1 false, 2, true, 4, [.int .u16 0, .int .u16 0]⟩),
  (90, ⟨.struct [(0, 1, false), (1, 1, false), (2, 1, false)], 3, true, 24, [.int .i64 0, .int .i64 0, .int .i64 0]⟩),
  (95, ⟨.struct [(0, 1, false), (1, 1, false), (2, 1, false)], 3, true, 24, [.int .i64 0, .int .i64 0, .int .i64 0]⟩),
  (131, ⟨.int .u64, 1, false, 8, [.int .u64 0]⟩),
  (133, ⟨.int .u32, 1, false, 4, [.int .u32 0]⟩),
  (140, ⟨.int .u64, 1, false, 8, [.int .u64 0]⟩)]
theorem tyTab_ok : tabB Try.prog tyTab = true := by kernel_rfl
end Go.Proofs.Ytbjkpogfgijmaaa
