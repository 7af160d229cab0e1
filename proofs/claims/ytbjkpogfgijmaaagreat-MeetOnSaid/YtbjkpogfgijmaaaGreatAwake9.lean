/- The examples of chapter 9: reckoned by the kernel, whatever the fuel above a hundred. -/
import Derived.Test.YtbjkpogfgijmaaaGreatAwake
namespace Go.Proofs.YtbjkpogfgijmaaaGreat
open Go
set_option maxRecDepth 100000
theorem awake09_at (k : Nat) : swarflaw09_awake (k + 100) = some true := by kernel_rfl
theorem awake09 {k : Nat} [F : Fuel k] : swarflaw09_awake k = some true := by obtain ⟨j, rfl⟩ := fuel_split k; exact awake09_at j
end Go.Proofs.YtbjkpogfgijmaaaGreat
