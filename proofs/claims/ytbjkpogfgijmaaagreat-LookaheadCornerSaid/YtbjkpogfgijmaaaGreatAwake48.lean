/- The examples of chapter 48: reckoned by the kernel, whatever the fuel above a hundred. -/
import Derived.Test.YtbjkpogfgijmaaaGreatAwake
namespace Go.Proofs.YtbjkpogfgijmaaaGreat
open Go
set_option maxRecDepth 100000
theorem awake48_at (k : Nat) : swarflaw48_awake (k + 100) = some true := by kernel_rfl
theorem awake48 {k : Nat} [F : Fuel k] : swarflaw48_awake k = some true := by obtain ⟨j, rfl⟩ := fuel_split k; exact awake48_at j
end Go.Proofs.YtbjkpogfgijmaaaGreat
