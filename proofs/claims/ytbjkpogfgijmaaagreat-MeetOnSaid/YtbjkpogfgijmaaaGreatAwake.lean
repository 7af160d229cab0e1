/- The examples of the chapters: reckoned by the kernel, whatever the fuel above a hundred. -/
import Derived.Test.YtbjkpogfgijmaaaGreatTh0
import Derived.Test.YtbjkpogfgijmaaaGreatPure1
import Derived.KernelRfl
namespace Go.Proofs.YtbjkpogfgijmaaaGreat
open Go
set_option maxRecDepth 100000
theorem awake03_at (k : Nat) : swarflaw03_awake (k + 100) = some true := by kernel_rfl
theorem fuel_split (k : Nat) [F : Fuel k] : ∃ j, k = j + 100 := ⟨k - 100, by have := F.len (n := 100) (by decide); omega⟩
theorem awake03 {k : Nat} [F : Fuel k] : swarflaw03_awake k = some true := by obtain ⟨j, rfl⟩ := fuel_split k; exact awake03_at j
end Go.Proofs.YtbjkpogfgijmaaaGreat
