/-
  No cell of these rows narrows 'for every input' (looked for: loops, veiled, ifaces, maps, wideKeys, modest, calm, conditions, laid).
  DERIVED. THE GIVEN ROWS OF THIS SEAT. 7 by the template 'for every input the law returns true; each argument reads behind the call as it read before'; 0 by the template 'total and deterministic' (their statements: YtbjkpogfgijmaaaTotals.lean).
  GIVEN WITH THE SEED: the statements are not yours to turn. If you find one false, say at which input.
  Laid BY PROGRAM, IN A SANDBOX (cutbox-rows.mjs): the forced cells as the released guide's own fill.sh prints them over the translation cf2e34f3593fbd51… (all of the seat's roots in one cut). By AI agents, Wed Nov 11 2026. No macro, syntax, notation, axiom, sorry.
-/
import Derived.Test.YtbjkpogfgijmaaaChecked
import GoSem.Claim
import GoSem.ClaimJoined
import GoSem.ClaimMapViews
import Derived.JoinedTies
import Derived.KernelRfl
namespace Go.Proofs.Ytbjkpogfgijmaaa
/- THE CELL 'sum', in the pinned program and in every row, IS THE sha256 OF THE DUMP (.gsa) THAT YtbjkpogfgijmaaaProg.lean LOADS. Nothing in Lean hashes anything: it is a label: what it is worth is what the hold of that sum in a sandbox is worth. -/
noncomputable def Try.pinned : Pinned := { name := "ytbjkpogfgijmaaa", sum := "cf2e34f3593fbd518170af2ec7e433aa200fff209ff4dc42b31a528a4c4417ec", checked := Try.checked }
namespace Rows
def none {H : Type} : Left H := { results := [], args := [] }

/-- 'swarflaw03.RootMake': WHATEVER THE INPUT: true; the input reads as it did. -/
def rootMakeSpec : ChangeSpec := { name := "rootMake", fn := fun _ => fun
  | [d1, d2, d3] => { results := [.lit (.bool true)], args := [d1, d2, d3] }
  | _ => none }
def rootMakeRow : OpenClaim := { program := "ytbjkpogfgijmaaa", sum := "cf2e34f3593fbd518170af2ec7e433aa200fff209ff4dc42b31a528a4c4417ec", func := "swarf/swarflaw03.RootMake", spec := "rootMake", apart := false }
def RootMakeSaid : Prop := rootMakeRow.holds Try.pinned (OpenSpec.ofChange rootMakeSpec)

/-- ITS FALSE NEIGHBOUR: 'it returns false'. Refute it at one input. -/
def rootMakeWrong : ChangeSpec := { name := "rootMake", fn := fun _ => fun
  | [d1, d2, d3] => { results := [.lit (.bool false)], args := [d1, d2, d3] }
  | _ => none }
def RootMakeWrongFalsely : Prop := rootMakeRow.holds Try.pinned (OpenSpec.ofChange rootMakeWrong)

/-- 'swarflaw03.RootValid': WHATEVER THE INPUT: true; the input reads as it did. -/
def rootValidSpec : ChangeSpec := { name := "rootValid", fn := fun _ => fun
  | [d] => { results := [.lit (.bool true)], args := [d] }
  | _ => none }
def rootValidRow : OpenClaim := { program := "ytbjkpogfgijmaaa", sum := "cf2e34f3593fbd518170af2ec7e433aa200fff209ff4dc42b31a528a4c4417ec", func := "swarf/swarflaw03.RootValid", spec := "rootValid", apart := false }
def RootValidSaid : Prop := rootValidRow.holds Try.pinned (OpenSpec.ofChange rootValidSpec)

/-- ITS FALSE NEIGHBOUR: 'it returns false'. Refute it at one input. -/
def rootValidWrong : ChangeSpec := { name := "rootValid", fn := fun _ => fun
  | [d] => { results := [.lit (.bool false)], args := [d] }
  | _ => none }
def RootValidWrongFalsely : Prop := rootValidRow.holds Try.pinned (OpenSpec.ofChange rootValidWrong)

/-- 'swarflaw48.LookaheadFeasible': WHATEVER THE INPUT: true; the input reads as it did. -/
def lookaheadFeasibleSpec : ChangeSpec := { name := "lookaheadFeasible", fn := fun _ => fun
  | [d1, d2, d3] => { results := [.lit (.bool true)], args := [d1, d2, d3] }
  | _ => none }
def lookaheadFeasibleRow : OpenClaim := { program := "ytbjkpogfgijmaaa", sum := "cf2e34f3593fbd518170af2ec7e433aa200fff209ff4dc42b31a528a4c4417ec", func := "swarf/swarflaw48.LookaheadFeasible", spec := "lookaheadFeasible", unfollowed := true, recurses := true, apart := false }
def LookaheadFeasibleSaid : Prop := lookaheadFeasibleRow.holds Try.pinned (OpenSpec.ofChange lookaheadFeasibleSpec)

/-- ITS FALSE NEIGHBOUR: 'it returns false'. Refute it at one input. -/
def lookaheadFeasibleWrong : ChangeSpec := { name := "lookaheadFeasible", fn := fun _ => fun
  | [d1, d2, d3] => { results := [.lit (.bool false)], args := [d1, d2, d3] }
  | _ => none }
def LookaheadFeasibleWrongFalsely : Prop := lookaheadFeasibleRow.holds Try.pinned (OpenSpec.ofChange lookaheadFeasibleWrong)

/-- 'swarflaw03.RootField': WHATEVER THE INPUT: true; the input reads as it did. -/
def rootFieldSpec : ChangeSpec := { name := "rootField", fn := fun _ => fun
  | [d] => { results := [.lit (.bool true)], args := [d] }
  | _ => none }
def rootFieldRow : OpenClaim := { program := "ytbjkpogfgijmaaa", sum := "cf2e34f3593fbd518170af2ec7e433aa200fff209ff4dc42b31a528a4c4417ec", func := "swarf/swarflaw03.RootField", spec := "rootField", apart := false }
def RootFieldSaid : Prop := rootFieldRow.holds Try.pinned (OpenSpec.ofChange rootFieldSpec)

/-- ITS FALSE NEIGHBOUR: 'it returns false'. Refute it at one input. -/
def rootFieldWrong : ChangeSpec := { name := "rootField", fn := fun _ => fun
  | [d] => { results := [.lit (.bool false)], args := [d] }
  | _ => none }
def RootFieldWrongFalsely : Prop := rootFieldRow.holds Try.pinned (OpenSpec.ofChange rootFieldWrong)

/-- 'swarflaw48.LookaheadSpeeds': WHATEVER THE INPUT: true; the input reads as it did. -/
def lookaheadSpeedsSpec : ChangeSpec := { name := "lookaheadSpeeds", fn := fun _ => fun
  | [d1, d2] => { results := [.lit (.bool true)], args := [d1, d2] }
  | _ => none }
def lookaheadSpeedsRow : OpenClaim := { program := "ytbjkpogfgijmaaa", sum := "cf2e34f3593fbd518170af2ec7e433aa200fff209ff4dc42b31a528a4c4417ec", func := "swarf/swarflaw48.LookaheadSpeeds", spec := "lookaheadSpeeds", unfollowed := true, recurses := true, apart := false }
def LookaheadSpeedsSaid : Prop := lookaheadSpeedsRow.holds Try.pinned (OpenSpec.ofChange lookaheadSpeedsSpec)

/-- ITS FALSE NEIGHBOUR: 'it returns false'. Refute it at one input. -/
def lookaheadSpeedsWrong : ChangeSpec := { name := "lookaheadSpeeds", fn := fun _ => fun
  | [d1, d2] => { results := [.lit (.bool false)], args := [d1, d2] }
  | _ => none }
def LookaheadSpeedsWrongFalsely : Prop := lookaheadSpeedsRow.holds Try.pinned (OpenSpec.ofChange lookaheadSpeedsWrong)

/-- 'swarflaw48.LookaheadFaster': WHATEVER THE INPUT: true; the input reads as it did. -/
def lookaheadFasterSpec : ChangeSpec := { name := "lookaheadFaster", fn := fun _ => fun
  | [d1, d2, d3] => { results := [.lit (.bool true)], args := [d1, d2, d3] }
  | _ => none }
def lookaheadFasterRow : OpenClaim := { program := "ytbjkpogfgijmaaa", sum := "cf2e34f3593fbd518170af2ec7e433aa200fff209ff4dc42b31a528a4c4417ec", func := "swarf/swarflaw48.LookaheadFaster", spec := "lookaheadFaster", unfollowed := true, recurses := true, apart := false }
def LookaheadFasterSaid : Prop := lookaheadFasterRow.holds Try.pinned (OpenSpec.ofChange lookaheadFasterSpec)

/-- ITS FALSE NEIGHBOUR: 'it returns false'. Refute it at one input. -/
def lookaheadFasterWrong : ChangeSpec := { name := "lookaheadFaster", fn := fun _ => fun
  | [d1, d2, d3] => { results := [.lit (.bool false)], args := [d1, d2, d3] }
  | _ => none }
def LookaheadFasterWrongFalsely : Prop := lookaheadFasterRow.holds Try.pinned (OpenSpec.ofChange lookaheadFasterWrong)

/-- 'swarflaw48.LookaheadGreatest': WHATEVER THE INPUT: true; the input reads as it did. -/
def lookaheadGreatestSpec : ChangeSpec := { name := "lookaheadGreatest", fn := fun _ => fun
  | [d1, d2, d3] => { results := [.lit (.bool true)], args := [d1, d2, d3] }
  | _ => none }
def lookaheadGreatestRow : OpenClaim := { program := "ytbjkpogfgijmaaa", sum := "cf2e34f3593fbd518170af2ec7e433aa200fff209ff4dc42b31a528a4c4417ec", func := "swarf/swarflaw48.LookaheadGreatest", spec := "lookaheadGreatest", unfollowed := true, recurses := true, apart := false }
def LookaheadGreatestSaid : Prop := lookaheadGreatestRow.holds Try.pinned (OpenSpec.ofChange lookaheadGreatestSpec)

/-- ITS FALSE NEIGHBOUR: 'it returns false'. Refute it at one input. -/
def lookaheadGreatestWrong : ChangeSpec := { name := "lookaheadGreatest", fn := fun _ => fun
  | [d1, d2, d3] => { results := [.lit (.bool false)], args := [d1, d2, d3] }
  | _ => none }
def LookaheadGreatestWrongFalsely : Prop := lookaheadGreatestRow.holds Try.pinned (OpenSpec.ofChange lookaheadGreatestWrong)

/- THE SECOND FORM. 'bulk': how many values and letters a reading holds, each counted each time it is reached (what is shared counts as often as it is met; a slice's spare places count too). A statement '..UptoSaid' is the law's where the arguments, and the package variables that the reading takes, are together of bulk at most 1048576: NARROWER than '..Said'. Prove '..Said' where nothing that the law and all that it calls make is longer than what came in: it says more and counts as full. Else prove '..UptoSaid'. A law counts once. -/
mutual
def uptoBulk {H : Type} : DataW H → Nat
  | .lit (.string bytes) => bytes.length + 1
  | .lit _ => 1
  | .nil => 1
  | .ptr d => uptoBulk d + 1
  | .slice elems spare => uptoBulkAll elems + uptoBulkAll spare + 1
  | .agg parts => uptoBulkAll parts + 1
  | .iface _ d => uptoBulk d + 1
  | .map entries => uptoBulkEntries entries + 1
  | .held _ => 1
def uptoBulkAll {H : Type} : List (DataW H) → Nat
  | [] => 0
  | d :: r => uptoBulk d + uptoBulkAll r
def uptoBulkEntries {H : Type} : List (Lit × DataW H) → Nat
  | [] => 0
  | x :: r => uptoBulkEntry x + uptoBulkEntries r
def uptoBulkEntry {H : Type} : Lit × DataW H → Nat
  | (.string bytes, d) => bytes.length + uptoBulk d + 1
  | (_, d) => uptoBulk d + 1
 end
def uptoSmall : (H : Type) → List (DataW H) → Bool := fun _ ds => decide (uptoBulkAll ds ≤ 1048576)
def OpenSpec.upto (s : _root_.Go.ChangeSpec) : _root_.Go.OpenSpec := { _root_.Go.OpenSpec.ofChange s with cond := some uptoSmall }

/-- 'swarflaw03.RootMake', WHERE WHAT IT READS IS OF BULK AT MOST 1048576: true; the input reads as it did. -/
def rootMakeUptoRow : OpenClaim := { program := "ytbjkpogfgijmaaa", sum := "cf2e34f3593fbd518170af2ec7e433aa200fff209ff4dc42b31a528a4c4417ec", func := "swarf/swarflaw03.RootMake", spec := "rootMake", apart := false, narrowed := true }
def RootMakeUptoSaid : Prop := rootMakeUptoRow.holds Try.pinned (OpenSpec.upto rootMakeSpec)

/-- 'swarflaw03.RootValid', WHERE WHAT IT READS IS OF BULK AT MOST 1048576: true; the input reads as it did. -/
def rootValidUptoRow : OpenClaim := { program := "ytbjkpogfgijmaaa", sum := "cf2e34f3593fbd518170af2ec7e433aa200fff209ff4dc42b31a528a4c4417ec", func := "swarf/swarflaw03.RootValid", spec := "rootValid", apart := false, narrowed := true }
def RootValidUptoSaid : Prop := rootValidUptoRow.holds Try.pinned (OpenSpec.upto rootValidSpec)

/-- 'swarflaw48.LookaheadFeasible', WHERE WHAT IT READS IS OF BULK AT MOST 1048576: true; the input reads as it did. -/
def lookaheadFeasibleUptoRow : OpenClaim := { program := "ytbjkpogfgijmaaa", sum := "cf2e34f3593fbd518170af2ec7e433aa200fff209ff4dc42b31a528a4c4417ec", func := "swarf/swarflaw48.LookaheadFeasible", spec := "lookaheadFeasible", unfollowed := true, recurses := true, apart := false, narrowed := true }
def LookaheadFeasibleUptoSaid : Prop := lookaheadFeasibleUptoRow.holds Try.pinned (OpenSpec.upto lookaheadFeasibleSpec)

/-- 'swarflaw03.RootField', WHERE WHAT IT READS IS OF BULK AT MOST 1048576: true; the input reads as it did. -/
def rootFieldUptoRow : OpenClaim := { program := "ytbjkpogfgijmaaa", sum := "cf2e34f3593fbd518170af2ec7e433aa200fff209ff4dc42b31a528a4c4417ec", func := "swarf/swarflaw03.RootField", spec := "rootField", apart := false, narrowed := true }
def RootFieldUptoSaid : Prop := rootFieldUptoRow.holds Try.pinned (OpenSpec.upto rootFieldSpec)

/-- 'swarflaw48.LookaheadSpeeds', WHERE WHAT IT READS IS OF BULK AT MOST 1048576: true; the input reads as it did. -/
def lookaheadSpeedsUptoRow : OpenClaim := { program := "ytbjkpogfgijmaaa", sum := "cf2e34f3593fbd518170af2ec7e433aa200fff209ff4dc42b31a528a4c4417ec", func := "swarf/swarflaw48.LookaheadSpeeds", spec := "lookaheadSpeeds", unfollowed := true, recurses := true, apart := false, narrowed := true }
def LookaheadSpeedsUptoSaid : Prop := lookaheadSpeedsUptoRow.holds Try.pinned (OpenSpec.upto lookaheadSpeedsSpec)

/-- 'swarflaw48.LookaheadFaster', WHERE WHAT IT READS IS OF BULK AT MOST 1048576: true; the input reads as it did. -/
def lookaheadFasterUptoRow : OpenClaim := { program := "ytbjkpogfgijmaaa", sum := "cf2e34f3593fbd518170af2ec7e433aa200fff209ff4dc42b31a528a4c4417ec", func := "swarf/swarflaw48.LookaheadFaster", spec := "lookaheadFaster", unfollowed := true, recurses := true, apart := false, narrowed := true }
def LookaheadFasterUptoSaid : Prop := lookaheadFasterUptoRow.holds Try.pinned (OpenSpec.upto lookaheadFasterSpec)

/-- 'swarflaw48.LookaheadGreatest', WHERE WHAT IT READS IS OF BULK AT MOST 1048576: true; the input reads as it did. -/
def lookaheadGreatestUptoRow : OpenClaim := { program := "ytbjkpogfgijmaaa", sum := "cf2e34f3593fbd518170af2ec7e433aa200fff209ff4dc42b31a528a4c4417ec", func := "swarf/swarflaw48.LookaheadGreatest", spec := "lookaheadGreatest", unfollowed := true, recurses := true, apart := false, narrowed := true }
def LookaheadGreatestUptoSaid : Prop := lookaheadGreatestUptoRow.holds Try.pinned (OpenSpec.upto lookaheadGreatestSpec)

end Rows
end Go.Proofs.Ytbjkpogfgijmaaa
