/-
  No cell of these rows narrows 'for every input' (looked for: loops, veiled, ifaces, maps, wideKeys, modest, calm, conditions, laid).
  DERIVED. THE GIVEN ROWS OF THIS SEAT. 13 by the template 'for every input the law returns true; each argument reads behind the call as it read before'; 0 by the template 'total and deterministic' (their statements: YtigliehhpdpaoaaGreatTotals.lean).
  GIVEN WITH THE SEED: the statements are not yours to turn. If you find one false, say at which input.
  Laid BY PROGRAM, IN A SANDBOX (cutbox-rows.mjs): the forced cells as the released guide's own fill.sh prints them over the translation 7c4cdfcb5f4aa0ec… (all of the seat's roots in one cut). By AI agents, Wed Nov 11 2026. No macro, syntax, notation, axiom, sorry.
-/
import Derived.Test.YtigliehhpdpaoaaGreatChecked
import GoSem.Claim
import GoSem.ClaimJoined
import GoSem.ClaimMapViews
import Derived.JoinedTies
import Derived.KernelRfl
namespace Go.Proofs.YtigliehhpdpaoaaGreat
/- THE CELL 'sum', in the pinned program and in every row, IS THE sha256 OF THE DUMP (.gsa) THAT YtigliehhpdpaoaaGreatProg.lean LOADS. Nothing in Lean hashes anything: it is a label: what it is worth is what the hold of that sum in a sandbox is worth. -/
noncomputable def Tryz.pinned : Pinned := { name := "ytigliehhpdpaoaagreat", sum := "7c4cdfcb5f4aa0ec9e26bc61c2c527c995dd41249de9fbbe0fa237b3b0d63815", checked := Tryz.checked }
namespace Rows
def none {H : Type} : Left H := { results := [], args := [] }

/-- 'shoeboxlaw09.EngineChecks': WHATEVER THE INPUT: true; the input reads as it did. -/
def engineChecksSpec : ChangeSpec := { name := "engineChecks", fn := fun _ => fun
  | [d] => { results := [.lit (.bool true)], args := [d] }
  | _ => none }
def engineChecksRow : OpenClaim := { program := "ytigliehhpdpaoaagreat", sum := "7c4cdfcb5f4aa0ec9e26bc61c2c527c995dd41249de9fbbe0fa237b3b0d63815", func := "shoebox/shoeboxlaw09.EngineChecks", spec := "engineChecks", unfollowed := true, recurses := true, apart := false }
def EngineChecksSaid : Prop := engineChecksRow.holds Tryz.pinned (OpenSpec.ofChange engineChecksSpec)

/-- ITS FALSE NEIGHBOUR: 'it returns false'. Refute it at one input. -/
def engineChecksWrong : ChangeSpec := { name := "engineChecks", fn := fun _ => fun
  | [d] => { results := [.lit (.bool false)], args := [d] }
  | _ => none }
def EngineChecksWrongFalsely : Prop := engineChecksRow.holds Tryz.pinned (OpenSpec.ofChange engineChecksWrong)

/-- 'shoeboxlaw09.EngineOrders': WHATEVER THE INPUT: true; the input reads as it did. -/
def engineOrdersSpec : ChangeSpec := { name := "engineOrders", fn := fun _ => fun
  | [d1, d2] => { results := [.lit (.bool true)], args := [d1, d2] }
  | _ => none }
def engineOrdersRow : OpenClaim := { program := "ytigliehhpdpaoaagreat", sum := "7c4cdfcb5f4aa0ec9e26bc61c2c527c995dd41249de9fbbe0fa237b3b0d63815", func := "shoebox/shoeboxlaw09.EngineOrders", spec := "engineOrders", unfollowed := true, recurses := true, apart := false }
def EngineOrdersSaid : Prop := engineOrdersRow.holds Tryz.pinned (OpenSpec.ofChange engineOrdersSpec)

/-- ITS FALSE NEIGHBOUR: 'it returns false'. Refute it at one input. -/
def engineOrdersWrong : ChangeSpec := { name := "engineOrders", fn := fun _ => fun
  | [d1, d2] => { results := [.lit (.bool false)], args := [d1, d2] }
  | _ => none }
def EngineOrdersWrongFalsely : Prop := engineOrdersRow.holds Tryz.pinned (OpenSpec.ofChange engineOrdersWrong)

/-- 'shoeboxlaw09.EngineLatencies': WHATEVER THE INPUT: true; the input reads as it did. -/
def engineLatenciesSpec : ChangeSpec := { name := "engineLatencies", fn := fun _ => fun
  | [d1, d2] => { results := [.lit (.bool true)], args := [d1, d2] }
  | _ => none }
def engineLatenciesRow : OpenClaim := { program := "ytigliehhpdpaoaagreat", sum := "7c4cdfcb5f4aa0ec9e26bc61c2c527c995dd41249de9fbbe0fa237b3b0d63815", func := "shoebox/shoeboxlaw09.EngineLatencies", spec := "engineLatencies", unfollowed := true, recurses := true, apart := false }
def EngineLatenciesSaid : Prop := engineLatenciesRow.holds Tryz.pinned (OpenSpec.ofChange engineLatenciesSpec)

/-- ITS FALSE NEIGHBOUR: 'it returns false'. Refute it at one input. -/
def engineLatenciesWrong : ChangeSpec := { name := "engineLatencies", fn := fun _ => fun
  | [d1, d2] => { results := [.lit (.bool false)], args := [d1, d2] }
  | _ => none }
def EngineLatenciesWrongFalsely : Prop := engineLatenciesRow.holds Tryz.pinned (OpenSpec.ofChange engineLatenciesWrong)

/-- 'shoeboxlaw09.EngineWays': WHATEVER THE INPUT: true; the input reads as it did. -/
def engineWaysSpec : ChangeSpec := { name := "engineWays", fn := fun _ => fun
  | [d] => { results := [.lit (.bool true)], args := [d] }
  | _ => none }
def engineWaysRow : OpenClaim := { program := "ytigliehhpdpaoaagreat", sum := "7c4cdfcb5f4aa0ec9e26bc61c2c527c995dd41249de9fbbe0fa237b3b0d63815", func := "shoebox/shoeboxlaw09.EngineWays", spec := "engineWays", unfollowed := true, recurses := true, apart := false }
def EngineWaysSaid : Prop := engineWaysRow.holds Tryz.pinned (OpenSpec.ofChange engineWaysSpec)

/-- ITS FALSE NEIGHBOUR: 'it returns false'. Refute it at one input. -/
def engineWaysWrong : ChangeSpec := { name := "engineWays", fn := fun _ => fun
  | [d] => { results := [.lit (.bool false)], args := [d] }
  | _ => none }
def EngineWaysWrongFalsely : Prop := engineWaysRow.holds Tryz.pinned (OpenSpec.ofChange engineWaysWrong)

/-- 'shoeboxlaw09.EngineUnequal': WHATEVER THE INPUT: true; the input reads as it did. -/
def engineUnequalSpec : ChangeSpec := { name := "engineUnequal", fn := fun _ => fun
  | [d1, d2] => { results := [.lit (.bool true)], args := [d1, d2] }
  | _ => none }
def engineUnequalRow : OpenClaim := { program := "ytigliehhpdpaoaagreat", sum := "7c4cdfcb5f4aa0ec9e26bc61c2c527c995dd41249de9fbbe0fa237b3b0d63815", func := "shoebox/shoeboxlaw09.EngineUnequal", spec := "engineUnequal", unfollowed := true, recurses := true, apart := false }
def EngineUnequalSaid : Prop := engineUnequalRow.holds Tryz.pinned (OpenSpec.ofChange engineUnequalSpec)

/-- ITS FALSE NEIGHBOUR: 'it returns false'. Refute it at one input. -/
def engineUnequalWrong : ChangeSpec := { name := "engineUnequal", fn := fun _ => fun
  | [d1, d2] => { results := [.lit (.bool false)], args := [d1, d2] }
  | _ => none }
def EngineUnequalWrongFalsely : Prop := engineUnequalRow.holds Tryz.pinned (OpenSpec.ofChange engineUnequalWrong)

/-- 'shoeboxlaw09.EngineCompensates': WHATEVER THE INPUT: true; the input reads as it did. -/
def engineCompensatesSpec : ChangeSpec := { name := "engineCompensates", fn := fun _ => fun
  | [d] => { results := [.lit (.bool true)], args := [d] }
  | _ => none }
def engineCompensatesRow : OpenClaim := { program := "ytigliehhpdpaoaagreat", sum := "7c4cdfcb5f4aa0ec9e26bc61c2c527c995dd41249de9fbbe0fa237b3b0d63815", func := "shoebox/shoeboxlaw09.EngineCompensates", spec := "engineCompensates", unfollowed := true, recurses := true, apart := false }
def EngineCompensatesSaid : Prop := engineCompensatesRow.holds Tryz.pinned (OpenSpec.ofChange engineCompensatesSpec)

/-- ITS FALSE NEIGHBOUR: 'it returns false'. Refute it at one input. -/
def engineCompensatesWrong : ChangeSpec := { name := "engineCompensates", fn := fun _ => fun
  | [d] => { results := [.lit (.bool false)], args := [d] }
  | _ => none }
def EngineCompensatesWrongFalsely : Prop := engineCompensatesRow.holds Tryz.pinned (OpenSpec.ofChange engineCompensatesWrong)

/-- 'shoeboxlaw09.EngineFaults': WHATEVER THE INPUT: true; the input reads as it did. -/
def engineFaultsSpec : ChangeSpec := { name := "engineFaults", fn := fun _ => fun
  | [d1, d2, d3] => { results := [.lit (.bool true)], args := [d1, d2, d3] }
  | _ => none }
def engineFaultsRow : OpenClaim := { program := "ytigliehhpdpaoaagreat", sum := "7c4cdfcb5f4aa0ec9e26bc61c2c527c995dd41249de9fbbe0fa237b3b0d63815", func := "shoebox/shoeboxlaw09.EngineFaults", spec := "engineFaults", unfollowed := true, recurses := true, apart := false }
def EngineFaultsSaid : Prop := engineFaultsRow.holds Tryz.pinned (OpenSpec.ofChange engineFaultsSpec)

/-- ITS FALSE NEIGHBOUR: 'it returns false'. Refute it at one input. -/
def engineFaultsWrong : ChangeSpec := { name := "engineFaults", fn := fun _ => fun
  | [d1, d2, d3] => { results := [.lit (.bool false)], args := [d1, d2, d3] }
  | _ => none }
def EngineFaultsWrongFalsely : Prop := engineFaultsRow.holds Tryz.pinned (OpenSpec.ofChange engineFaultsWrong)

/-- 'shoeboxlaw09.EngineWeak': WHATEVER THE INPUT: true; the input reads as it did. -/
def engineWeakSpec : ChangeSpec := { name := "engineWeak", fn := fun _ => fun
  | [d] => { results := [.lit (.bool true)], args := [d] }
  | _ => none }
def engineWeakRow : OpenClaim := { program := "ytigliehhpdpaoaagreat", sum := "7c4cdfcb5f4aa0ec9e26bc61c2c527c995dd41249de9fbbe0fa237b3b0d63815", func := "shoebox/shoeboxlaw09.EngineWeak", spec := "engineWeak", unfollowed := true, recurses := true, apart := false }
def EngineWeakSaid : Prop := engineWeakRow.holds Tryz.pinned (OpenSpec.ofChange engineWeakSpec)

/-- ITS FALSE NEIGHBOUR: 'it returns false'. Refute it at one input. -/
def engineWeakWrong : ChangeSpec := { name := "engineWeak", fn := fun _ => fun
  | [d] => { results := [.lit (.bool false)], args := [d] }
  | _ => none }
def EngineWeakWrongFalsely : Prop := engineWeakRow.holds Tryz.pinned (OpenSpec.ofChange engineWeakWrong)

/-- 'shoeboxlaw09.EngineSteps': WHATEVER THE INPUT: true; the input reads as it did. -/
def engineStepsSpec : ChangeSpec := { name := "engineSteps", fn := fun _ => fun
  | [d1, d2, d3] => { results := [.lit (.bool true)], args := [d1, d2, d3] }
  | _ => none }
def engineStepsRow : OpenClaim := { program := "ytigliehhpdpaoaagreat", sum := "7c4cdfcb5f4aa0ec9e26bc61c2c527c995dd41249de9fbbe0fa237b3b0d63815", func := "shoebox/shoeboxlaw09.EngineSteps", spec := "engineSteps", inPlace := ["math.Float32bits"], unfollowed := true, recurses := true, apart := false }
def EngineStepsSaid : Prop := engineStepsRow.holds Tryz.pinned (OpenSpec.ofChange engineStepsSpec)

/-- ITS FALSE NEIGHBOUR: 'it returns false'. Refute it at one input. -/
def engineStepsWrong : ChangeSpec := { name := "engineSteps", fn := fun _ => fun
  | [d1, d2, d3] => { results := [.lit (.bool false)], args := [d1, d2, d3] }
  | _ => none }
def EngineStepsWrongFalsely : Prop := engineStepsRow.holds Tryz.pinned (OpenSpec.ofChange engineStepsWrong)

/-- 'shoeboxlaw09.EngineRuns': WHATEVER THE INPUT: true; the input reads as it did. -/
def engineRunsSpec : ChangeSpec := { name := "engineRuns", fn := fun _ => fun
  | [d1, d2, d3] => { results := [.lit (.bool true)], args := [d1, d2, d3] }
  | _ => none }
def engineRunsRow : OpenClaim := { program := "ytigliehhpdpaoaagreat", sum := "7c4cdfcb5f4aa0ec9e26bc61c2c527c995dd41249de9fbbe0fa237b3b0d63815", func := "shoebox/shoeboxlaw09.EngineRuns", spec := "engineRuns", inPlace := ["math.Float32bits"], unfollowed := true, recurses := true, apart := false }
def EngineRunsSaid : Prop := engineRunsRow.holds Tryz.pinned (OpenSpec.ofChange engineRunsSpec)

/-- ITS FALSE NEIGHBOUR: 'it returns false'. Refute it at one input. -/
def engineRunsWrong : ChangeSpec := { name := "engineRuns", fn := fun _ => fun
  | [d1, d2, d3] => { results := [.lit (.bool false)], args := [d1, d2, d3] }
  | _ => none }
def EngineRunsWrongFalsely : Prop := engineRunsRow.holds Tryz.pinned (OpenSpec.ofChange engineRunsWrong)

/-- 'shoeboxlaw09.EngineLate': WHATEVER THE INPUT: true; the input reads as it did. -/
def engineLateSpec : ChangeSpec := { name := "engineLate", fn := fun _ => fun
  | [d1, d2] => { results := [.lit (.bool true)], args := [d1, d2] }
  | _ => none }
def engineLateRow : OpenClaim := { program := "ytigliehhpdpaoaagreat", sum := "7c4cdfcb5f4aa0ec9e26bc61c2c527c995dd41249de9fbbe0fa237b3b0d63815", func := "shoebox/shoeboxlaw09.EngineLate", spec := "engineLate", inPlace := ["math.Float32bits"], unfollowed := true, recurses := true, apart := false }
def EngineLateSaid : Prop := engineLateRow.holds Tryz.pinned (OpenSpec.ofChange engineLateSpec)

/-- ITS FALSE NEIGHBOUR: 'it returns false'. Refute it at one input. -/
def engineLateWrong : ChangeSpec := { name := "engineLate", fn := fun _ => fun
  | [d1, d2] => { results := [.lit (.bool false)], args := [d1, d2] }
  | _ => none }
def EngineLateWrongFalsely : Prop := engineLateRow.holds Tryz.pinned (OpenSpec.ofChange engineLateWrong)

/-- 'shoeboxlaw09.EngineBlocks': WHATEVER THE INPUT: true; the input reads as it did. -/
def engineBlocksSpec : ChangeSpec := { name := "engineBlocks", fn := fun _ => fun
  | [d1, d2, d3] => { results := [.lit (.bool true)], args := [d1, d2, d3] }
  | _ => none }
def engineBlocksRow : OpenClaim := { program := "ytigliehhpdpaoaagreat", sum := "7c4cdfcb5f4aa0ec9e26bc61c2c527c995dd41249de9fbbe0fa237b3b0d63815", func := "shoebox/shoeboxlaw09.EngineBlocks", spec := "engineBlocks", inPlace := ["math.Float32bits"], unfollowed := true, recurses := true, apart := false }
def EngineBlocksSaid : Prop := engineBlocksRow.holds Tryz.pinned (OpenSpec.ofChange engineBlocksSpec)

/-- ITS FALSE NEIGHBOUR: 'it returns false'. Refute it at one input. -/
def engineBlocksWrong : ChangeSpec := { name := "engineBlocks", fn := fun _ => fun
  | [d1, d2, d3] => { results := [.lit (.bool false)], args := [d1, d2, d3] }
  | _ => none }
def EngineBlocksWrongFalsely : Prop := engineBlocksRow.holds Tryz.pinned (OpenSpec.ofChange engineBlocksWrong)

/-- 'shoeboxtop.TopEqualLatency': WHATEVER THE INPUT: true; the input reads as it did. -/
def topEqualLatencySpec : ChangeSpec := { name := "topEqualLatency", fn := fun _ => fun
  | [d1, d2] => { results := [.lit (.bool true)], args := [d1, d2] }
  | _ => none }
def topEqualLatencyRow : OpenClaim := { program := "ytigliehhpdpaoaagreat", sum := "7c4cdfcb5f4aa0ec9e26bc61c2c527c995dd41249de9fbbe0fa237b3b0d63815", func := "shoebox/shoeboxtop.TopEqualLatency", spec := "topEqualLatency", unfollowed := true, recurses := true, apart := false }
def TopEqualLatencySaid : Prop := topEqualLatencyRow.holds Tryz.pinned (OpenSpec.ofChange topEqualLatencySpec)

/-- ITS FALSE NEIGHBOUR: 'it returns false'. Refute it at one input. -/
def topEqualLatencyWrong : ChangeSpec := { name := "topEqualLatency", fn := fun _ => fun
  | [d1, d2] => { results := [.lit (.bool false)], args := [d1, d2] }
  | _ => none }
def TopEqualLatencyWrongFalsely : Prop := topEqualLatencyRow.holds Tryz.pinned (OpenSpec.ofChange topEqualLatencyWrong)

/- THE SECOND FORM. 'bulk': how many values and letters a reading holds, each counted each time it is reached (what is shared counts as often as it is met; a slice's spare places count too). A statement '..UptoSaid' is the law's where the arguments, and the package variables that the reading takes, are together of bulk at most 1048576: NARROWER than '..Said'. Prove '..Said' where nothing that the law and all that it calls make is longer than what came in: it says more and counts as full. Else prove '..UptoSaid'. A law counts once. -/
mutual
def uptoBulk {H : Type} : DataW H → Nat
  | .lit (.string bytes) => bytes.length + 1
  | .lit _ => 1
  | .nil => 1
  | .ptr d => uptoBulk d + 1
  | .slice elems spare => uptoBulkAll elems + uptoBulkAll spare + 1
  | .agg parts => uptoBulkAll parts + 1
  | .iface _ d => uptoBulk d + 1
  | .map entries => uptoBulkEntries entries + 1
  | .held _ => 1
def uptoBulkAll {H : Type} : List (DataW H) → Nat
  | [] => 0
  | d :: r => uptoBulk d + uptoBulkAll r
def uptoBulkEntries {H : Type} : List (Lit × DataW H) → Nat
  | [] => 0
  | x :: r => uptoBulkEntry x + uptoBulkEntries r
def uptoBulkEntry {H : Type} : Lit × DataW H → Nat
  | (.string bytes, d) => bytes.length + uptoBulk d + 1
  | (_, d) => uptoBulk d + 1
 end
def uptoSmall : (H : Type) → List (DataW H) → Bool := fun _ ds => decide (uptoBulkAll ds ≤ 1048576)
def OpenSpec.upto (s : _root_.Go.ChangeSpec) : _root_.Go.OpenSpec := { _root_.Go.OpenSpec.ofChange s with cond := some uptoSmall }

/-- 'shoeboxlaw09.EngineChecks', WHERE WHAT IT READS IS OF BULK AT MOST 1048576: true; the input reads as it did. -/
def engineChecksUptoRow : OpenClaim := { program := "ytigliehhpdpaoaagreat", sum := "7c4cdfcb5f4aa0ec9e26bc61c2c527c995dd41249de9fbbe0fa237b3b0d63815", func := "shoebox/shoeboxlaw09.EngineChecks", spec := "engineChecks", unfollowed := true, recurses := true, apart := false, narrowed := true }
def EngineChecksUptoSaid : Prop := engineChecksUptoRow.holds Tryz.pinned (OpenSpec.upto engineChecksSpec)

/-- 'shoeboxlaw09.EngineOrders', WHERE WHAT IT READS IS OF BULK AT MOST 1048576: true; the input reads as it did. -/
def engineOrdersUptoRow : OpenClaim := { program := "ytigliehhpdpaoaagreat", sum := "7c4cdfcb5f4aa0ec9e26bc61c2c527c995dd41249de9fbbe0fa237b3b0d63815", func := "shoebox/shoeboxlaw09.EngineOrders", spec := "engineOrders", unfollowed := true, recurses := true, apart := false, narrowed := true }
def EngineOrdersUptoSaid : Prop := engineOrdersUptoRow.holds Tryz.pinned (OpenSpec.upto engineOrdersSpec)

/-- 'shoeboxlaw09.EngineLatencies', WHERE WHAT IT READS IS OF BULK AT MOST 1048576: true; the input reads as it did. -/
def engineLatenciesUptoRow : OpenClaim := { program := "ytigliehhpdpaoaagreat", sum := "7c4cdfcb5f4aa0ec9e26bc61c2c527c995dd41249de9fbbe0fa237b3b0d63815", func := "shoebox/shoeboxlaw09.EngineLatencies", spec := "engineLatencies", unfollowed := true, recurses := true, apart := false, narrowed := true }
def EngineLatenciesUptoSaid : Prop := engineLatenciesUptoRow.holds Tryz.pinned (OpenSpec.upto engineLatenciesSpec)

/-- 'shoeboxlaw09.EngineWays', WHERE WHAT IT READS IS OF BULK AT MOST 1048576: true; the input reads as it did. -/
def engineWaysUptoRow : OpenClaim := { program := "ytigliehhpdpaoaagreat", sum := "7c4cdfcb5f4aa0ec9e26bc61c2c527c995dd41249de9fbbe0fa237b3b0d63815", func := "shoebox/shoeboxlaw09.EngineWays", spec := "engineWays", unfollowed := true, recurses := true, apart := false, narrowed := true }
def EngineWaysUptoSaid : Prop := engineWaysUptoRow.holds Tryz.pinned (OpenSpec.upto engineWaysSpec)

/-- 'shoeboxlaw09.EngineUnequal', WHERE WHAT IT READS IS OF BULK AT MOST 1048576: true; the input reads as it did. -/
def engineUnequalUptoRow : OpenClaim := { program := "ytigliehhpdpaoaagreat", sum := "7c4cdfcb5f4aa0ec9e26bc61c2c527c995dd41249de9fbbe0fa237b3b0d63815", func := "shoebox/shoeboxlaw09.EngineUnequal", spec := "engineUnequal", unfollowed := true, recurses := true, apart := false, narrowed := true }
def EngineUnequalUptoSaid : Prop := engineUnequalUptoRow.holds Tryz.pinned (OpenSpec.upto engineUnequalSpec)

/-- 'shoeboxlaw09.EngineCompensates', WHERE WHAT IT READS IS OF BULK AT MOST 1048576: true; the input reads as it did. -/
def engineCompensatesUptoRow : OpenClaim := { program := "ytigliehhpdpaoaagreat", sum := "7c4cdfcb5f4aa0ec9e26bc61c2c527c995dd41249de9fbbe0fa237b3b0d63815", func := "shoebox/shoeboxlaw09.EngineCompensates", spec := "engineCompensates", unfollowed := true, recurses := true, apart := false, narrowed := true }
def EngineCompensatesUptoSaid : Prop := engineCompensatesUptoRow.holds Tryz.pinned (OpenSpec.upto engineCompensatesSpec)

/-- 'shoeboxlaw09.EngineFaults', WHERE WHAT IT READS IS OF BULK AT MOST 1048576: true; the input reads as it did. -/
def engineFaultsUptoRow : OpenClaim := { program := "ytigliehhpdpaoaagreat", sum := "7c4cdfcb5f4aa0ec9e26bc61c2c527c995dd41249de9fbbe0fa237b3b0d63815", func := "shoebox/shoeboxlaw09.EngineFaults", spec := "engineFaults", unfollowed := true, recurses := true, apart := false, narrowed := true }
def EngineFaultsUptoSaid : Prop := engineFaultsUptoRow.holds Tryz.pinned (OpenSpec.upto engineFaultsSpec)

/-- 'shoeboxlaw09.EngineWeak', WHERE WHAT IT READS IS OF BULK AT MOST 1048576: true; the input reads as it did. -/
def engineWeakUptoRow : OpenClaim := { program := "ytigliehhpdpaoaagreat", sum := "7c4cdfcb5f4aa0ec9e26bc61c2c527c995dd41249de9fbbe0fa237b3b0d63815", func := "shoebox/shoeboxlaw09.EngineWeak", spec := "engineWeak", unfollowed := true, recurses := true, apart := false, narrowed := true }
def EngineWeakUptoSaid : Prop := engineWeakUptoRow.holds Tryz.pinned (OpenSpec.upto engineWeakSpec)

/-- 'shoeboxlaw09.EngineSteps', WHERE WHAT IT READS IS OF BULK AT MOST 1048576: true; the input reads as it did. -/
def engineStepsUptoRow : OpenClaim := { program := "ytigliehhpdpaoaagreat", sum := "7c4cdfcb5f4aa0ec9e26bc61c2c527c995dd41249de9fbbe0fa237b3b0d63815", func := "shoebox/shoeboxlaw09.EngineSteps", spec := "engineSteps", inPlace := ["math.Float32bits"], unfollowed := true, recurses := true, apart := false, narrowed := true }
def EngineStepsUptoSaid : Prop := engineStepsUptoRow.holds Tryz.pinned (OpenSpec.upto engineStepsSpec)

/-- 'shoeboxlaw09.EngineRuns', WHERE WHAT IT READS IS OF BULK AT MOST 1048576: true; the input reads as it did. -/
def engineRunsUptoRow : OpenClaim := { program := "ytigliehhpdpaoaagreat", sum := "7c4cdfcb5f4aa0ec9e26bc61c2c527c995dd41249de9fbbe0fa237b3b0d63815", func := "shoebox/shoeboxlaw09.EngineRuns", spec := "engineRuns", inPlace := ["math.Float32bits"], unfollowed := true, recurses := true, apart := false, narrowed := true }
def EngineRunsUptoSaid : Prop := engineRunsUptoRow.holds Tryz.pinned (OpenSpec.upto engineRunsSpec)

/-- 'shoeboxlaw09.EngineLate', WHERE WHAT IT READS IS OF BULK AT MOST 1048576: true; the input reads as it did. -/
def engineLateUptoRow : OpenClaim := { program := "ytigliehhpdpaoaagreat", sum := "7c4cdfcb5f4aa0ec9e26bc61c2c527c995dd41249de9fbbe0fa237b3b0d63815", func := "shoebox/shoeboxlaw09.EngineLate", spec := "engineLate", inPlace := ["math.Float32bits"], unfollowed := true, recurses := true, apart := false, narrowed := true }
def EngineLateUptoSaid : Prop := engineLateUptoRow.holds Tryz.pinned (OpenSpec.upto engineLateSpec)

/-- 'shoeboxlaw09.EngineBlocks', WHERE WHAT IT READS IS OF BULK AT MOST 1048576: true; the input reads as it did. -/
def engineBlocksUptoRow : OpenClaim := { program := "ytigliehhpdpaoaagreat", sum := "7c4cdfcb5f4aa0ec9e26bc61c2c527c995dd41249de9fbbe0fa237b3b0d63815", func := "shoebox/shoeboxlaw09.EngineBlocks", spec := "engineBlocks", inPlace := ["math.Float32bits"], unfollowed := true, recurses := true, apart := false, narrowed := true }
def EngineBlocksUptoSaid : Prop := engineBlocksUptoRow.holds Tryz.pinned (OpenSpec.upto engineBlocksSpec)

/-- 'shoeboxtop.TopEqualLatency', WHERE WHAT IT READS IS OF BULK AT MOST 1048576: true; the input reads as it did. -/
def topEqualLatencyUptoRow : OpenClaim := { program := "ytigliehhpdpaoaagreat", sum := "7c4cdfcb5f4aa0ec9e26bc61c2c527c995dd41249de9fbbe0fa237b3b0d63815", func := "shoebox/shoeboxtop.TopEqualLatency", spec := "topEqualLatency", unfollowed := true, recurses := true, apart := false, narrowed := true }
def TopEqualLatencyUptoSaid : Prop := topEqualLatencyUptoRow.holds Tryz.pinned (OpenSpec.upto topEqualLatencySpec)

end Rows
end Go.Proofs.YtigliehhpdpaoaaGreat
