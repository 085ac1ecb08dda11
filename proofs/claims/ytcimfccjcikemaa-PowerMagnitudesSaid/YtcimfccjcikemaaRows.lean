/-
  No cell of these rows narrows 'for every input' (looked for: loops, veiled, ifaces, maps, wideKeys, modest, calm, conditions, laid).
  DERIVED. THE GIVEN ROWS OF THIS SEAT. 10 by the template 'for every input the law returns true; each argument reads behind the call as it read before'; 0 by the template 'total and deterministic' (their statements: YtcimfccjcikemaaTotals.lean).
  GIVEN WITH THE SEED: the statements are not yours to turn. If you find one false, say at which input.
  Laid BY PROGRAM, IN A SANDBOX (cutbox-rows.mjs): the forced cells as the released guide's own fill.sh prints them over the translation c612e8a1bfe8f408… (all of the seat's roots in one cut). By AI agents, Wed Nov 11 2026. No macro, syntax, notation, axiom, sorry.
-/
import Derived.Test.YtcimfccjcikemaaChecked
import GoSem.Claim
import GoSem.ClaimJoined
import GoSem.ClaimMapViews
import Derived.JoinedTies
import Derived.KernelRfl
namespace Go.Proofs.Ytcimfccjcikemaa
/- THE CELL 'sum', in the pinned program and in every row, IS THE sha256 OF THE DUMP (.gsa) THAT YtcimfccjcikemaaProg.lean LOADS. Nothing in Lean hashes anything: it is a label: what it is worth is what the hold of that sum in a sandbox is worth. -/
noncomputable def Try.pinned : Pinned := { name := "ytcimfccjcikemaa", sum := "c612e8a1bfe8f4089239a3f14fe831f4f0698d10c39a38d433ee8f2d12f9253f", checked := Try.checked }
namespace Rows
def none {H : Type} : Left H := { results := [], args := [] }

/-- 'vergelaw6.IvalMakes': WHATEVER THE INPUT: true; the input reads as it did. -/
def ivalMakesSpec : ChangeSpec := { name := "ivalMakes", fn := fun _ => fun
  | [d] => { results := [.lit (.bool true)], args := [d] }
  | _ => none }
def ivalMakesRow : OpenClaim := { program := "ytcimfccjcikemaa", sum := "c612e8a1bfe8f4089239a3f14fe831f4f0698d10c39a38d433ee8f2d12f9253f", func := "verge/vergelaw6.IvalMakes", spec := "ivalMakes", inPlace := ["math.Float64frombits", "math.Float64bits"], apart := false }
def IvalMakesSaid : Prop := ivalMakesRow.holds Try.pinned (OpenSpec.ofChange ivalMakesSpec)

/-- ITS FALSE NEIGHBOUR: 'it returns false'. Refute it at one input. -/
def ivalMakesWrong : ChangeSpec := { name := "ivalMakes", fn := fun _ => fun
  | [d] => { results := [.lit (.bool false)], args := [d] }
  | _ => none }
def IvalMakesWrongFalsely : Prop := ivalMakesRow.holds Try.pinned (OpenSpec.ofChange ivalMakesWrong)

/-- 'vergelaw6.IvalReads': WHATEVER THE INPUT: true; the input reads as it did. -/
def ivalReadsSpec : ChangeSpec := { name := "ivalReads", fn := fun _ => fun
  | [d] => { results := [.lit (.bool true)], args := [d] }
  | _ => none }
def ivalReadsRow : OpenClaim := { program := "ytcimfccjcikemaa", sum := "c612e8a1bfe8f4089239a3f14fe831f4f0698d10c39a38d433ee8f2d12f9253f", func := "verge/vergelaw6.IvalReads", spec := "ivalReads", inPlace := ["math.Float64frombits", "math.Float64bits"], apart := false }
def IvalReadsSaid : Prop := ivalReadsRow.holds Try.pinned (OpenSpec.ofChange ivalReadsSpec)

/-- ITS FALSE NEIGHBOUR: 'it returns false'. Refute it at one input. -/
def ivalReadsWrong : ChangeSpec := { name := "ivalReads", fn := fun _ => fun
  | [d] => { results := [.lit (.bool false)], args := [d] }
  | _ => none }
def IvalReadsWrongFalsely : Prop := ivalReadsRow.holds Try.pinned (OpenSpec.ofChange ivalReadsWrong)

/-- 'vergelaw6.IvalNegates': WHATEVER THE INPUT: true; the input reads as it did. -/
def ivalNegatesSpec : ChangeSpec := { name := "ivalNegates", fn := fun _ => fun
  | [d] => { results := [.lit (.bool true)], args := [d] }
  | _ => none }
def ivalNegatesRow : OpenClaim := { program := "ytcimfccjcikemaa", sum := "c612e8a1bfe8f4089239a3f14fe831f4f0698d10c39a38d433ee8f2d12f9253f", func := "verge/vergelaw6.IvalNegates", spec := "ivalNegates", inPlace := ["math.Float64frombits", "math.Float64bits"], apart := false }
def IvalNegatesSaid : Prop := ivalNegatesRow.holds Try.pinned (OpenSpec.ofChange ivalNegatesSpec)

/-- ITS FALSE NEIGHBOUR: 'it returns false'. Refute it at one input. -/
def ivalNegatesWrong : ChangeSpec := { name := "ivalNegates", fn := fun _ => fun
  | [d] => { results := [.lit (.bool false)], args := [d] }
  | _ => none }
def IvalNegatesWrongFalsely : Prop := ivalNegatesRow.holds Try.pinned (OpenSpec.ofChange ivalNegatesWrong)

/-- 'vergelaw7.PowerMagnitudes': WHATEVER THE INPUT: true; the input reads as it did. -/
def powerMagnitudesSpec : ChangeSpec := { name := "powerMagnitudes", fn := fun _ => fun
  | [d1, d2] => { results := [.lit (.bool true)], args := [d1, d2] }
  | _ => none }
def powerMagnitudesRow : OpenClaim := { program := "ytcimfccjcikemaa", sum := "c612e8a1bfe8f4089239a3f14fe831f4f0698d10c39a38d433ee8f2d12f9253f", func := "verge/vergelaw7.PowerMagnitudes", spec := "powerMagnitudes", inPlace := ["math.Float64frombits", "math.Float64bits"], apart := false }
def PowerMagnitudesSaid : Prop := powerMagnitudesRow.holds Try.pinned (OpenSpec.ofChange powerMagnitudesSpec)

/-- ITS FALSE NEIGHBOUR: 'it returns false'. Refute it at one input. -/
def powerMagnitudesWrong : ChangeSpec := { name := "powerMagnitudes", fn := fun _ => fun
  | [d1, d2] => { results := [.lit (.bool false)], args := [d1, d2] }
  | _ => none }
def PowerMagnitudesWrongFalsely : Prop := powerMagnitudesRow.holds Try.pinned (OpenSpec.ofChange powerMagnitudesWrong)

/-- 'vergelaw7.PowerSteps': WHATEVER THE INPUT: true; the input reads as it did. -/
def powerStepsSpec : ChangeSpec := { name := "powerSteps", fn := fun _ => fun
  | [d] => { results := [.lit (.bool true)], args := [d] }
  | _ => none }
def powerStepsRow : OpenClaim := { program := "ytcimfccjcikemaa", sum := "c612e8a1bfe8f4089239a3f14fe831f4f0698d10c39a38d433ee8f2d12f9253f", func := "verge/vergelaw7.PowerSteps", spec := "powerSteps", inPlace := ["math.Float64frombits", "math.archFloor", "math.Float64bits", "math.archTrunc", "math.archCeil", "math.RoundToEven"], unfollowed := true, recurses := true, apart := false }
def PowerStepsSaid : Prop := powerStepsRow.holds Try.pinned (OpenSpec.ofChange powerStepsSpec)

/-- ITS FALSE NEIGHBOUR: 'it returns false'. Refute it at one input. -/
def powerStepsWrong : ChangeSpec := { name := "powerSteps", fn := fun _ => fun
  | [d] => { results := [.lit (.bool false)], args := [d] }
  | _ => none }
def PowerStepsWrongFalsely : Prop := powerStepsRow.holds Try.pinned (OpenSpec.ofChange powerStepsWrong)

/-- 'vergelaw6.IvalSquares': WHATEVER THE INPUT: true; the input reads as it did. -/
def ivalSquaresSpec : ChangeSpec := { name := "ivalSquares", fn := fun _ => fun
  | [d] => { results := [.lit (.bool true)], args := [d] }
  | _ => none }
def ivalSquaresRow : OpenClaim := { program := "ytcimfccjcikemaa", sum := "c612e8a1bfe8f4089239a3f14fe831f4f0698d10c39a38d433ee8f2d12f9253f", func := "verge/vergelaw6.IvalSquares", spec := "ivalSquares", inPlace := ["math.Float64frombits", "math.Float64bits"], apart := false }
def IvalSquaresSaid : Prop := ivalSquaresRow.holds Try.pinned (OpenSpec.ofChange ivalSquaresSpec)

/-- ITS FALSE NEIGHBOUR: 'it returns false'. Refute it at one input. -/
def ivalSquaresWrong : ChangeSpec := { name := "ivalSquares", fn := fun _ => fun
  | [d] => { results := [.lit (.bool false)], args := [d] }
  | _ => none }
def IvalSquaresWrongFalsely : Prop := ivalSquaresRow.holds Try.pinned (OpenSpec.ofChange ivalSquaresWrong)

/-- 'vergelaw6.IvalAdds': WHATEVER THE INPUT: true; the input reads as it did. -/
def ivalAddsSpec : ChangeSpec := { name := "ivalAdds", fn := fun _ => fun
  | [d1, d2] => { results := [.lit (.bool true)], args := [d1, d2] }
  | _ => none }
def ivalAddsRow : OpenClaim := { program := "ytcimfccjcikemaa", sum := "c612e8a1bfe8f4089239a3f14fe831f4f0698d10c39a38d433ee8f2d12f9253f", func := "verge/vergelaw6.IvalAdds", spec := "ivalAdds", inPlace := ["math.Float64frombits", "math.Float64bits"], apart := false }
def IvalAddsSaid : Prop := ivalAddsRow.holds Try.pinned (OpenSpec.ofChange ivalAddsSpec)

/-- ITS FALSE NEIGHBOUR: 'it returns false'. Refute it at one input. -/
def ivalAddsWrong : ChangeSpec := { name := "ivalAdds", fn := fun _ => fun
  | [d1, d2] => { results := [.lit (.bool false)], args := [d1, d2] }
  | _ => none }
def IvalAddsWrongFalsely : Prop := ivalAddsRow.holds Try.pinned (OpenSpec.ofChange ivalAddsWrong)

/-- 'vergelaw6.IvalSubtracts': WHATEVER THE INPUT: true; the input reads as it did. -/
def ivalSubtractsSpec : ChangeSpec := { name := "ivalSubtracts", fn := fun _ => fun
  | [d1, d2] => { results := [.lit (.bool true)], args := [d1, d2] }
  | _ => none }
def ivalSubtractsRow : OpenClaim := { program := "ytcimfccjcikemaa", sum := "c612e8a1bfe8f4089239a3f14fe831f4f0698d10c39a38d433ee8f2d12f9253f", func := "verge/vergelaw6.IvalSubtracts", spec := "ivalSubtracts", inPlace := ["math.Float64frombits", "math.Float64bits"], apart := false }
def IvalSubtractsSaid : Prop := ivalSubtractsRow.holds Try.pinned (OpenSpec.ofChange ivalSubtractsSpec)

/-- ITS FALSE NEIGHBOUR: 'it returns false'. Refute it at one input. -/
def ivalSubtractsWrong : ChangeSpec := { name := "ivalSubtracts", fn := fun _ => fun
  | [d1, d2] => { results := [.lit (.bool false)], args := [d1, d2] }
  | _ => none }
def IvalSubtractsWrongFalsely : Prop := ivalSubtractsRow.holds Try.pinned (OpenSpec.ofChange ivalSubtractsWrong)

/-- 'vergelaw6.IvalRoots': WHATEVER THE INPUT: true; the input reads as it did. -/
def ivalRootsSpec : ChangeSpec := { name := "ivalRoots", fn := fun _ => fun
  | [d] => { results := [.lit (.bool true)], args := [d] }
  | _ => none }
def ivalRootsRow : OpenClaim := { program := "ytcimfccjcikemaa", sum := "c612e8a1bfe8f4089239a3f14fe831f4f0698d10c39a38d433ee8f2d12f9253f", func := "verge/vergelaw6.IvalRoots", spec := "ivalRoots", inPlace := ["math.Float64frombits", "math.Float64bits", "math.sqrt"], recurses := true, apart := false }
def IvalRootsSaid : Prop := ivalRootsRow.holds Try.pinned (OpenSpec.ofChange ivalRootsSpec)

/-- ITS FALSE NEIGHBOUR: 'it returns false'. Refute it at one input. -/
def ivalRootsWrong : ChangeSpec := { name := "ivalRoots", fn := fun _ => fun
  | [d] => { results := [.lit (.bool false)], args := [d] }
  | _ => none }
def IvalRootsWrongFalsely : Prop := ivalRootsRow.holds Try.pinned (OpenSpec.ofChange ivalRootsWrong)

/-- 'vergelaw6.IvalHoldsRoots': WHATEVER THE INPUT: true; the input reads as it did. -/
def ivalHoldsRootsSpec : ChangeSpec := { name := "ivalHoldsRoots", fn := fun _ => fun
  | [d] => { results := [.lit (.bool true)], args := [d] }
  | _ => none }
def ivalHoldsRootsRow : OpenClaim := { program := "ytcimfccjcikemaa", sum := "c612e8a1bfe8f4089239a3f14fe831f4f0698d10c39a38d433ee8f2d12f9253f", func := "verge/vergelaw6.IvalHoldsRoots", spec := "ivalHoldsRoots", inPlace := ["math.Float64frombits", "math.Float64bits", "math.sqrt"], recurses := true, apart := false }
def IvalHoldsRootsSaid : Prop := ivalHoldsRootsRow.holds Try.pinned (OpenSpec.ofChange ivalHoldsRootsSpec)

/-- ITS FALSE NEIGHBOUR: 'it returns false'. Refute it at one input. -/
def ivalHoldsRootsWrong : ChangeSpec := { name := "ivalHoldsRoots", fn := fun _ => fun
  | [d] => { results := [.lit (.bool false)], args := [d] }
  | _ => none }
def IvalHoldsRootsWrongFalsely : Prop := ivalHoldsRootsRow.holds Try.pinned (OpenSpec.ofChange ivalHoldsRootsWrong)

/- THE SECOND FORM. 'bulk': how many values and letters a reading holds, each counted each time it is reached (what is shared counts as often as it is met; a slice's spare places count too). A statement '..UptoSaid' is the law's where the arguments, and the package variables that the reading takes, are together of bulk at most 1048576: NARROWER than '..Said'. Prove '..Said' where nothing that the law and all that it calls make is longer than what came in: it says more and counts as full. Else prove '..UptoSaid'. A law counts once. -/
mutual
def uptoBulk {H : Type} : DataW H → Nat
  | .lit (.string bytes) => bytes.length + 1
  | .lit _ => 1
  | .nil => 1
  | .ptr d => uptoBulk d + 1
  | .slice elems spare => uptoBulkAll elems + uptoBulkAll spare + 1
  | .agg parts => uptoBulkAll parts + 1
  | .iface _ d => uptoBulk d + 1
  | .map entries => uptoBulkEntries entries + 1
  | .held _ => 1
def uptoBulkAll {H : Type} : List (DataW H) → Nat
  | [] => 0
  | d :: r => uptoBulk d + uptoBulkAll r
def uptoBulkEntries {H : Type} : List (Lit × DataW H) → Nat
  | [] => 0
  | x :: r => uptoBulkEntry x + uptoBulkEntries r
def uptoBulkEntry {H : Type} : Lit × DataW H → Nat
  | (.string bytes, d) => bytes.length + uptoBulk d + 1
  | (_, d) => uptoBulk d + 1
 end
def uptoSmall : (H : Type) → List (DataW H) → Bool := fun _ ds => decide (uptoBulkAll ds ≤ 1048576)
def OpenSpec.upto (s : _root_.Go.ChangeSpec) : _root_.Go.OpenSpec := { _root_.Go.OpenSpec.ofChange s with cond := some uptoSmall }

/-- 'vergelaw6.IvalMakes', WHERE WHAT IT READS IS OF BULK AT MOST 1048576: true; the input reads as it did. -/
def ivalMakesUptoRow : OpenClaim := { program := "ytcimfccjcikemaa", sum := "c612e8a1bfe8f4089239a3f14fe831f4f0698d10c39a38d433ee8f2d12f9253f", func := "verge/vergelaw6.IvalMakes", spec := "ivalMakes", inPlace := ["math.Float64frombits", "math.Float64bits"], apart := false, narrowed := true }
def IvalMakesUptoSaid : Prop := ivalMakesUptoRow.holds Try.pinned (OpenSpec.upto ivalMakesSpec)

/-- 'vergelaw6.IvalReads', WHERE WHAT IT READS IS OF BULK AT MOST 1048576: true; the input reads as it did. -/
def ivalReadsUptoRow : OpenClaim := { program := "ytcimfccjcikemaa", sum := "c612e8a1bfe8f4089239a3f14fe831f4f0698d10c39a38d433ee8f2d12f9253f", func := "verge/vergelaw6.IvalReads", spec := "ivalReads", inPlace := ["math.Float64frombits", "math.Float64bits"], apart := false, narrowed := true }
def IvalReadsUptoSaid : Prop := ivalReadsUptoRow.holds Try.pinned (OpenSpec.upto ivalReadsSpec)

/-- 'vergelaw6.IvalNegates', WHERE WHAT IT READS IS OF BULK AT MOST 1048576: true; the input reads as it did. -/
def ivalNegatesUptoRow : OpenClaim := { program := "ytcimfccjcikemaa", sum := "c612e8a1bfe8f4089239a3f14fe831f4f0698d10c39a38d433ee8f2d12f9253f", func := "verge/vergelaw6.IvalNegates", spec := "ivalNegates", inPlace := ["math.Float64frombits", "math.Float64bits"], apart := false, narrowed := true }
def IvalNegatesUptoSaid : Prop := ivalNegatesUptoRow.holds Try.pinned (OpenSpec.upto ivalNegatesSpec)

/-- 'vergelaw7.PowerMagnitudes', WHERE WHAT IT READS IS OF BULK AT MOST 1048576: true; the input reads as it did. -/
def powerMagnitudesUptoRow : OpenClaim := { program := "ytcimfccjcikemaa", sum := "c612e8a1bfe8f4089239a3f14fe831f4f0698d10c39a38d433ee8f2d12f9253f", func := "verge/vergelaw7.PowerMagnitudes", spec := "powerMagnitudes", inPlace := ["math.Float64frombits", "math.Float64bits"], apart := false, narrowed := true }
def PowerMagnitudesUptoSaid : Prop := powerMagnitudesUptoRow.holds Try.pinned (OpenSpec.upto powerMagnitudesSpec)

/-- 'vergelaw7.PowerSteps', WHERE WHAT IT READS IS OF BULK AT MOST 1048576: true; the input reads as it did. -/
def powerStepsUptoRow : OpenClaim := { program := "ytcimfccjcikemaa", sum := "c612e8a1bfe8f4089239a3f14fe831f4f0698d10c39a38d433ee8f2d12f9253f", func := "verge/vergelaw7.PowerSteps", spec := "powerSteps", inPlace := ["math.Float64frombits", "math.archFloor", "math.Float64bits", "math.archTrunc", "math.archCeil", "math.RoundToEven"], unfollowed := true, recurses := true, apart := false, narrowed := true }
def PowerStepsUptoSaid : Prop := powerStepsUptoRow.holds Try.pinned (OpenSpec.upto powerStepsSpec)

/-- 'vergelaw6.IvalSquares', WHERE WHAT IT READS IS OF BULK AT MOST 1048576: true; the input reads as it did. -/
def ivalSquaresUptoRow : OpenClaim := { program := "ytcimfccjcikemaa", sum := "c612e8a1bfe8f4089239a3f14fe831f4f0698d10c39a38d433ee8f2d12f9253f", func := "verge/vergelaw6.IvalSquares", spec := "ivalSquares", inPlace := ["math.Float64frombits", "math.Float64bits"], apart := false, narrowed := true }
def IvalSquaresUptoSaid : Prop := ivalSquaresUptoRow.holds Try.pinned (OpenSpec.upto ivalSquaresSpec)

/-- 'vergelaw6.IvalAdds', WHERE WHAT IT READS IS OF BULK AT MOST 1048576: true; the input reads as it did. -/
def ivalAddsUptoRow : OpenClaim := { program := "ytcimfccjcikemaa", sum := "c612e8a1bfe8f4089239a3f14fe831f4f0698d10c39a38d433ee8f2d12f9253f", func := "verge/vergelaw6.IvalAdds", spec := "ivalAdds", inPlace := ["math.Float64frombits", "math.Float64bits"], apart := false, narrowed := true }
def IvalAddsUptoSaid : Prop := ivalAddsUptoRow.holds Try.pinned (OpenSpec.upto ivalAddsSpec)

/-- 'vergelaw6.IvalSubtracts', WHERE WHAT IT READS IS OF BULK AT MOST 1048576: true; the input reads as it did. -/
def ivalSubtractsUptoRow : OpenClaim := { program := "ytcimfccjcikemaa", sum := "c612e8a1bfe8f4089239a3f14fe831f4f0698d10c39a38d433ee8f2d12f9253f", func := "verge/vergelaw6.IvalSubtracts", spec := "ivalSubtracts", inPlace := ["math.Float64frombits", "math.Float64bits"], apart := false, narrowed := true }
def IvalSubtractsUptoSaid : Prop := ivalSubtractsUptoRow.holds Try.pinned (OpenSpec.upto ivalSubtractsSpec)

/-- 'vergelaw6.IvalRoots', WHERE WHAT IT READS IS OF BULK AT MOST 1048576: true; the input reads as it did. -/
def ivalRootsUptoRow : OpenClaim := { program := "ytcimfccjcikemaa", sum := "c612e8a1bfe8f4089239a3f14fe831f4f0698d10c39a38d433ee8f2d12f9253f", func := "verge/vergelaw6.IvalRoots", spec := "ivalRoots", inPlace := ["math.Float64frombits", "math.Float64bits", "math.sqrt"], recurses := true, apart := false, narrowed := true }
def IvalRootsUptoSaid : Prop := ivalRootsUptoRow.holds Try.pinned (OpenSpec.upto ivalRootsSpec)

/-- 'vergelaw6.IvalHoldsRoots', WHERE WHAT IT READS IS OF BULK AT MOST 1048576: true; the input reads as it did. -/
def ivalHoldsRootsUptoRow : OpenClaim := { program := "ytcimfccjcikemaa", sum := "c612e8a1bfe8f4089239a3f14fe831f4f0698d10c39a38d433ee8f2d12f9253f", func := "verge/vergelaw6.IvalHoldsRoots", spec := "ivalHoldsRoots", inPlace := ["math.Float64frombits", "math.Float64bits", "math.sqrt"], recurses := true, apart := false, narrowed := true }
def IvalHoldsRootsUptoSaid : Prop := ivalHoldsRootsUptoRow.holds Try.pinned (OpenSpec.upto ivalHoldsRootsSpec)

end Rows
end Go.Proofs.Ytcimfccjcikemaa
