/-
  No cell of these rows narrows 'for every input' (looked for: loops, veiled, ifaces, maps, wideKeys, modest, calm, conditions, laid).
  DERIVED. THE GIVEN ROWS OF THIS SEAT. 7 by the template 'for every input the law returns true; each argument reads behind the call as it read before'; 0 by the template 'total and deterministic' (their statements: YtmcfflecaklpcaaTotals.lean).
  GIVEN WITH THE SEED: the statements are not yours to turn. If you find one false, say at which input.
  Laid BY PROGRAM, IN A SANDBOX (cutbox-rows.mjs): the forced cells as the released guide's own fill.sh prints them over the translation 3c0f2dbd6c6da10a… (all of the seat's roots in one cut). By AI agents, Wed Nov 11 2026. No macro, syntax, notation, axiom, sorry.
-/
import Derived.Test.YtmcfflecaklpcaaChecked
import GoSem.Claim
import GoSem.ClaimJoined
import GoSem.ClaimMapViews
import Derived.JoinedTies
import Derived.KernelRfl
namespace Go.Proofs.Ytmcfflecaklpcaa
/- THE CELL 'sum', in the pinned program and in every row, IS THE sha256 OF THE DUMP (.gsa) THAT YtmcfflecaklpcaaProg.lean LOADS. Nothing in Lean hashes anything: it is a label: what it is worth is what the hold of that sum in a sandbox is worth. -/
noncomputable def Try.pinned : Pinned := { name := "ytmcfflecaklpcaa", sum := "3c0f2dbd6c6da10ae2a2276d2e7f52d20a988add8e7d68fa38ef8e457b7f8c3f", checked := Try.checked }
namespace Rows
def none {H : Type} : Left H := { results := [], args := [] }

/-- 'vergelaw3.RoundRoots': WHATEVER THE INPUT: true; the input reads as it did. -/
def roundRootsSpec : ChangeSpec := { name := "roundRoots", fn := fun _ => fun
  | [d1, d2, d3] => { results := [.lit (.bool true)], args := [d1, d2, d3] }
  | _ => none }
def roundRootsRow : OpenClaim := { program := "ytmcfflecaklpcaa", sum := "3c0f2dbd6c6da10ae2a2276d2e7f52d20a988add8e7d68fa38ef8e457b7f8c3f", func := "verge/vergelaw3.RoundRoots", spec := "roundRoots", inPlace := ["math.Float64frombits", "math.Float64bits"], recurses := true, apart := false }
def RoundRootsSaid : Prop := roundRootsRow.holds Try.pinned (OpenSpec.ofChange roundRootsSpec)

/-- ITS FALSE NEIGHBOUR: 'it returns false'. Refute it at one input. -/
def roundRootsWrong : ChangeSpec := { name := "roundRoots", fn := fun _ => fun
  | [d1, d2, d3] => { results := [.lit (.bool false)], args := [d1, d2, d3] }
  | _ => none }
def RoundRootsWrongFalsely : Prop := roundRootsRow.holds Try.pinned (OpenSpec.ofChange roundRootsWrong)

/-- 'vergelaw3.RoundSquareRoots': WHATEVER THE INPUT: true; the input reads as it did. -/
def roundSquareRootsSpec : ChangeSpec := { name := "roundSquareRoots", fn := fun _ => fun
  | [d1, d2] => { results := [.lit (.bool true)], args := [d1, d2] }
  | _ => none }
def roundSquareRootsRow : OpenClaim := { program := "ytmcfflecaklpcaa", sum := "3c0f2dbd6c6da10ae2a2276d2e7f52d20a988add8e7d68fa38ef8e457b7f8c3f", func := "verge/vergelaw3.RoundSquareRoots", spec := "roundSquareRoots", inPlace := ["math.Float64frombits", "math.Float64bits", "math.sqrt"], recurses := true, apart := false }
def RoundSquareRootsSaid : Prop := roundSquareRootsRow.holds Try.pinned (OpenSpec.ofChange roundSquareRootsSpec)

/-- ITS FALSE NEIGHBOUR: 'it returns false'. Refute it at one input. -/
def roundSquareRootsWrong : ChangeSpec := { name := "roundSquareRoots", fn := fun _ => fun
  | [d1, d2] => { results := [.lit (.bool false)], args := [d1, d2] }
  | _ => none }
def RoundSquareRootsWrongFalsely : Prop := roundSquareRootsRow.holds Try.pinned (OpenSpec.ofChange roundSquareRootsWrong)

/-- 'vergelaw3.RoundTightRoots': WHATEVER THE INPUT: true; the input reads as it did. -/
def roundTightRootsSpec : ChangeSpec := { name := "roundTightRoots", fn := fun _ => fun
  | [d1, d2] => { results := [.lit (.bool true)], args := [d1, d2] }
  | _ => none }
def roundTightRootsRow : OpenClaim := { program := "ytmcfflecaklpcaa", sum := "3c0f2dbd6c6da10ae2a2276d2e7f52d20a988add8e7d68fa38ef8e457b7f8c3f", func := "verge/vergelaw3.RoundTightRoots", spec := "roundTightRoots", inPlace := ["math.Float64frombits", "math.Float64bits", "math.sqrt"], recurses := true, apart := false }
def RoundTightRootsSaid : Prop := roundTightRootsRow.holds Try.pinned (OpenSpec.ofChange roundTightRootsSpec)

/-- ITS FALSE NEIGHBOUR: 'it returns false'. Refute it at one input. -/
def roundTightRootsWrong : ChangeSpec := { name := "roundTightRoots", fn := fun _ => fun
  | [d1, d2] => { results := [.lit (.bool false)], args := [d1, d2] }
  | _ => none }
def RoundTightRootsWrongFalsely : Prop := roundTightRootsRow.holds Try.pinned (OpenSpec.ofChange roundTightRootsWrong)

/-- 'vergelaw3.RoundTight': WHATEVER THE INPUT: true; the input reads as it did. -/
def roundTightSpec : ChangeSpec := { name := "roundTight", fn := fun _ => fun
  | [d] => { results := [.lit (.bool true)], args := [d] }
  | _ => none }
def roundTightRow : OpenClaim := { program := "ytmcfflecaklpcaa", sum := "3c0f2dbd6c6da10ae2a2276d2e7f52d20a988add8e7d68fa38ef8e457b7f8c3f", func := "verge/vergelaw3.RoundTight", spec := "roundTight", inPlace := ["math.Float64frombits", "math.Float64bits", "math.sqrt"], recurses := true, apart := false }
def RoundTightSaid : Prop := roundTightRow.holds Try.pinned (OpenSpec.ofChange roundTightSpec)

/-- ITS FALSE NEIGHBOUR: 'it returns false'. Refute it at one input. -/
def roundTightWrong : ChangeSpec := { name := "roundTight", fn := fun _ => fun
  | [d] => { results := [.lit (.bool false)], args := [d] }
  | _ => none }
def RoundTightWrongFalsely : Prop := roundTightRow.holds Try.pinned (OpenSpec.ofChange roundTightWrong)

/-- 'vergelaw6.IvalRoots': WHATEVER THE INPUT: true; the input reads as it did. -/
def ivalRootsSpec : ChangeSpec := { name := "ivalRoots", fn := fun _ => fun
  | [d] => { results := [.lit (.bool true)], args := [d] }
  | _ => none }
def ivalRootsRow : OpenClaim := { program := "ytmcfflecaklpcaa", sum := "3c0f2dbd6c6da10ae2a2276d2e7f52d20a988add8e7d68fa38ef8e457b7f8c3f", func := "verge/vergelaw6.IvalRoots", spec := "ivalRoots", inPlace := ["math.Float64frombits", "math.Float64bits", "math.sqrt"], recurses := true, apart := false }
def IvalRootsSaid : Prop := ivalRootsRow.holds Try.pinned (OpenSpec.ofChange ivalRootsSpec)

/-- ITS FALSE NEIGHBOUR: 'it returns false'. Refute it at one input. -/
def ivalRootsWrong : ChangeSpec := { name := "ivalRoots", fn := fun _ => fun
  | [d] => { results := [.lit (.bool false)], args := [d] }
  | _ => none }
def IvalRootsWrongFalsely : Prop := ivalRootsRow.holds Try.pinned (OpenSpec.ofChange ivalRootsWrong)

/-- 'vergelaw6.IvalHoldsRoots': WHATEVER THE INPUT: true; the input reads as it did. -/
def ivalHoldsRootsSpec : ChangeSpec := { name := "ivalHoldsRoots", fn := fun _ => fun
  | [d] => { results := [.lit (.bool true)], args := [d] }
  | _ => none }
def ivalHoldsRootsRow : OpenClaim := { program := "ytmcfflecaklpcaa", sum := "3c0f2dbd6c6da10ae2a2276d2e7f52d20a988add8e7d68fa38ef8e457b7f8c3f", func := "verge/vergelaw6.IvalHoldsRoots", spec := "ivalHoldsRoots", inPlace := ["math.Float64frombits", "math.Float64bits", "math.sqrt"], recurses := true, apart := false }
def IvalHoldsRootsSaid : Prop := ivalHoldsRootsRow.holds Try.pinned (OpenSpec.ofChange ivalHoldsRootsSpec)

/-- ITS FALSE NEIGHBOUR: 'it returns false'. Refute it at one input. -/
def ivalHoldsRootsWrong : ChangeSpec := { name := "ivalHoldsRoots", fn := fun _ => fun
  | [d] => { results := [.lit (.bool false)], args := [d] }
  | _ => none }
def IvalHoldsRootsWrongFalsely : Prop := ivalHoldsRootsRow.holds Try.pinned (OpenSpec.ofChange ivalHoldsRootsWrong)

/-- 'vergelaw7.PowerSteps': WHATEVER THE INPUT: true; the input reads as it did. -/
def powerStepsSpec : ChangeSpec := { name := "powerSteps", fn := fun _ => fun
  | [d] => { results := [.lit (.bool true)], args := [d] }
  | _ => none }
def powerStepsRow : OpenClaim := { program := "ytmcfflecaklpcaa", sum := "3c0f2dbd6c6da10ae2a2276d2e7f52d20a988add8e7d68fa38ef8e457b7f8c3f", func := "verge/vergelaw7.PowerSteps", spec := "powerSteps", inPlace := ["math.Float64frombits", "math.archFloor", "math.Float64bits", "math.archTrunc", "math.archCeil", "math.RoundToEven"], unfollowed := true, recurses := true, apart := false }
def PowerStepsSaid : Prop := powerStepsRow.holds Try.pinned (OpenSpec.ofChange powerStepsSpec)

/-- ITS FALSE NEIGHBOUR: 'it returns false'. Refute it at one input. -/
def powerStepsWrong : ChangeSpec := { name := "powerSteps", fn := fun _ => fun
  | [d] => { results := [.lit (.bool false)], args := [d] }
  | _ => none }
def PowerStepsWrongFalsely : Prop := powerStepsRow.holds Try.pinned (OpenSpec.ofChange powerStepsWrong)

/- THE SECOND FORM. 'bulk': how many values and letters a reading holds, each counted each time it is reached (what is shared counts as often as it is met; a slice's spare places count too). A statement '..UptoSaid' is the law's where the arguments, and the package variables that the reading takes, are together of bulk at most 1048576: NARROWER than '..Said'. Prove '..Said' where nothing that the law and all that it calls make is longer than what came in: it says more and counts as full. Else prove '..UptoSaid'. A law counts once. -/
mutual
def uptoBulk {H : Type} : DataW H → Nat
  | .lit (.string bytes) => bytes.length + 1
  | .lit _ => 1
  | .nil => 1
  | .ptr d => uptoBulk d + 1
  | .slice elems spare => uptoBulkAll elems + uptoBulkAll spare + 1
  | .agg parts => uptoBulkAll parts + 1
  | .iface _ d => uptoBulk d + 1
  | .map entries => uptoBulkEntries entries + 1
  | .held _ => 1
def uptoBulkAll {H : Type} : List (DataW H) → Nat
  | [] => 0
  | d :: r => uptoBulk d + uptoBulkAll r
def uptoBulkEntries {H : Type} : List (Lit × DataW H) → Nat
  | [] => 0
  | x :: r => uptoBulkEntry x + uptoBulkEntries r
def uptoBulkEntry {H : Type} : Lit × DataW H → Nat
  | (.string bytes, d) => bytes.length + uptoBulk d + 1
  | (_, d) => uptoBulk d + 1
 end
def uptoSmall : (H : Type) → List (DataW H) → Bool := fun _ ds => decide (uptoBulkAll ds ≤ 1048576)
def OpenSpec.upto (s : _root_.Go.ChangeSpec) : _root_.Go.OpenSpec := { _root_.Go.OpenSpec.ofChange s with cond := some uptoSmall }

/-- 'vergelaw3.RoundRoots', WHERE WHAT IT READS IS OF BULK AT MOST 1048576: true; the input reads as it did. -/
def roundRootsUptoRow : OpenClaim := { program := "ytmcfflecaklpcaa", sum := "3c0f2dbd6c6da10ae2a2276d2e7f52d20a988add8e7d68fa38ef8e457b7f8c3f", func := "verge/vergelaw3.RoundRoots", spec := "roundRoots", inPlace := ["math.Float64frombits", "math.Float64bits"], recurses := true, apart := false, narrowed := true }
def RoundRootsUptoSaid : Prop := roundRootsUptoRow.holds Try.pinned (OpenSpec.upto roundRootsSpec)

/-- 'vergelaw3.RoundSquareRoots', WHERE WHAT IT READS IS OF BULK AT MOST 1048576: true; the input reads as it did. -/
def roundSquareRootsUptoRow : OpenClaim := { program := "ytmcfflecaklpcaa", sum := "3c0f2dbd6c6da10ae2a2276d2e7f52d20a988add8e7d68fa38ef8e457b7f8c3f", func := "verge/vergelaw3.RoundSquareRoots", spec := "roundSquareRoots", inPlace := ["math.Float64frombits", "math.Float64bits", "math.sqrt"], recurses := true, apart := false, narrowed := true }
def RoundSquareRootsUptoSaid : Prop := roundSquareRootsUptoRow.holds Try.pinned (OpenSpec.upto roundSquareRootsSpec)

/-- 'vergelaw3.RoundTightRoots', WHERE WHAT IT READS IS OF BULK AT MOST 1048576: true; the input reads as it did. -/
def roundTightRootsUptoRow : OpenClaim := { program := "ytmcfflecaklpcaa", sum := "3c0f2dbd6c6da10ae2a2276d2e7f52d20a988add8e7d68fa38ef8e457b7f8c3f", func := "verge/vergelaw3.RoundTightRoots", spec := "roundTightRoots", inPlace := ["math.Float64frombits", "math.Float64bits", "math.sqrt"], recurses := true, apart := false, narrowed := true }
def RoundTightRootsUptoSaid : Prop := roundTightRootsUptoRow.holds Try.pinned (OpenSpec.upto roundTightRootsSpec)

/-- 'vergelaw3.RoundTight', WHERE WHAT IT READS IS OF BULK AT MOST 1048576: true; the input reads as it did. -/
def roundTightUptoRow : OpenClaim := { program := "ytmcfflecaklpcaa", sum := "3c0f2dbd6c6da10ae2a2276d2e7f52d20a988add8e7d68fa38ef8e457b7f8c3f", func := "verge/vergelaw3.RoundTight", spec := "roundTight", inPlace := ["math.Float64frombits", "math.Float64bits", "math.sqrt"], recurses := true, apart := false, narrowed := true }
def RoundTightUptoSaid : Prop := roundTightUptoRow.holds Try.pinned (OpenSpec.upto roundTightSpec)

/-- 'vergelaw6.IvalRoots', WHERE WHAT IT READS IS OF BULK AT MOST 1048576: true; the input reads as it did. -/
def ivalRootsUptoRow : OpenClaim := { program := "ytmcfflecaklpcaa", sum := "3c0f2dbd6c6da10ae2a2276d2e7f52d20a988add8e7d68fa38ef8e457b7f8c3f", func := "verge/vergelaw6.IvalRoots", spec := "ivalRoots", inPlace := ["math.Float64frombits", "math.Float64bits", "math.sqrt"], recurses := true, apart := false, narrowed := true }
def IvalRootsUptoSaid : Prop := ivalRootsUptoRow.holds Try.pinned (OpenSpec.upto ivalRootsSpec)

/-- 'vergelaw6.IvalHoldsRoots', WHERE WHAT IT READS IS OF BULK AT MOST 1048576: true; the input reads as it did. -/
def ivalHoldsRootsUptoRow : OpenClaim := { program := "ytmcfflecaklpcaa", sum := "3c0f2dbd6c6da10ae2a2276d2e7f52d20a988add8e7d68fa38ef8e457b7f8c3f", func := "verge/vergelaw6.IvalHoldsRoots", spec := "ivalHoldsRoots", inPlace := ["math.Float64frombits", "math.Float64bits", "math.sqrt"], recurses := true, apart := false, narrowed := true }
def IvalHoldsRootsUptoSaid : Prop := ivalHoldsRootsUptoRow.holds Try.pinned (OpenSpec.upto ivalHoldsRootsSpec)

/-- 'vergelaw7.PowerSteps', WHERE WHAT IT READS IS OF BULK AT MOST 1048576: true; the input reads as it did. -/
def powerStepsUptoRow : OpenClaim := { program := "ytmcfflecaklpcaa", sum := "3c0f2dbd6c6da10ae2a2276d2e7f52d20a988add8e7d68fa38ef8e457b7f8c3f", func := "verge/vergelaw7.PowerSteps", spec := "powerSteps", inPlace := ["math.Float64frombits", "math.archFloor", "math.Float64bits", "math.archTrunc", "math.archCeil", "math.RoundToEven"], unfollowed := true, recurses := true, apart := false, narrowed := true }
def PowerStepsUptoSaid : Prop := powerStepsUptoRow.holds Try.pinned (OpenSpec.upto powerStepsSpec)

end Rows
end Go.Proofs.Ytmcfflecaklpcaa
