/-
  NARROWER THAN 'FOR EVERY INPUT', by the rows' own cells (each row's printed sentence says how): RoundPowers: laid · RoundRoads: laid · RoundKnown: laid · PowerTight: laid · PowerKnown: laid · PowerGrows: laid.
  DERIVED. THE GIVEN ROWS OF THIS SEAT. 6 by the template 'for every input the law returns true; each argument reads behind the call as it read before'; 0 by the template 'total and deterministic' (their statements: YtadijoeeaineaaaDoorTotals.lean).
  GIVEN WITH THE SEED: the statements are not yours to turn. If you find one false, say at which input.
  Laid BY PROGRAM, IN A SANDBOX (cutbox-rows.mjs): the forced cells as the released guide's own fill.sh prints them over the translation fd7ebed3afb8e2c9… (all of the seat's roots in one cut). By AI agents, Wed Nov 11 2026. No macro, syntax, notation, axiom, sorry.
-/
import Derived.Test.YtadijoeeaineaaaDoorChecked
import GoSem.Claim
import GoSem.ClaimJoined
import GoSem.ClaimMapViews
import Derived.JoinedTies
import Derived.KernelRfl
namespace Go.Proofs.YtadijoeeaineaaaDoor
/- THE CELL 'sum', in the pinned program and in every row, IS THE sha256 OF THE DUMP (.gsa) THAT YtadijoeeaineaaaDoorProg.lean LOADS. Nothing in Lean hashes anything: it is a label: what it is worth is what the hold of that sum in a sandbox is worth. -/
noncomputable def Tryd.pinned : Pinned := { name := "ytadijoeeaineaaadoor", sum := "fd7ebed3afb8e2c93e66496611589e6f06c22b1a52f81fe65d9c50a22b20c8f2", checked := Tryd.checked }
namespace Rows
def none {H : Type} : Left H := { results := [], args := [] }

/- WHAT THE LISTED PACKAGE-LEVEL VARIABLES READ AS WHEN THE CALL BEGINS. Each datum BY PROGRAM (the guide's laid-datum.mjs) off the statement by which the dump's own 'gosem.cut.vars' lays the variable. In a bare row this is a premise. The card (YtadijoeeaineaaaDoorCards.lean) ties it to the program's text. -/
def laid_math_bits_deBruijn32tab {H : Type} : DataW H := .agg [.lit (.int .u8 0), .lit (.int .u8 1), .lit (.int .u8 28), .lit (.int .u8 2), .lit (.int .u8 29), .lit (.int .u8 14), .lit (.int .u8 24), .lit (.int .u8 3), .lit (.int .u8 30), .lit (.int .u8 22), .lit (.int .u8 20), .lit (.int .u8 15), .lit (.int .u8 25), .lit (.int .u8 17), .lit (.int .u8 4), .lit (.int .u8 8), .lit (.int .u8 31), .lit (.int .u8 27), .lit (.int .u8 13), .lit (.int .u8 23), .lit (.int .u8 21), .lit (.int .u8 19), .lit (.int .u8 16), .lit (.int .u8 7), .lit (.int .u8 26), .lit (.int .u8 12), .lit (.int .u8 18), .lit (.int .u8 6), .lit (.int .u8 11), .lit (.int .u8 5), .lit (.int .u8 10), .lit (.int .u8 9)]

/-- 'vergelaw3.RoundPowers': WHATEVER THE INPUT: true; the input reads as it did. -/
def roundPowersSpec : ChangeSpec := { name := "roundPowers", fn := fun _ => fun
  | [d1, d2, d3] => { results := [.lit (.bool true)], args := [d1, d2, d3] }
  | _ => none }
def roundPowersRow : OpenClaim := { program := "ytadijoeeaineaaadoor", sum := "fd7ebed3afb8e2c93e66496611589e6f06c22b1a52f81fe65d9c50a22b20c8f2", func := "verge/vergelaw3.RoundPowers", spec := "roundPowers", inPlace := ["math.Float64frombits", "math.Float64bits"], named := ["math/bits.deBruijn32tab"], apart := false, laid := [("math/bits.deBruijn32tab", laid_math_bits_deBruijn32tab)] }
def RoundPowersSaid : Prop := roundPowersRow.holds Tryd.pinned (OpenSpec.ofChange roundPowersSpec)

/-- ITS FALSE NEIGHBOUR: 'it returns false'. Refute it at one input. -/
def roundPowersWrong : ChangeSpec := { name := "roundPowers", fn := fun _ => fun
  | [d1, d2, d3] => { results := [.lit (.bool false)], args := [d1, d2, d3] }
  | _ => none }
def RoundPowersWrongFalsely : Prop := roundPowersRow.holds Tryd.pinned (OpenSpec.ofChange roundPowersWrong)

/-- 'vergelaw3.RoundRoads': WHATEVER THE INPUT: true; the input reads as it did. -/
def roundRoadsSpec : ChangeSpec := { name := "roundRoads", fn := fun _ => fun
  | [d1, d2, d3] => { results := [.lit (.bool true)], args := [d1, d2, d3] }
  | _ => none }
def roundRoadsRow : OpenClaim := { program := "ytadijoeeaineaaadoor", sum := "fd7ebed3afb8e2c93e66496611589e6f06c22b1a52f81fe65d9c50a22b20c8f2", func := "verge/vergelaw3.RoundRoads", spec := "roundRoads", inPlace := ["math.Float64frombits", "math.Float64bits", "math.sqrt"], recurses := true, named := ["math/bits.deBruijn32tab"], apart := false, laid := [("math/bits.deBruijn32tab", laid_math_bits_deBruijn32tab)] }
def RoundRoadsSaid : Prop := roundRoadsRow.holds Tryd.pinned (OpenSpec.ofChange roundRoadsSpec)

/-- ITS FALSE NEIGHBOUR: 'it returns false'. Refute it at one input. -/
def roundRoadsWrong : ChangeSpec := { name := "roundRoads", fn := fun _ => fun
  | [d1, d2, d3] => { results := [.lit (.bool false)], args := [d1, d2, d3] }
  | _ => none }
def RoundRoadsWrongFalsely : Prop := roundRoadsRow.holds Tryd.pinned (OpenSpec.ofChange roundRoadsWrong)

/-- 'vergelaw3.RoundKnown': WHATEVER THE INPUT: true; the input reads as it did. -/
def roundKnownSpec : ChangeSpec := { name := "roundKnown", fn := fun _ => fun
  | [] => { results := [.lit (.bool true)], args := [] }
  | _ => none }
def roundKnownRow : OpenClaim := { program := "ytadijoeeaineaaadoor", sum := "fd7ebed3afb8e2c93e66496611589e6f06c22b1a52f81fe65d9c50a22b20c8f2", func := "verge/vergelaw3.RoundKnown", spec := "roundKnown", inPlace := ["math.Float64frombits", "math.Float64bits", "math.sqrt", "math.Float32frombits", "math.Float32bits"], recurses := true, named := ["math/bits.deBruijn32tab"], apart := false, laid := [("math/bits.deBruijn32tab", laid_math_bits_deBruijn32tab)] }
def RoundKnownSaid : Prop := roundKnownRow.holds Tryd.pinned (OpenSpec.ofChange roundKnownSpec)

/-- ITS FALSE NEIGHBOUR: 'it returns false'. Refute it at one input. -/
def roundKnownWrong : ChangeSpec := { name := "roundKnown", fn := fun _ => fun
  | [] => { results := [.lit (.bool false)], args := [] }
  | _ => none }
def RoundKnownWrongFalsely : Prop := roundKnownRow.holds Tryd.pinned (OpenSpec.ofChange roundKnownWrong)

/-- 'vergelaw7.PowerTight': WHATEVER THE INPUT: true; the input reads as it did. -/
def powerTightSpec : ChangeSpec := { name := "powerTight", fn := fun _ => fun
  | [d1, d2] => { results := [.lit (.bool true)], args := [d1, d2] }
  | _ => none }
def powerTightRow : OpenClaim := { program := "ytadijoeeaineaaadoor", sum := "fd7ebed3afb8e2c93e66496611589e6f06c22b1a52f81fe65d9c50a22b20c8f2", func := "verge/vergelaw7.PowerTight", spec := "powerTight", inPlace := ["math.Float64frombits", "math.Float64bits", "math.RoundToEven"], unfollowed := true, recurses := true, named := ["math/bits.deBruijn32tab"], apart := false, laid := [("math/bits.deBruijn32tab", laid_math_bits_deBruijn32tab)] }
def PowerTightSaid : Prop := powerTightRow.holds Tryd.pinned (OpenSpec.ofChange powerTightSpec)

/-- ITS FALSE NEIGHBOUR: 'it returns false'. Refute it at one input. -/
def powerTightWrong : ChangeSpec := { name := "powerTight", fn := fun _ => fun
  | [d1, d2] => { results := [.lit (.bool false)], args := [d1, d2] }
  | _ => none }
def PowerTightWrongFalsely : Prop := powerTightRow.holds Tryd.pinned (OpenSpec.ofChange powerTightWrong)

/-- 'vergelaw7.PowerKnown': WHATEVER THE INPUT: true; the input reads as it did. -/
def powerKnownSpec : ChangeSpec := { name := "powerKnown", fn := fun _ => fun
  | [] => { results := [.lit (.bool true)], args := [] }
  | _ => none }
def powerKnownRow : OpenClaim := { program := "ytadijoeeaineaaadoor", sum := "fd7ebed3afb8e2c93e66496611589e6f06c22b1a52f81fe65d9c50a22b20c8f2", func := "verge/vergelaw7.PowerKnown", spec := "powerKnown", inPlace := ["math.Float64frombits", "math.Float64bits", "math.RoundToEven", "math.archFloor", "math.archTrunc", "math.archCeil"], unfollowed := true, recurses := true, named := ["math/bits.deBruijn32tab"], apart := false, laid := [("math/bits.deBruijn32tab", laid_math_bits_deBruijn32tab)] }
def PowerKnownSaid : Prop := powerKnownRow.holds Tryd.pinned (OpenSpec.ofChange powerKnownSpec)

/-- ITS FALSE NEIGHBOUR: 'it returns false'. Refute it at one input. -/
def powerKnownWrong : ChangeSpec := { name := "powerKnown", fn := fun _ => fun
  | [] => { results := [.lit (.bool false)], args := [] }
  | _ => none }
def PowerKnownWrongFalsely : Prop := powerKnownRow.holds Tryd.pinned (OpenSpec.ofChange powerKnownWrong)

/-- 'vergelaw7.PowerGrows': WHATEVER THE INPUT: true; the input reads as it did. -/
def powerGrowsSpec : ChangeSpec := { name := "powerGrows", fn := fun _ => fun
  | [d1, d2, d3, d4] => { results := [.lit (.bool true)], args := [d1, d2, d3, d4] }
  | _ => none }
def powerGrowsRow : OpenClaim := { program := "ytadijoeeaineaaadoor", sum := "fd7ebed3afb8e2c93e66496611589e6f06c22b1a52f81fe65d9c50a22b20c8f2", func := "verge/vergelaw7.PowerGrows", spec := "powerGrows", inPlace := ["math.Float64frombits", "math.Float64bits", "math.archFloor", "math.archTrunc", "math.archCeil", "math.RoundToEven"], unfollowed := true, recurses := true, named := ["math/bits.deBruijn32tab"], apart := false, laid := [("math/bits.deBruijn32tab", laid_math_bits_deBruijn32tab)] }
def PowerGrowsSaid : Prop := powerGrowsRow.holds Tryd.pinned (OpenSpec.ofChange powerGrowsSpec)

/-- ITS FALSE NEIGHBOUR: 'it returns false'. Refute it at one input. -/
def powerGrowsWrong : ChangeSpec := { name := "powerGrows", fn := fun _ => fun
  | [d1, d2, d3, d4] => { results := [.lit (.bool false)], args := [d1, d2, d3, d4] }
  | _ => none }
def PowerGrowsWrongFalsely : Prop := powerGrowsRow.holds Tryd.pinned (OpenSpec.ofChange powerGrowsWrong)

/- THE SECOND FORM. 'bulk': how many values and letters a reading holds, each counted each time it is reached (what is shared counts as often as it is met; a slice's spare places count too). A statement '..UptoSaid' is the law's where the arguments, and the package variables that the reading takes, are together of bulk at most 1048576: NARROWER than '..Said'. Prove '..Said' where nothing that the law and all that it calls make is longer than what came in: it says more and counts as full. Else prove '..UptoSaid'. A law counts once. -/
mutual
def uptoBulk {H : Type} : DataW H → Nat
  | .lit (.string bytes) => bytes.length + 1
  | .lit _ => 1
  | .nil => 1
  | .ptr d => uptoBulk d + 1
  | .slice elems spare => uptoBulkAll elems + uptoBulkAll spare + 1
  | .agg parts => uptoBulkAll parts + 1
  | .iface _ d => uptoBulk d + 1
  | .map entries => uptoBulkEntries entries + 1
  | .held _ => 1
def uptoBulkAll {H : Type} : List (DataW H) → Nat
  | [] => 0
  | d :: r => uptoBulk d + uptoBulkAll r
def uptoBulkEntries {H : Type} : List (Lit × DataW H) → Nat
  | [] => 0
  | x :: r => uptoBulkEntry x + uptoBulkEntries r
def uptoBulkEntry {H : Type} : Lit × DataW H → Nat
  | (.string bytes, d) => bytes.length + uptoBulk d + 1
  | (_, d) => uptoBulk d + 1
 end
def uptoSmall : (H : Type) → List (DataW H) → Bool := fun _ ds => decide (uptoBulkAll ds ≤ 1048576)
def OpenSpec.upto (s : _root_.Go.ChangeSpec) : _root_.Go.OpenSpec := { _root_.Go.OpenSpec.ofChange s with cond := some uptoSmall }

/-- 'vergelaw3.RoundPowers', WHERE WHAT IT READS IS OF BULK AT MOST 1048576: true; the input reads as it did. -/
def roundPowersUptoRow : OpenClaim := { program := "ytadijoeeaineaaadoor", sum := "fd7ebed3afb8e2c93e66496611589e6f06c22b1a52f81fe65d9c50a22b20c8f2", func := "verge/vergelaw3.RoundPowers", spec := "roundPowers", inPlace := ["math.Float64frombits", "math.Float64bits"], named := ["math/bits.deBruijn32tab"], apart := false, laid := [("math/bits.deBruijn32tab", laid_math_bits_deBruijn32tab)], narrowed := true }
def RoundPowersUptoSaid : Prop := roundPowersUptoRow.holds Tryd.pinned (OpenSpec.upto roundPowersSpec)

/-- 'vergelaw3.RoundRoads', WHERE WHAT IT READS IS OF BULK AT MOST 1048576: true; the input reads as it did. -/
def roundRoadsUptoRow : OpenClaim := { program := "ytadijoeeaineaaadoor", sum := "fd7ebed3afb8e2c93e66496611589e6f06c22b1a52f81fe65d9c50a22b20c8f2", func := "verge/vergelaw3.RoundRoads", spec := "roundRoads", inPlace := ["math.Float64frombits", "math.Float64bits", "math.sqrt"], recurses := true, named := ["math/bits.deBruijn32tab"], apart := false, laid := [("math/bits.deBruijn32tab", laid_math_bits_deBruijn32tab)], narrowed := true }
def RoundRoadsUptoSaid : Prop := roundRoadsUptoRow.holds Tryd.pinned (OpenSpec.upto roundRoadsSpec)

/-- 'vergelaw3.RoundKnown', WHERE WHAT IT READS IS OF BULK AT MOST 1048576: true; the input reads as it did. -/
def roundKnownUptoRow : OpenClaim := { program := "ytadijoeeaineaaadoor", sum := "fd7ebed3afb8e2c93e66496611589e6f06c22b1a52f81fe65d9c50a22b20c8f2", func := "verge/vergelaw3.RoundKnown", spec := "roundKnown", inPlace := ["math.Float64frombits", "math.Float64bits", "math.sqrt", "math.Float32frombits", "math.Float32bits"], recurses := true, named := ["math/bits.deBruijn32tab"], apart := false, laid := [("math/bits.deBruijn32tab", laid_math_bits_deBruijn32tab)], narrowed := true }
def RoundKnownUptoSaid : Prop := roundKnownUptoRow.holds Tryd.pinned (OpenSpec.upto roundKnownSpec)

/-- 'vergelaw7.PowerTight', WHERE WHAT IT READS IS OF BULK AT MOST 1048576: true; the input reads as it did. -/
def powerTightUptoRow : OpenClaim := { program := "ytadijoeeaineaaadoor", sum := "fd7ebed3afb8e2c93e66496611589e6f06c22b1a52f81fe65d9c50a22b20c8f2", func := "verge/vergelaw7.PowerTight", spec := "powerTight", inPlace := ["math.Float64frombits", "math.Float64bits", "math.RoundToEven"], unfollowed := true, recurses := true, named := ["math/bits.deBruijn32tab"], apart := false, laid := [("math/bits.deBruijn32tab", laid_math_bits_deBruijn32tab)], narrowed := true }
def PowerTightUptoSaid : Prop := powerTightUptoRow.holds Tryd.pinned (OpenSpec.upto powerTightSpec)

/-- 'vergelaw7.PowerKnown', WHERE WHAT IT READS IS OF BULK AT MOST 1048576: true; the input reads as it did. -/
def powerKnownUptoRow : OpenClaim := { program := "ytadijoeeaineaaadoor", sum := "fd7ebed3afb8e2c93e66496611589e6f06c22b1a52f81fe65d9c50a22b20c8f2", func := "verge/vergelaw7.PowerKnown", spec := "powerKnown", inPlace := ["math.Float64frombits", "math.Float64bits", "math.RoundToEven", "math.archFloor", "math.archTrunc", "math.archCeil"], unfollowed := true, recurses := true, named := ["math/bits.deBruijn32tab"], apart := false, laid := [("math/bits.deBruijn32tab", laid_math_bits_deBruijn32tab)], narrowed := true }
def PowerKnownUptoSaid : Prop := powerKnownUptoRow.holds Tryd.pinned (OpenSpec.upto powerKnownSpec)

/-- 'vergelaw7.PowerGrows', WHERE WHAT IT READS IS OF BULK AT MOST 1048576: true; the input reads as it did. -/
def powerGrowsUptoRow : OpenClaim := { program := "ytadijoeeaineaaadoor", sum := "fd7ebed3afb8e2c93e66496611589e6f06c22b1a52f81fe65d9c50a22b20c8f2", func := "verge/vergelaw7.PowerGrows", spec := "powerGrows", inPlace := ["math.Float64frombits", "math.Float64bits", "math.archFloor", "math.archTrunc", "math.archCeil", "math.RoundToEven"], unfollowed := true, recurses := true, named := ["math/bits.deBruijn32tab"], apart := false, laid := [("math/bits.deBruijn32tab", laid_math_bits_deBruijn32tab)], narrowed := true }
def PowerGrowsUptoSaid : Prop := powerGrowsUptoRow.holds Tryd.pinned (OpenSpec.upto powerGrowsSpec)

end Rows
end Go.Proofs.YtadijoeeaineaaaDoor
