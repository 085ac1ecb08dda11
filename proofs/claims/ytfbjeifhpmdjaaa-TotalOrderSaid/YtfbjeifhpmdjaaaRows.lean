/-
  No cell of these rows narrows 'for every input' (looked for: loops, veiled, ifaces, maps, wideKeys, modest, calm, conditions, laid).
  DERIVED. THE GIVEN ROWS OF THIS SEAT. 6 by the template 'for every input the law returns true; each argument reads behind the call as it read before'; 0 by the template 'total and deterministic' (their statements: YtfbjeifhpmdjaaaTotals.lean).
  GIVEN WITH THE SEED: the statements are not yours to turn. If you find one false, say at which input.
  Laid BY PROGRAM, IN A SANDBOX (cutbox-rows.mjs): the forced cells as the released guide's own fill.sh prints them over the translation 7ad9f171145ff75f… (all of the seat's roots in one cut). By AI agents, Wed Nov 11 2026. No macro, syntax, notation, axiom, sorry.
-/
import Derived.Test.YtfbjeifhpmdjaaaChecked
import GoSem.Claim
import GoSem.ClaimJoined
import GoSem.ClaimMapViews
import Derived.JoinedTies
import Derived.KernelRfl
namespace Go.Proofs.Ytfbjeifhpmdjaaa
/- THE CELL 'sum', in the pinned program and in every row, IS THE sha256 OF THE DUMP (.gsa) THAT YtfbjeifhpmdjaaaProg.lean LOADS. Nothing in Lean hashes anything: it is a label: what it is worth is what the hold of that sum in a sandbox is worth. -/
noncomputable def Try.pinned : Pinned := { name := "ytfbjeifhpmdjaaa", sum := "7ad9f171145ff75f789c1833e58ed47c3dde9b903620cae2d263c9dc04636d37", checked := Try.checked }
namespace Rows
def none {H : Type} : Left H := { results := [], args := [] }

/-- 'vergelaw4.TotalCancels': WHATEVER THE INPUT: true; the input reads as it did. -/
def totalCancelsSpec : ChangeSpec := { name := "totalCancels", fn := fun _ => fun
  | [d1, d2] => { results := [.lit (.bool true)], args := [d1, d2] }
  | _ => none }
def totalCancelsRow : OpenClaim := { program := "ytfbjeifhpmdjaaa", sum := "7ad9f171145ff75f789c1833e58ed47c3dde9b903620cae2d263c9dc04636d37", func := "verge/vergelaw4.TotalCancels", spec := "totalCancels", inPlace := ["math.Float64bits", "math.Float64frombits", "math/bits.Sub64", "math/bits.Add64"], apart := false }
def TotalCancelsSaid : Prop := totalCancelsRow.holds Try.pinned (OpenSpec.ofChange totalCancelsSpec)

/-- ITS FALSE NEIGHBOUR: 'it returns false'. Refute it at one input. -/
def totalCancelsWrong : ChangeSpec := { name := "totalCancels", fn := fun _ => fun
  | [d1, d2] => { results := [.lit (.bool false)], args := [d1, d2] }
  | _ => none }
def TotalCancelsWrongFalsely : Prop := totalCancelsRow.holds Try.pinned (OpenSpec.ofChange totalCancelsWrong)

/-- 'vergelaw4.TotalTight': WHATEVER THE INPUT: true; the input reads as it did. -/
def totalTightSpec : ChangeSpec := { name := "totalTight", fn := fun _ => fun
  | [d1, d2] => { results := [.lit (.bool true)], args := [d1, d2] }
  | _ => none }
def totalTightRow : OpenClaim := { program := "ytfbjeifhpmdjaaa", sum := "7ad9f171145ff75f789c1833e58ed47c3dde9b903620cae2d263c9dc04636d37", func := "verge/vergelaw4.TotalTight", spec := "totalTight", inPlace := ["math.Float64bits", "math.Float64frombits", "math/bits.Sub64", "math/bits.Add64"], apart := false }
def TotalTightSaid : Prop := totalTightRow.holds Try.pinned (OpenSpec.ofChange totalTightSpec)

/-- ITS FALSE NEIGHBOUR: 'it returns false'. Refute it at one input. -/
def totalTightWrong : ChangeSpec := { name := "totalTight", fn := fun _ => fun
  | [d1, d2] => { results := [.lit (.bool false)], args := [d1, d2] }
  | _ => none }
def TotalTightWrongFalsely : Prop := totalTightRow.holds Try.pinned (OpenSpec.ofChange totalTightWrong)

/-- 'vergelaw4.TotalDoubles': WHATEVER THE INPUT: true; the input reads as it did. -/
def totalDoublesSpec : ChangeSpec := { name := "totalDoubles", fn := fun _ => fun
  | [d1, d2, d3] => { results := [.lit (.bool true)], args := [d1, d2, d3] }
  | _ => none }
def totalDoublesRow : OpenClaim := { program := "ytfbjeifhpmdjaaa", sum := "7ad9f171145ff75f789c1833e58ed47c3dde9b903620cae2d263c9dc04636d37", func := "verge/vergelaw4.TotalDoubles", spec := "totalDoubles", inPlace := ["math.Float64bits", "math.Float64frombits", "math/bits.Sub64", "math/bits.Add64"], apart := false }
def TotalDoublesSaid : Prop := totalDoublesRow.holds Try.pinned (OpenSpec.ofChange totalDoublesSpec)

/-- ITS FALSE NEIGHBOUR: 'it returns false'. Refute it at one input. -/
def totalDoublesWrong : ChangeSpec := { name := "totalDoubles", fn := fun _ => fun
  | [d1, d2, d3] => { results := [.lit (.bool false)], args := [d1, d2, d3] }
  | _ => none }
def TotalDoublesWrongFalsely : Prop := totalDoublesRow.holds Try.pinned (OpenSpec.ofChange totalDoublesWrong)

/-- 'vergelaw4.TotalOrder': WHATEVER THE INPUT: true; the input reads as it did. -/
def totalOrderSpec : ChangeSpec := { name := "totalOrder", fn := fun _ => fun
  | [d1, d2] => { results := [.lit (.bool true)], args := [d1, d2] }
  | _ => none }
def totalOrderRow : OpenClaim := { program := "ytfbjeifhpmdjaaa", sum := "7ad9f171145ff75f789c1833e58ed47c3dde9b903620cae2d263c9dc04636d37", func := "verge/vergelaw4.TotalOrder", spec := "totalOrder", inPlace := ["math.Float64bits", "math.Float64frombits", "math/bits.Sub64", "math/bits.Add64"], apart := false }
def TotalOrderSaid : Prop := totalOrderRow.holds Try.pinned (OpenSpec.ofChange totalOrderSpec)

/-- ITS FALSE NEIGHBOUR: 'it returns false'. Refute it at one input. -/
def totalOrderWrong : ChangeSpec := { name := "totalOrder", fn := fun _ => fun
  | [d1, d2] => { results := [.lit (.bool false)], args := [d1, d2] }
  | _ => none }
def TotalOrderWrongFalsely : Prop := totalOrderRow.holds Try.pinned (OpenSpec.ofChange totalOrderWrong)

/-- 'vergelaw4.TotalKnown': WHATEVER THE INPUT: true; the input reads as it did. -/
def totalKnownSpec : ChangeSpec := { name := "totalKnown", fn := fun _ => fun
  | [] => { results := [.lit (.bool true)], args := [] }
  | _ => none }
def totalKnownRow : OpenClaim := { program := "ytfbjeifhpmdjaaa", sum := "7ad9f171145ff75f789c1833e58ed47c3dde9b903620cae2d263c9dc04636d37", func := "verge/vergelaw4.TotalKnown", spec := "totalKnown", inPlace := ["math.Float64bits", "math.Float64frombits", "math/bits.Sub64", "math/bits.Add64"], apart := false }
def TotalKnownSaid : Prop := totalKnownRow.holds Try.pinned (OpenSpec.ofChange totalKnownSpec)

/-- ITS FALSE NEIGHBOUR: 'it returns false'. Refute it at one input. -/
def totalKnownWrong : ChangeSpec := { name := "totalKnown", fn := fun _ => fun
  | [] => { results := [.lit (.bool false)], args := [] }
  | _ => none }
def TotalKnownWrongFalsely : Prop := totalKnownRow.holds Try.pinned (OpenSpec.ofChange totalKnownWrong)

/-- 'vergelaw4.TotalTwos': WHATEVER THE INPUT: true; the input reads as it did. -/
def totalTwosSpec : ChangeSpec := { name := "totalTwos", fn := fun _ => fun
  | [d1, d2] => { results := [.lit (.bool true)], args := [d1, d2] }
  | _ => none }
def totalTwosRow : OpenClaim := { program := "ytfbjeifhpmdjaaa", sum := "7ad9f171145ff75f789c1833e58ed47c3dde9b903620cae2d263c9dc04636d37", func := "verge/vergelaw4.TotalTwos", spec := "totalTwos", inPlace := ["math.Float64frombits", "math.Float64bits", "math/bits.Sub64", "math/bits.Add64"], apart := false }
def TotalTwosSaid : Prop := totalTwosRow.holds Try.pinned (OpenSpec.ofChange totalTwosSpec)

/-- ITS FALSE NEIGHBOUR: 'it returns false'. Refute it at one input. -/
def totalTwosWrong : ChangeSpec := { name := "totalTwos", fn := fun _ => fun
  | [d1, d2] => { results := [.lit (.bool false)], args := [d1, d2] }
  | _ => none }
def TotalTwosWrongFalsely : Prop := totalTwosRow.holds Try.pinned (OpenSpec.ofChange totalTwosWrong)

/- THE SECOND FORM. 'bulk': how many values and letters a reading holds, each counted each time it is reached (what is shared counts as often as it is met; a slice's spare places count too). A statement '..UptoSaid' is the law's where the arguments, and the package variables that the reading takes, are together of bulk at most 1048576: NARROWER than '..Said'. Prove '..Said' where nothing that the law and all that it calls make is longer than what came in: it says more and counts as full. Else prove '..UptoSaid'. A law counts once. -/
mutual
def uptoBulk {H : Type} : DataW H → Nat
  | .lit (.string bytes) => bytes.length + 1
  | .lit _ => 1
  | .nil => 1
  | .ptr d => uptoBulk d + 1
  | .slice elems spare => uptoBulkAll elems + uptoBulkAll spare + 1
  | .agg parts => uptoBulkAll parts + 1
  | .iface _ d => uptoBulk d + 1
  | .map entries => uptoBulkEntries entries + 1
  | .held _ => 1
def uptoBulkAll {H : Type} : List (DataW H) → Nat
  | [] => 0
  | d :: r => uptoBulk d + uptoBulkAll r
def uptoBulkEntries {H : Type} : List (Lit × DataW H) → Nat
  | [] => 0
  | x :: r => uptoBulkEntry x + uptoBulkEntries r
def uptoBulkEntry {H : Type} : Lit × DataW H → Nat
  | (.string bytes, d) => bytes.length + uptoBulk d + 1
  | (_, d) => uptoBulk d + 1
 end
def uptoSmall : (H : Type) → List (DataW H) → Bool := fun _ ds => decide (uptoBulkAll ds ≤ 1048576)
def OpenSpec.upto (s : _root_.Go.ChangeSpec) : _root_.Go.OpenSpec := { _root_.Go.OpenSpec.ofChange s with cond := some uptoSmall }

/-- 'vergelaw4.TotalCancels', WHERE WHAT IT READS IS OF BULK AT MOST 1048576: true; the input reads as it did. -/
def totalCancelsUptoRow : OpenClaim := { program := "ytfbjeifhpmdjaaa", sum := "7ad9f171145ff75f789c1833e58ed47c3dde9b903620cae2d263c9dc04636d37", func := "verge/vergelaw4.TotalCancels", spec := "totalCancels", inPlace := ["math.Float64bits", "math.Float64frombits", "math/bits.Sub64", "math/bits.Add64"], apart := false, narrowed := true }
def TotalCancelsUptoSaid : Prop := totalCancelsUptoRow.holds Try.pinned (OpenSpec.upto totalCancelsSpec)

/-- 'vergelaw4.TotalTight', WHERE WHAT IT READS IS OF BULK AT MOST 1048576: true; the input reads as it did. -/
def totalTightUptoRow : OpenClaim := { program := "ytfbjeifhpmdjaaa", sum := "7ad9f171145ff75f789c1833e58ed47c3dde9b903620cae2d263c9dc04636d37", func := "verge/vergelaw4.TotalTight", spec := "totalTight", inPlace := ["math.Float64bits", "math.Float64frombits", "math/bits.Sub64", "math/bits.Add64"], apart := false, narrowed := true }
def TotalTightUptoSaid : Prop := totalTightUptoRow.holds Try.pinned (OpenSpec.upto totalTightSpec)

/-- 'vergelaw4.TotalDoubles', WHERE WHAT IT READS IS OF BULK AT MOST 1048576: true; the input reads as it did. -/
def totalDoublesUptoRow : OpenClaim := { program := "ytfbjeifhpmdjaaa", sum := "7ad9f171145ff75f789c1833e58ed47c3dde9b903620cae2d263c9dc04636d37", func := "verge/vergelaw4.TotalDoubles", spec := "totalDoubles", inPlace := ["math.Float64bits", "math.Float64frombits", "math/bits.Sub64", "math/bits.Add64"], apart := false, narrowed := true }
def TotalDoublesUptoSaid : Prop := totalDoublesUptoRow.holds Try.pinned (OpenSpec.upto totalDoublesSpec)

/-- 'vergelaw4.TotalOrder', WHERE WHAT IT READS IS OF BULK AT MOST 1048576: true; the input reads as it did. -/
def totalOrderUptoRow : OpenClaim := { program := "ytfbjeifhpmdjaaa", sum := "7ad9f171145ff75f789c1833e58ed47c3dde9b903620cae2d263c9dc04636d37", func := "verge/vergelaw4.TotalOrder", spec := "totalOrder", inPlace := ["math.Float64bits", "math.Float64frombits", "math/bits.Sub64", "math/bits.Add64"], apart := false, narrowed := true }
def TotalOrderUptoSaid : Prop := totalOrderUptoRow.holds Try.pinned (OpenSpec.upto totalOrderSpec)

/-- 'vergelaw4.TotalKnown', WHERE WHAT IT READS IS OF BULK AT MOST 1048576: true; the input reads as it did. -/
def totalKnownUptoRow : OpenClaim := { program := "ytfbjeifhpmdjaaa", sum := "7ad9f171145ff75f789c1833e58ed47c3dde9b903620cae2d263c9dc04636d37", func := "verge/vergelaw4.TotalKnown", spec := "totalKnown", inPlace := ["math.Float64bits", "math.Float64frombits", "math/bits.Sub64", "math/bits.Add64"], apart := false, narrowed := true }
def TotalKnownUptoSaid : Prop := totalKnownUptoRow.holds Try.pinned (OpenSpec.upto totalKnownSpec)

/-- 'vergelaw4.TotalTwos', WHERE WHAT IT READS IS OF BULK AT MOST 1048576: true; the input reads as it did. -/
def totalTwosUptoRow : OpenClaim := { program := "ytfbjeifhpmdjaaa", sum := "7ad9f171145ff75f789c1833e58ed47c3dde9b903620cae2d263c9dc04636d37", func := "verge/vergelaw4.TotalTwos", spec := "totalTwos", inPlace := ["math.Float64frombits", "math.Float64bits", "math/bits.Sub64", "math/bits.Add64"], apart := false, narrowed := true }
def TotalTwosUptoSaid : Prop := totalTwosUptoRow.holds Try.pinned (OpenSpec.upto totalTwosSpec)

end Rows
end Go.Proofs.Ytfbjeifhpmdjaaa
