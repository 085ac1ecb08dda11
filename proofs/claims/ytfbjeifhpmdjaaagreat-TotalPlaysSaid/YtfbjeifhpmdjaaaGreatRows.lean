/-
  No cell of these rows narrows 'for every input' (looked for: loops, veiled, ifaces, maps, wideKeys, modest, calm, conditions, laid).
  DERIVED. THE GIVEN ROWS OF THIS SEAT. 3 by the template 'for every input the law returns true; each argument reads behind the call as it read before'; 0 by the template 'total and deterministic' (their statements: YtfbjeifhpmdjaaaGreatTotals.lean).
  GIVEN WITH THE SEED: the statements are not yours to turn. If you find one false, say at which input.
  Laid BY PROGRAM, IN A SANDBOX (cutbox-rows.mjs): the forced cells as the released guide's own fill.sh prints them over the translation a36db1317c457d5f… (all of the seat's roots in one cut). By AI agents, Wed Nov 11 2026. No macro, syntax, notation, axiom, sorry.
-/
import Derived.Test.YtfbjeifhpmdjaaaGreatChecked
import GoSem.Claim
import GoSem.ClaimJoined
import GoSem.ClaimMapViews
import Derived.JoinedTies
import Derived.KernelRfl
namespace Go.Proofs.YtfbjeifhpmdjaaaGreat
/- THE CELL 'sum', in the pinned program and in every row, IS THE sha256 OF THE DUMP (.gsa) THAT YtfbjeifhpmdjaaaGreatProg.lean LOADS. Nothing in Lean hashes anything: it is a label: what it is worth is what the hold of that sum in a sandbox is worth. -/
noncomputable def Tryz.pinned : Pinned := { name := "ytfbjeifhpmdjaaagreat", sum := "a36db1317c457d5ffe618e590f2c2b99582828aa9ea63ea0bb1b198b2e292e75", checked := Tryz.checked }
namespace Rows
def none {H : Type} : Left H := { results := [], args := [] }

/-- 'vergelaw4.TotalDots': WHATEVER THE INPUT: true; the input reads as it did. -/
def totalDotsSpec : ChangeSpec := { name := "totalDots", fn := fun _ => fun
  | [d1, d2, d3] => { results := [.lit (.bool true)], args := [d1, d2, d3] }
  | _ => none }
def totalDotsRow : OpenClaim := { program := "ytfbjeifhpmdjaaagreat", sum := "a36db1317c457d5ffe618e590f2c2b99582828aa9ea63ea0bb1b198b2e292e75", func := "verge/vergelaw4.TotalDots", spec := "totalDots", inPlace := ["math.Float64frombits", "math.Float64bits", "math/bits.Sub64", "math/bits.Add64"], apart := false }
def TotalDotsSaid : Prop := totalDotsRow.holds Tryz.pinned (OpenSpec.ofChange totalDotsSpec)

/-- ITS FALSE NEIGHBOUR: 'it returns false'. Refute it at one input. -/
def totalDotsWrong : ChangeSpec := { name := "totalDots", fn := fun _ => fun
  | [d1, d2, d3] => { results := [.lit (.bool false)], args := [d1, d2, d3] }
  | _ => none }
def TotalDotsWrongFalsely : Prop := totalDotsRow.holds Tryz.pinned (OpenSpec.ofChange totalDotsWrong)

/-- 'vergelaw4.TotalLists': WHATEVER THE INPUT: true; the input reads as it did. -/
def totalListsSpec : ChangeSpec := { name := "totalLists", fn := fun _ => fun
  | [d1, d2] => { results := [.lit (.bool true)], args := [d1, d2] }
  | _ => none }
def totalListsRow : OpenClaim := { program := "ytfbjeifhpmdjaaagreat", sum := "a36db1317c457d5ffe618e590f2c2b99582828aa9ea63ea0bb1b198b2e292e75", func := "verge/vergelaw4.TotalLists", spec := "totalLists", inPlace := ["math.Float64frombits", "math.Float64bits", "math/bits.Sub64", "math/bits.Add64"], apart := false }
def TotalListsSaid : Prop := totalListsRow.holds Tryz.pinned (OpenSpec.ofChange totalListsSpec)

/-- ITS FALSE NEIGHBOUR: 'it returns false'. Refute it at one input. -/
def totalListsWrong : ChangeSpec := { name := "totalLists", fn := fun _ => fun
  | [d1, d2] => { results := [.lit (.bool false)], args := [d1, d2] }
  | _ => none }
def TotalListsWrongFalsely : Prop := totalListsRow.holds Tryz.pinned (OpenSpec.ofChange totalListsWrong)

/-- 'vergelaw4.TotalPlays': WHATEVER THE INPUT: true; the input reads as it did. -/
def totalPlaysSpec : ChangeSpec := { name := "totalPlays", fn := fun _ => fun
  | [d] => { results := [.lit (.bool true)], args := [d] }
  | _ => none }
def totalPlaysRow : OpenClaim := { program := "ytfbjeifhpmdjaaagreat", sum := "a36db1317c457d5ffe618e590f2c2b99582828aa9ea63ea0bb1b198b2e292e75", func := "verge/vergelaw4.TotalPlays", spec := "totalPlays", inPlace := ["math.Float64bits", "math.Float64frombits", "math/bits.Sub64", "math/bits.Add64"], apart := false }
def TotalPlaysSaid : Prop := totalPlaysRow.holds Tryz.pinned (OpenSpec.ofChange totalPlaysSpec)

/-- ITS FALSE NEIGHBOUR: 'it returns false'. Refute it at one input. -/
def totalPlaysWrong : ChangeSpec := { name := "totalPlays", fn := fun _ => fun
  | [d] => { results := [.lit (.bool false)], args := [d] }
  | _ => none }
def TotalPlaysWrongFalsely : Prop := totalPlaysRow.holds Tryz.pinned (OpenSpec.ofChange totalPlaysWrong)

/- THE SECOND FORM. 'bulk': how many values and letters a reading holds, each counted each time it is reached (what is shared counts as often as it is met; a slice's spare places count too). A statement '..UptoSaid' is the law's where the arguments, and the package variables that the reading takes, are together of bulk at most 1048576: NARROWER than '..Said'. Prove '..Said' where nothing that the law and all that it calls make is longer than what came in: it says more and counts as full. Else prove '..UptoSaid'. A law counts once. -/
mutual
def uptoBulk {H : Type} : DataW H → Nat
  | .lit (.string bytes) => bytes.length + 1
  | .lit _ => 1
  | .nil => 1
  | .ptr d => uptoBulk d + 1
  | .slice elems spare => uptoBulkAll elems + uptoBulkAll spare + 1
  | .agg parts => uptoBulkAll parts + 1
  | .iface _ d => uptoBulk d + 1
  | .map entries => uptoBulkEntries entries + 1
  | .held _ => 1
def uptoBulkAll {H : Type} : List (DataW H) → Nat
  | [] => 0
  | d :: r => uptoBulk d + uptoBulkAll r
def uptoBulkEntries {H : Type} : List (Lit × DataW H) → Nat
  | [] => 0
  | x :: r => uptoBulkEntry x + uptoBulkEntries r
def uptoBulkEntry {H : Type} : Lit × DataW H → Nat
  | (.string bytes, d) => bytes.length + uptoBulk d + 1
  | (_, d) => uptoBulk d + 1
 end
def uptoSmall : (H : Type) → List (DataW H) → Bool := fun _ ds => decide (uptoBulkAll ds ≤ 1048576)
def OpenSpec.upto (s : _root_.Go.ChangeSpec) : _root_.Go.OpenSpec := { _root_.Go.OpenSpec.ofChange s with cond := some uptoSmall }

/-- 'vergelaw4.TotalDots', WHERE WHAT IT READS IS OF BULK AT MOST 1048576: true; the input reads as it did. -/
def totalDotsUptoRow : OpenClaim := { program := "ytfbjeifhpmdjaaagreat", sum := "a36db1317c457d5ffe618e590f2c2b99582828aa9ea63ea0bb1b198b2e292e75", func := "verge/vergelaw4.TotalDots", spec := "totalDots", inPlace := ["math.Float64frombits", "math.Float64bits", "math/bits.Sub64", "math/bits.Add64"], apart := false, narrowed := true }
def TotalDotsUptoSaid : Prop := totalDotsUptoRow.holds Tryz.pinned (OpenSpec.upto totalDotsSpec)

/-- 'vergelaw4.TotalLists', WHERE WHAT IT READS IS OF BULK AT MOST 1048576: true; the input reads as it did. -/
def totalListsUptoRow : OpenClaim := { program := "ytfbjeifhpmdjaaagreat", sum := "a36db1317c457d5ffe618e590f2c2b99582828aa9ea63ea0bb1b198b2e292e75", func := "verge/vergelaw4.TotalLists", spec := "totalLists", inPlace := ["math.Float64frombits", "math.Float64bits", "math/bits.Sub64", "math/bits.Add64"], apart := false, narrowed := true }
def TotalListsUptoSaid : Prop := totalListsUptoRow.holds Tryz.pinned (OpenSpec.upto totalListsSpec)

/-- 'vergelaw4.TotalPlays', WHERE WHAT IT READS IS OF BULK AT MOST 1048576: true; the input reads as it did. -/
def totalPlaysUptoRow : OpenClaim := { program := "ytfbjeifhpmdjaaagreat", sum := "a36db1317c457d5ffe618e590f2c2b99582828aa9ea63ea0bb1b198b2e292e75", func := "verge/vergelaw4.TotalPlays", spec := "totalPlays", inPlace := ["math.Float64bits", "math.Float64frombits", "math/bits.Sub64", "math/bits.Add64"], apart := false, narrowed := true }
def TotalPlaysUptoSaid : Prop := totalPlaysUptoRow.holds Tryz.pinned (OpenSpec.upto totalPlaysSpec)

end Rows
end Go.Proofs.YtfbjeifhpmdjaaaGreat
