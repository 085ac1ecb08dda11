/-
  No cell of these rows narrows 'for every input' (looked for: loops, veiled, ifaces, maps, wideKeys, modest, calm, conditions, laid).
  DERIVED. THE GIVEN ROWS OF THIS SEAT. 3 by the template 'for every input the law returns true; each argument reads behind the call as it read before'; 0 by the template 'total and deterministic' (their statements: YtllfcklgljdgeaaTotals.lean).
  GIVEN WITH THE SEED: the statements are not yours to turn. If you find one false, say at which input.
  Laid BY PROGRAM, IN A SANDBOX (cutbox-rows.mjs): the forced cells as the released guide's own fill.sh prints them over the translation 9d9dcaa1f0ebdf75… (all of the seat's roots in one cut). By AI agents, Wed Nov 11 2026. No macro, syntax, notation, axiom, sorry.
-/
import Derived.Test.YtllfcklgljdgeaaChecked
import GoSem.Claim
import GoSem.ClaimJoined
import GoSem.ClaimMapViews
import Derived.JoinedTies
import Derived.KernelRfl
namespace Go.Proofs.Ytllfcklgljdgeaa
/- THE CELL 'sum', in the pinned program and in every row, IS THE sha256 OF THE DUMP (.gsa) THAT YtllfcklgljdgeaaProg.lean LOADS. Nothing in Lean hashes anything: it is a label: what it is worth is what the hold of that sum in a sandbox is worth. -/
noncomputable def Try.pinned : Pinned := { name := "ytllfcklgljdgeaa", sum := "9d9dcaa1f0ebdf7551eea6c03cf41d00aed7235a6ac4f0645bea25ee764d54d2", checked := Try.checked }
namespace Rows
def none {H : Type} : Left H := { results := [], args := [] }

/-- 'vergelaw6.IvalSquares': WHATEVER THE INPUT: true; the input reads as it did. -/
def ivalSquaresSpec : ChangeSpec := { name := "ivalSquares", fn := fun _ => fun
  | [d] => { results := [.lit (.bool true)], args := [d] }
  | _ => none }
def ivalSquaresRow : OpenClaim := { program := "ytllfcklgljdgeaa", sum := "9d9dcaa1f0ebdf7551eea6c03cf41d00aed7235a6ac4f0645bea25ee764d54d2", func := "verge/vergelaw6.IvalSquares", spec := "ivalSquares", inPlace := ["math.Float64frombits", "math.Float64bits"], apart := false }
def IvalSquaresSaid : Prop := ivalSquaresRow.holds Try.pinned (OpenSpec.ofChange ivalSquaresSpec)

/-- ITS FALSE NEIGHBOUR: 'it returns false'. Refute it at one input. -/
def ivalSquaresWrong : ChangeSpec := { name := "ivalSquares", fn := fun _ => fun
  | [d] => { results := [.lit (.bool false)], args := [d] }
  | _ => none }
def IvalSquaresWrongFalsely : Prop := ivalSquaresRow.holds Try.pinned (OpenSpec.ofChange ivalSquaresWrong)

/-- 'vergelaw6.IvalAdds': WHATEVER THE INPUT: true; the input reads as it did. -/
def ivalAddsSpec : ChangeSpec := { name := "ivalAdds", fn := fun _ => fun
  | [d1, d2] => { results := [.lit (.bool true)], args := [d1, d2] }
  | _ => none }
def ivalAddsRow : OpenClaim := { program := "ytllfcklgljdgeaa", sum := "9d9dcaa1f0ebdf7551eea6c03cf41d00aed7235a6ac4f0645bea25ee764d54d2", func := "verge/vergelaw6.IvalAdds", spec := "ivalAdds", inPlace := ["math.Float64frombits", "math.Float64bits"], apart := false }
def IvalAddsSaid : Prop := ivalAddsRow.holds Try.pinned (OpenSpec.ofChange ivalAddsSpec)

/-- ITS FALSE NEIGHBOUR: 'it returns false'. Refute it at one input. -/
def ivalAddsWrong : ChangeSpec := { name := "ivalAdds", fn := fun _ => fun
  | [d1, d2] => { results := [.lit (.bool false)], args := [d1, d2] }
  | _ => none }
def IvalAddsWrongFalsely : Prop := ivalAddsRow.holds Try.pinned (OpenSpec.ofChange ivalAddsWrong)

/-- 'vergelaw6.IvalSubtracts': WHATEVER THE INPUT: true; the input reads as it did. -/
def ivalSubtractsSpec : ChangeSpec := { name := "ivalSubtracts", fn := fun _ => fun
  | [d1, d2] => { results := [.lit (.bool true)], args := [d1, d2] }
  | _ => none }
def ivalSubtractsRow : OpenClaim := { program := "ytllfcklgljdgeaa", sum := "9d9dcaa1f0ebdf7551eea6c03cf41d00aed7235a6ac4f0645bea25ee764d54d2", func := "verge/vergelaw6.IvalSubtracts", spec := "ivalSubtracts", inPlace := ["math.Float64frombits", "math.Float64bits"], apart := false }
def IvalSubtractsSaid : Prop := ivalSubtractsRow.holds Try.pinned (OpenSpec.ofChange ivalSubtractsSpec)

/-- ITS FALSE NEIGHBOUR: 'it returns false'. Refute it at one input. -/
def ivalSubtractsWrong : ChangeSpec := { name := "ivalSubtracts", fn := fun _ => fun
  | [d1, d2] => { results := [.lit (.bool false)], args := [d1, d2] }
  | _ => none }
def IvalSubtractsWrongFalsely : Prop := ivalSubtractsRow.holds Try.pinned (OpenSpec.ofChange ivalSubtractsWrong)

/- THE SECOND FORM. 'bulk': how many values and letters a reading holds, each counted each time it is reached (what is shared counts as often as it is met; a slice's spare places count too). A statement '..UptoSaid' is the law's where the arguments, and the package variables that the reading takes, are together of bulk at most 1048576: NARROWER than '..Said'. Prove '..Said' where nothing that the law and all that it calls make is longer than what came in: it says more and counts as full. Else prove '..UptoSaid'. A law counts once. -/
mutual
def uptoBulk {H : Type} : DataW H → Nat
  | .lit (.string bytes) => bytes.length + 1
  | .lit _ => 1
  | .nil => 1
  | .ptr d => uptoBulk d + 1
  | .slice elems spare => uptoBulkAll elems + uptoBulkAll spare + 1
  | .agg parts => uptoBulkAll parts + 1
  | .iface _ d => uptoBulk d + 1
  | .map entries => uptoBulkEntries entries + 1
  | .held _ => 1
def uptoBulkAll {H : Type} : List (DataW H) → Nat
  | [] => 0
  | d :: r => uptoBulk d + uptoBulkAll r
def uptoBulkEntries {H : Type} : List (Lit × DataW H) → Nat
  | [] => 0
  | x :: r => uptoBulkEntry x + uptoBulkEntries r
def uptoBulkEntry {H : Type} : Lit × DataW H → Nat
  | (.string bytes, d) => bytes.length + uptoBulk d + 1
  | (_, d) => uptoBulk d + 1
 end
def uptoSmall : (H : Type) → List (DataW H) → Bool := fun _ ds => decide (uptoBulkAll ds ≤ 1048576)
def OpenSpec.upto (s : _root_.Go.ChangeSpec) : _root_.Go.OpenSpec := { _root_.Go.OpenSpec.ofChange s with cond := some uptoSmall }

/-- 'vergelaw6.IvalSquares', WHERE WHAT IT READS IS OF BULK AT MOST 1048576: true; the input reads as it did. -/
def ivalSquaresUptoRow : OpenClaim := { program := "ytllfcklgljdgeaa", sum := "9d9dcaa1f0ebdf7551eea6c03cf41d00aed7235a6ac4f0645bea25ee764d54d2", func := "verge/vergelaw6.IvalSquares", spec := "ivalSquares", inPlace := ["math.Float64frombits", "math.Float64bits"], apart := false, narrowed := true }
def IvalSquaresUptoSaid : Prop := ivalSquaresUptoRow.holds Try.pinned (OpenSpec.upto ivalSquaresSpec)

/-- 'vergelaw6.IvalAdds', WHERE WHAT IT READS IS OF BULK AT MOST 1048576: true; the input reads as it did. -/
def ivalAddsUptoRow : OpenClaim := { program := "ytllfcklgljdgeaa", sum := "9d9dcaa1f0ebdf7551eea6c03cf41d00aed7235a6ac4f0645bea25ee764d54d2", func := "verge/vergelaw6.IvalAdds", spec := "ivalAdds", inPlace := ["math.Float64frombits", "math.Float64bits"], apart := false, narrowed := true }
def IvalAddsUptoSaid : Prop := ivalAddsUptoRow.holds Try.pinned (OpenSpec.upto ivalAddsSpec)

/-- 'vergelaw6.IvalSubtracts', WHERE WHAT IT READS IS OF BULK AT MOST 1048576: true; the input reads as it did. -/
def ivalSubtractsUptoRow : OpenClaim := { program := "ytllfcklgljdgeaa", sum := "9d9dcaa1f0ebdf7551eea6c03cf41d00aed7235a6ac4f0645bea25ee764d54d2", func := "verge/vergelaw6.IvalSubtracts", spec := "ivalSubtracts", inPlace := ["math.Float64frombits", "math.Float64bits"], apart := false, narrowed := true }
def IvalSubtractsUptoSaid : Prop := ivalSubtractsUptoRow.holds Try.pinned (OpenSpec.upto ivalSubtractsSpec)

end Rows
end Go.Proofs.Ytllfcklgljdgeaa
