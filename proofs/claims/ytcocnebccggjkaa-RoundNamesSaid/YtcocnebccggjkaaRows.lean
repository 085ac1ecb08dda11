/-
  No cell of these rows narrows 'for every input' (looked for: loops, veiled, ifaces, maps, wideKeys, modest, calm, conditions, laid).
  DERIVED. THE GIVEN ROWS OF THIS SEAT. 4 by the template 'for every input the law returns true; each argument reads behind the call as it read before'; 0 by the template 'total and deterministic' (their statements: YtcocnebccggjkaaTotals.lean).
  GIVEN WITH THE SEED: the statements are not yours to turn. If you find one false, say at which input.
  Laid BY PROGRAM, IN A SANDBOX (cutbox-rows.mjs): the forced cells as the released guide's own fill.sh prints them over the translation b899e0cfcecab1b2… (all of the seat's roots in one cut). By AI agents, Wed Nov 11 2026. No macro, syntax, notation, axiom, sorry.
-/
import Derived.Test.YtcocnebccggjkaaChecked
import GoSem.Claim
import GoSem.ClaimJoined
import GoSem.ClaimMapViews
import Derived.JoinedTies
import Derived.KernelRfl
namespace Go.Proofs.Ytcocnebccggjkaa
/- THE CELL 'sum', in the pinned program and in every row, IS THE sha256 OF THE DUMP (.gsa) THAT YtcocnebccggjkaaProg.lean LOADS. Nothing in Lean hashes anything: it is a label: what it is worth is what the hold of that sum in a sandbox is worth. -/
noncomputable def Try.pinned : Pinned := { name := "ytcocnebccggjkaa", sum := "b899e0cfcecab1b2c71b23cc63a1cee1bd27b59ec0a7890c15e3614f31634893", checked := Try.checked }
namespace Rows
def none {H : Type} : Left H := { results := [], args := [] }

/-- 'vergelaw3.RoundNames': WHATEVER THE INPUT: true; the input reads as it did. -/
def roundNamesSpec : ChangeSpec := { name := "roundNames", fn := fun _ => fun
  | [] => { results := [.lit (.bool true)], args := [] }
  | _ => none }
def roundNamesRow : OpenClaim := { program := "ytcocnebccggjkaa", sum := "b899e0cfcecab1b2c71b23cc63a1cee1bd27b59ec0a7890c15e3614f31634893", func := "verge/vergelaw3.RoundNames", spec := "roundNames", apart := false }
def RoundNamesSaid : Prop := roundNamesRow.holds Try.pinned (OpenSpec.ofChange roundNamesSpec)

/-- ITS FALSE NEIGHBOUR: 'it returns false'. Refute it at one input. -/
def roundNamesWrong : ChangeSpec := { name := "roundNames", fn := fun _ => fun
  | [] => { results := [.lit (.bool false)], args := [] }
  | _ => none }
def RoundNamesWrongFalsely : Prop := roundNamesRow.holds Try.pinned (OpenSpec.ofChange roundNamesWrong)

/-- 'vergelaw6.IvalMakes': WHATEVER THE INPUT: true; the input reads as it did. -/
def ivalMakesSpec : ChangeSpec := { name := "ivalMakes", fn := fun _ => fun
  | [d] => { results := [.lit (.bool true)], args := [d] }
  | _ => none }
def ivalMakesRow : OpenClaim := { program := "ytcocnebccggjkaa", sum := "b899e0cfcecab1b2c71b23cc63a1cee1bd27b59ec0a7890c15e3614f31634893", func := "verge/vergelaw6.IvalMakes", spec := "ivalMakes", inPlace := ["math.Float64frombits", "math.Float64bits"], apart := false }
def IvalMakesSaid : Prop := ivalMakesRow.holds Try.pinned (OpenSpec.ofChange ivalMakesSpec)

/-- ITS FALSE NEIGHBOUR: 'it returns false'. Refute it at one input. -/
def ivalMakesWrong : ChangeSpec := { name := "ivalMakes", fn := fun _ => fun
  | [d] => { results := [.lit (.bool false)], args := [d] }
  | _ => none }
def IvalMakesWrongFalsely : Prop := ivalMakesRow.holds Try.pinned (OpenSpec.ofChange ivalMakesWrong)

/-- 'vergelaw6.IvalReads': WHATEVER THE INPUT: true; the input reads as it did. -/
def ivalReadsSpec : ChangeSpec := { name := "ivalReads", fn := fun _ => fun
  | [d] => { results := [.lit (.bool true)], args := [d] }
  | _ => none }
def ivalReadsRow : OpenClaim := { program := "ytcocnebccggjkaa", sum := "b899e0cfcecab1b2c71b23cc63a1cee1bd27b59ec0a7890c15e3614f31634893", func := "verge/vergelaw6.IvalReads", spec := "ivalReads", inPlace := ["math.Float64frombits", "math.Float64bits"], apart := false }
def IvalReadsSaid : Prop := ivalReadsRow.holds Try.pinned (OpenSpec.ofChange ivalReadsSpec)

/-- ITS FALSE NEIGHBOUR: 'it returns false'. Refute it at one input. -/
def ivalReadsWrong : ChangeSpec := { name := "ivalReads", fn := fun _ => fun
  | [d] => { results := [.lit (.bool false)], args := [d] }
  | _ => none }
def IvalReadsWrongFalsely : Prop := ivalReadsRow.holds Try.pinned (OpenSpec.ofChange ivalReadsWrong)

/-- 'vergelaw6.IvalNegates': WHATEVER THE INPUT: true; the input reads as it did. -/
def ivalNegatesSpec : ChangeSpec := { name := "ivalNegates", fn := fun _ => fun
  | [d] => { results := [.lit (.bool true)], args := [d] }
  | _ => none }
def ivalNegatesRow : OpenClaim := { program := "ytcocnebccggjkaa", sum := "b899e0cfcecab1b2c71b23cc63a1cee1bd27b59ec0a7890c15e3614f31634893", func := "verge/vergelaw6.IvalNegates", spec := "ivalNegates", inPlace := ["math.Float64frombits", "math.Float64bits"], apart := false }
def IvalNegatesSaid : Prop := ivalNegatesRow.holds Try.pinned (OpenSpec.ofChange ivalNegatesSpec)

/-- ITS FALSE NEIGHBOUR: 'it returns false'. Refute it at one input. -/
def ivalNegatesWrong : ChangeSpec := { name := "ivalNegates", fn := fun _ => fun
  | [d] => { results := [.lit (.bool false)], args := [d] }
  | _ => none }
def IvalNegatesWrongFalsely : Prop := ivalNegatesRow.holds Try.pinned (OpenSpec.ofChange ivalNegatesWrong)

/- THE SECOND FORM. 'bulk': how many values and letters a reading holds, each counted each time it is reached (what is shared counts as often as it is met; a slice's spare places count too). A statement '..UptoSaid' is the law's where the arguments, and the package variables that the reading takes, are together of bulk at most 1048576: NARROWER than '..Said'. Prove '..Said' where nothing that the law and all that it calls make is longer than what came in: it says more and counts as full. Else prove '..UptoSaid'. A law counts once. -/
mutual
def uptoBulk {H : Type} : DataW H → Nat
  | .lit (.string bytes) => bytes.length + 1
  | .lit _ => 1
  | .nil => 1
  | .ptr d => uptoBulk d + 1
  | .slice elems spare => uptoBulkAll elems + uptoBulkAll spare + 1
  | .agg parts => uptoBulkAll parts + 1
  | .iface _ d => uptoBulk d + 1
  | .map entries => uptoBulkEntries entries + 1
  | .held _ => 1
def uptoBulkAll {H : Type} : List (DataW H) → Nat
  | [] => 0
  | d :: r => uptoBulk d + uptoBulkAll r
def uptoBulkEntries {H : Type} : List (Lit × DataW H) → Nat
  | [] => 0
  | x :: r => uptoBulkEntry x + uptoBulkEntries r
def uptoBulkEntry {H : Type} : Lit × DataW H → Nat
  | (.string bytes, d) => bytes.length + uptoBulk d + 1
  | (_, d) => uptoBulk d + 1
 end
def uptoSmall : (H : Type) → List (DataW H) → Bool := fun _ ds => decide (uptoBulkAll ds ≤ 1048576)
def OpenSpec.upto (s : _root_.Go.ChangeSpec) : _root_.Go.OpenSpec := { _root_.Go.OpenSpec.ofChange s with cond := some uptoSmall }

/-- 'vergelaw3.RoundNames', WHERE WHAT IT READS IS OF BULK AT MOST 1048576: true; the input reads as it did. -/
def roundNamesUptoRow : OpenClaim := { program := "ytcocnebccggjkaa", sum := "b899e0cfcecab1b2c71b23cc63a1cee1bd27b59ec0a7890c15e3614f31634893", func := "verge/vergelaw3.RoundNames", spec := "roundNames", apart := false, narrowed := true }
def RoundNamesUptoSaid : Prop := roundNamesUptoRow.holds Try.pinned (OpenSpec.upto roundNamesSpec)

/-- 'vergelaw6.IvalMakes', WHERE WHAT IT READS IS OF BULK AT MOST 1048576: true; the input reads as it did. -/
def ivalMakesUptoRow : OpenClaim := { program := "ytcocnebccggjkaa", sum := "b899e0cfcecab1b2c71b23cc63a1cee1bd27b59ec0a7890c15e3614f31634893", func := "verge/vergelaw6.IvalMakes", spec := "ivalMakes", inPlace := ["math.Float64frombits", "math.Float64bits"], apart := false, narrowed := true }
def IvalMakesUptoSaid : Prop := ivalMakesUptoRow.holds Try.pinned (OpenSpec.upto ivalMakesSpec)

/-- 'vergelaw6.IvalReads', WHERE WHAT IT READS IS OF BULK AT MOST 1048576: true; the input reads as it did. -/
def ivalReadsUptoRow : OpenClaim := { program := "ytcocnebccggjkaa", sum := "b899e0cfcecab1b2c71b23cc63a1cee1bd27b59ec0a7890c15e3614f31634893", func := "verge/vergelaw6.IvalReads", spec := "ivalReads", inPlace := ["math.Float64frombits", "math.Float64bits"], apart := false, narrowed := true }
def IvalReadsUptoSaid : Prop := ivalReadsUptoRow.holds Try.pinned (OpenSpec.upto ivalReadsSpec)

/-- 'vergelaw6.IvalNegates', WHERE WHAT IT READS IS OF BULK AT MOST 1048576: true; the input reads as it did. -/
def ivalNegatesUptoRow : OpenClaim := { program := "ytcocnebccggjkaa", sum := "b899e0cfcecab1b2c71b23cc63a1cee1bd27b59ec0a7890c15e3614f31634893", func := "verge/vergelaw6.IvalNegates", spec := "ivalNegates", inPlace := ["math.Float64frombits", "math.Float64bits"], apart := false, narrowed := true }
def IvalNegatesUptoSaid : Prop := ivalNegatesUptoRow.holds Try.pinned (OpenSpec.upto ivalNegatesSpec)

end Rows
end Go.Proofs.Ytcocnebccggjkaa
