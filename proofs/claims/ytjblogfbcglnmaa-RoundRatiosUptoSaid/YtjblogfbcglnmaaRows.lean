/-
  No cell of these rows narrows 'for every input' (looked for: loops, veiled, ifaces, maps, wideKeys, modest, calm, conditions, laid).
  DERIVED. THE GIVEN ROWS OF THIS SEAT. 14 by the template 'for every input the law returns true; each argument reads behind the call as it read before'; 0 by the template 'total and deterministic' (their statements: YtjblogfbcglnmaaTotals.lean).
  GIVEN WITH THE SEED: the statements are not yours to turn. If you find one false, say at which input.
  Laid BY PROGRAM, IN A SANDBOX (cutbox-rows.mjs): the forced cells as the released guide's own fill.sh prints them over the translation d3466b1f2877008d… (all of the seat's roots in one cut). By AI agents, Wed Nov 11 2026. No macro, syntax, notation, axiom, sorry.
-/
import Derived.Test.YtjblogfbcglnmaaChecked
import GoSem.Claim
import GoSem.ClaimJoined
import GoSem.ClaimMapViews
import Derived.JoinedTies
import Derived.KernelRfl
namespace Go.Proofs.Ytjblogfbcglnmaa
/- THE CELL 'sum', in the pinned program and in every row, IS THE sha256 OF THE DUMP (.gsa) THAT YtjblogfbcglnmaaProg.lean LOADS. Nothing in Lean hashes anything: it is a label: what it is worth is what the hold of that sum in a sandbox is worth. -/
noncomputable def Try.pinned : Pinned := { name := "ytjblogfbcglnmaa", sum := "d3466b1f2877008d14c72fde5eb6aa73aba4af951aac5d52899d0bee28cdb82e", checked := Try.checked }
namespace Rows
def none {H : Type} : Left H := { results := [], args := [] }

/-- 'vergelaw3.RoundNames': WHATEVER THE INPUT: true; the input reads as it did. -/
def roundNamesSpec : ChangeSpec := { name := "roundNames", fn := fun _ => fun
  | [] => { results := [.lit (.bool true)], args := [] }
  | _ => none }
def roundNamesRow : OpenClaim := { program := "ytjblogfbcglnmaa", sum := "d3466b1f2877008d14c72fde5eb6aa73aba4af951aac5d52899d0bee28cdb82e", func := "verge/vergelaw3.RoundNames", spec := "roundNames", apart := false }
def RoundNamesSaid : Prop := roundNamesRow.holds Try.pinned (OpenSpec.ofChange roundNamesSpec)

/-- ITS FALSE NEIGHBOUR: 'it returns false'. Refute it at one input. -/
def roundNamesWrong : ChangeSpec := { name := "roundNames", fn := fun _ => fun
  | [] => { results := [.lit (.bool false)], args := [] }
  | _ => none }
def RoundNamesWrongFalsely : Prop := roundNamesRow.holds Try.pinned (OpenSpec.ofChange roundNamesWrong)

/-- 'vergelaw3.RoundNarrows': WHATEVER THE INPUT: true; the input reads as it did. -/
def roundNarrowsSpec : ChangeSpec := { name := "roundNarrows", fn := fun _ => fun
  | [d1, d2] => { results := [.lit (.bool true)], args := [d1, d2] }
  | _ => none }
def roundNarrowsRow : OpenClaim := { program := "ytjblogfbcglnmaa", sum := "d3466b1f2877008d14c72fde5eb6aa73aba4af951aac5d52899d0bee28cdb82e", func := "verge/vergelaw3.RoundNarrows", spec := "roundNarrows", inPlace := ["math.Float64frombits", "math.Float32frombits", "math.Float64bits", "math.Float32bits"], apart := false }
def RoundNarrowsSaid : Prop := roundNarrowsRow.holds Try.pinned (OpenSpec.ofChange roundNarrowsSpec)

/-- ITS FALSE NEIGHBOUR: 'it returns false'. Refute it at one input. -/
def roundNarrowsWrong : ChangeSpec := { name := "roundNarrows", fn := fun _ => fun
  | [d1, d2] => { results := [.lit (.bool false)], args := [d1, d2] }
  | _ => none }
def RoundNarrowsWrongFalsely : Prop := roundNarrowsRow.holds Try.pinned (OpenSpec.ofChange roundNarrowsWrong)

/-- 'vergelaw3.RoundOfs': WHATEVER THE INPUT: true; the input reads as it did. -/
def roundOfsSpec : ChangeSpec := { name := "roundOfs", fn := fun _ => fun
  | [d] => { results := [.lit (.bool true)], args := [d] }
  | _ => none }
def roundOfsRow : OpenClaim := { program := "ytjblogfbcglnmaa", sum := "d3466b1f2877008d14c72fde5eb6aa73aba4af951aac5d52899d0bee28cdb82e", func := "verge/vergelaw3.RoundOfs", spec := "roundOfs", inPlace := ["math.Float64frombits", "math.Float64bits"], apart := false }
def RoundOfsSaid : Prop := roundOfsRow.holds Try.pinned (OpenSpec.ofChange roundOfsSpec)

/-- ITS FALSE NEIGHBOUR: 'it returns false'. Refute it at one input. -/
def roundOfsWrong : ChangeSpec := { name := "roundOfs", fn := fun _ => fun
  | [d] => { results := [.lit (.bool false)], args := [d] }
  | _ => none }
def RoundOfsWrongFalsely : Prop := roundOfsRow.holds Try.pinned (OpenSpec.ofChange roundOfsWrong)

/-- 'vergelaw3.RoundProducts': WHATEVER THE INPUT: true; the input reads as it did. -/
def roundProductsSpec : ChangeSpec := { name := "roundProducts", fn := fun _ => fun
  | [d1, d2, d3] => { results := [.lit (.bool true)], args := [d1, d2, d3] }
  | _ => none }
def roundProductsRow : OpenClaim := { program := "ytjblogfbcglnmaa", sum := "d3466b1f2877008d14c72fde5eb6aa73aba4af951aac5d52899d0bee28cdb82e", func := "verge/vergelaw3.RoundProducts", spec := "roundProducts", inPlace := ["math.Float64frombits", "math.Float64bits"], apart := false }
def RoundProductsSaid : Prop := roundProductsRow.holds Try.pinned (OpenSpec.ofChange roundProductsSpec)

/-- ITS FALSE NEIGHBOUR: 'it returns false'. Refute it at one input. -/
def roundProductsWrong : ChangeSpec := { name := "roundProducts", fn := fun _ => fun
  | [d1, d2, d3] => { results := [.lit (.bool false)], args := [d1, d2, d3] }
  | _ => none }
def RoundProductsWrongFalsely : Prop := roundProductsRow.holds Try.pinned (OpenSpec.ofChange roundProductsWrong)

/-- 'vergelaw3.RoundSums': WHATEVER THE INPUT: true; the input reads as it did. -/
def roundSumsSpec : ChangeSpec := { name := "roundSums", fn := fun _ => fun
  | [d1, d2, d3] => { results := [.lit (.bool true)], args := [d1, d2, d3] }
  | _ => none }
def roundSumsRow : OpenClaim := { program := "ytjblogfbcglnmaa", sum := "d3466b1f2877008d14c72fde5eb6aa73aba4af951aac5d52899d0bee28cdb82e", func := "verge/vergelaw3.RoundSums", spec := "roundSums", inPlace := ["math.Float64frombits", "math.Float64bits"], apart := false }
def RoundSumsSaid : Prop := roundSumsRow.holds Try.pinned (OpenSpec.ofChange roundSumsSpec)

/-- ITS FALSE NEIGHBOUR: 'it returns false'. Refute it at one input. -/
def roundSumsWrong : ChangeSpec := { name := "roundSums", fn := fun _ => fun
  | [d1, d2, d3] => { results := [.lit (.bool false)], args := [d1, d2, d3] }
  | _ => none }
def RoundSumsWrongFalsely : Prop := roundSumsRow.holds Try.pinned (OpenSpec.ofChange roundSumsWrong)

/-- 'vergelaw3.RoundRatios': WHATEVER THE INPUT: true; the input reads as it did. -/
def roundRatiosSpec : ChangeSpec := { name := "roundRatios", fn := fun _ => fun
  | [d] => { results := [.lit (.bool true)], args := [d] }
  | _ => none }
def roundRatiosRow : OpenClaim := { program := "ytjblogfbcglnmaa", sum := "d3466b1f2877008d14c72fde5eb6aa73aba4af951aac5d52899d0bee28cdb82e", func := "verge/vergelaw3.RoundRatios", spec := "roundRatios", inPlace := ["math.Float64frombits", "math.Float64bits"], apart := false }
def RoundRatiosSaid : Prop := roundRatiosRow.holds Try.pinned (OpenSpec.ofChange roundRatiosSpec)

/-- ITS FALSE NEIGHBOUR: 'it returns false'. Refute it at one input. -/
def roundRatiosWrong : ChangeSpec := { name := "roundRatios", fn := fun _ => fun
  | [d] => { results := [.lit (.bool false)], args := [d] }
  | _ => none }
def RoundRatiosWrongFalsely : Prop := roundRatiosRow.holds Try.pinned (OpenSpec.ofChange roundRatiosWrong)

/-- 'vergelaw3.RoundFused': WHATEVER THE INPUT: true; the input reads as it did. -/
def roundFusedSpec : ChangeSpec := { name := "roundFused", fn := fun _ => fun
  | [d1, d2] => { results := [.lit (.bool true)], args := [d1, d2] }
  | _ => none }
def roundFusedRow : OpenClaim := { program := "ytjblogfbcglnmaa", sum := "d3466b1f2877008d14c72fde5eb6aa73aba4af951aac5d52899d0bee28cdb82e", func := "verge/vergelaw3.RoundFused", spec := "roundFused", inPlace := ["math.Float64frombits", "math.Float64bits"], apart := false }
def RoundFusedSaid : Prop := roundFusedRow.holds Try.pinned (OpenSpec.ofChange roundFusedSpec)

/-- ITS FALSE NEIGHBOUR: 'it returns false'. Refute it at one input. -/
def roundFusedWrong : ChangeSpec := { name := "roundFused", fn := fun _ => fun
  | [d1, d2] => { results := [.lit (.bool false)], args := [d1, d2] }
  | _ => none }
def RoundFusedWrongFalsely : Prop := roundFusedRow.holds Try.pinned (OpenSpec.ofChange roundFusedWrong)

/-- 'vergelaw3.RoundRoots': WHATEVER THE INPUT: true; the input reads as it did. -/
def roundRootsSpec : ChangeSpec := { name := "roundRoots", fn := fun _ => fun
  | [d1, d2, d3] => { results := [.lit (.bool true)], args := [d1, d2, d3] }
  | _ => none }
def roundRootsRow : OpenClaim := { program := "ytjblogfbcglnmaa", sum := "d3466b1f2877008d14c72fde5eb6aa73aba4af951aac5d52899d0bee28cdb82e", func := "verge/vergelaw3.RoundRoots", spec := "roundRoots", inPlace := ["math.Float64frombits", "math.Float64bits"], recurses := true, apart := false }
def RoundRootsSaid : Prop := roundRootsRow.holds Try.pinned (OpenSpec.ofChange roundRootsSpec)

/-- ITS FALSE NEIGHBOUR: 'it returns false'. Refute it at one input. -/
def roundRootsWrong : ChangeSpec := { name := "roundRoots", fn := fun _ => fun
  | [d1, d2, d3] => { results := [.lit (.bool false)], args := [d1, d2, d3] }
  | _ => none }
def RoundRootsWrongFalsely : Prop := roundRootsRow.holds Try.pinned (OpenSpec.ofChange roundRootsWrong)

/-- 'vergelaw3.RoundQuotients': WHATEVER THE INPUT: true; the input reads as it did. -/
def roundQuotientsSpec : ChangeSpec := { name := "roundQuotients", fn := fun _ => fun
  | [d1, d2, d3] => { results := [.lit (.bool true)], args := [d1, d2, d3] }
  | _ => none }
def roundQuotientsRow : OpenClaim := { program := "ytjblogfbcglnmaa", sum := "d3466b1f2877008d14c72fde5eb6aa73aba4af951aac5d52899d0bee28cdb82e", func := "verge/vergelaw3.RoundQuotients", spec := "roundQuotients", inPlace := ["math.Float64frombits", "math.Float64bits"], apart := false }
def RoundQuotientsSaid : Prop := roundQuotientsRow.holds Try.pinned (OpenSpec.ofChange roundQuotientsSpec)

/-- ITS FALSE NEIGHBOUR: 'it returns false'. Refute it at one input. -/
def roundQuotientsWrong : ChangeSpec := { name := "roundQuotients", fn := fun _ => fun
  | [d1, d2, d3] => { results := [.lit (.bool false)], args := [d1, d2, d3] }
  | _ => none }
def RoundQuotientsWrongFalsely : Prop := roundQuotientsRow.holds Try.pinned (OpenSpec.ofChange roundQuotientsWrong)

/-- 'vergelaw3.RoundSquareRoots': WHATEVER THE INPUT: true; the input reads as it did. -/
def roundSquareRootsSpec : ChangeSpec := { name := "roundSquareRoots", fn := fun _ => fun
  | [d1, d2] => { results := [.lit (.bool true)], args := [d1, d2] }
  | _ => none }
def roundSquareRootsRow : OpenClaim := { program := "ytjblogfbcglnmaa", sum := "d3466b1f2877008d14c72fde5eb6aa73aba4af951aac5d52899d0bee28cdb82e", func := "verge/vergelaw3.RoundSquareRoots", spec := "roundSquareRoots", inPlace := ["math.Float64frombits", "math.Float64bits", "math.sqrt"], recurses := true, apart := false }
def RoundSquareRootsSaid : Prop := roundSquareRootsRow.holds Try.pinned (OpenSpec.ofChange roundSquareRootsSpec)

/-- ITS FALSE NEIGHBOUR: 'it returns false'. Refute it at one input. -/
def roundSquareRootsWrong : ChangeSpec := { name := "roundSquareRoots", fn := fun _ => fun
  | [d1, d2] => { results := [.lit (.bool false)], args := [d1, d2] }
  | _ => none }
def RoundSquareRootsWrongFalsely : Prop := roundSquareRootsRow.holds Try.pinned (OpenSpec.ofChange roundSquareRootsWrong)

/-- 'vergelaw3.RoundTightRoots': WHATEVER THE INPUT: true; the input reads as it did. -/
def roundTightRootsSpec : ChangeSpec := { name := "roundTightRoots", fn := fun _ => fun
  | [d1, d2] => { results := [.lit (.bool true)], args := [d1, d2] }
  | _ => none }
def roundTightRootsRow : OpenClaim := { program := "ytjblogfbcglnmaa", sum := "d3466b1f2877008d14c72fde5eb6aa73aba4af951aac5d52899d0bee28cdb82e", func := "verge/vergelaw3.RoundTightRoots", spec := "roundTightRoots", inPlace := ["math.Float64frombits", "math.Float64bits", "math.sqrt"], recurses := true, apart := false }
def RoundTightRootsSaid : Prop := roundTightRootsRow.holds Try.pinned (OpenSpec.ofChange roundTightRootsSpec)

/-- ITS FALSE NEIGHBOUR: 'it returns false'. Refute it at one input. -/
def roundTightRootsWrong : ChangeSpec := { name := "roundTightRoots", fn := fun _ => fun
  | [d1, d2] => { results := [.lit (.bool false)], args := [d1, d2] }
  | _ => none }
def RoundTightRootsWrongFalsely : Prop := roundTightRootsRow.holds Try.pinned (OpenSpec.ofChange roundTightRootsWrong)

/-- 'vergelaw3.RoundTight': WHATEVER THE INPUT: true; the input reads as it did. -/
def roundTightSpec : ChangeSpec := { name := "roundTight", fn := fun _ => fun
  | [d] => { results := [.lit (.bool true)], args := [d] }
  | _ => none }
def roundTightRow : OpenClaim := { program := "ytjblogfbcglnmaa", sum := "d3466b1f2877008d14c72fde5eb6aa73aba4af951aac5d52899d0bee28cdb82e", func := "verge/vergelaw3.RoundTight", spec := "roundTight", inPlace := ["math.Float64frombits", "math.Float64bits", "math.sqrt"], recurses := true, apart := false }
def RoundTightSaid : Prop := roundTightRow.holds Try.pinned (OpenSpec.ofChange roundTightSpec)

/-- ITS FALSE NEIGHBOUR: 'it returns false'. Refute it at one input. -/
def roundTightWrong : ChangeSpec := { name := "roundTight", fn := fun _ => fun
  | [d] => { results := [.lit (.bool false)], args := [d] }
  | _ => none }
def RoundTightWrongFalsely : Prop := roundTightRow.holds Try.pinned (OpenSpec.ofChange roundTightWrong)

/-- 'vergelaw3.RoundMirrors': WHATEVER THE INPUT: true; the input reads as it did. -/
def roundMirrorsSpec : ChangeSpec := { name := "roundMirrors", fn := fun _ => fun
  | [d] => { results := [.lit (.bool true)], args := [d] }
  | _ => none }
def roundMirrorsRow : OpenClaim := { program := "ytjblogfbcglnmaa", sum := "d3466b1f2877008d14c72fde5eb6aa73aba4af951aac5d52899d0bee28cdb82e", func := "verge/vergelaw3.RoundMirrors", spec := "roundMirrors", inPlace := ["math.Float64frombits", "math.Float64bits", "math.sqrt"], recurses := true, apart := false }
def RoundMirrorsSaid : Prop := roundMirrorsRow.holds Try.pinned (OpenSpec.ofChange roundMirrorsSpec)

/-- ITS FALSE NEIGHBOUR: 'it returns false'. Refute it at one input. -/
def roundMirrorsWrong : ChangeSpec := { name := "roundMirrors", fn := fun _ => fun
  | [d] => { results := [.lit (.bool false)], args := [d] }
  | _ => none }
def RoundMirrorsWrongFalsely : Prop := roundMirrorsRow.holds Try.pinned (OpenSpec.ofChange roundMirrorsWrong)

/-- 'vergelaw3.RoundRises': WHATEVER THE INPUT: true; the input reads as it did. -/
def roundRisesSpec : ChangeSpec := { name := "roundRises", fn := fun _ => fun
  | [d1, d2] => { results := [.lit (.bool true)], args := [d1, d2] }
  | _ => none }
def roundRisesRow : OpenClaim := { program := "ytjblogfbcglnmaa", sum := "d3466b1f2877008d14c72fde5eb6aa73aba4af951aac5d52899d0bee28cdb82e", func := "verge/vergelaw3.RoundRises", spec := "roundRises", inPlace := ["math.Float64frombits", "math.Float64bits", "math.Float32frombits", "math.Float32bits", "math.sqrt"], recurses := true, apart := false }
def RoundRisesSaid : Prop := roundRisesRow.holds Try.pinned (OpenSpec.ofChange roundRisesSpec)

/-- ITS FALSE NEIGHBOUR: 'it returns false'. Refute it at one input. -/
def roundRisesWrong : ChangeSpec := { name := "roundRises", fn := fun _ => fun
  | [d1, d2] => { results := [.lit (.bool false)], args := [d1, d2] }
  | _ => none }
def RoundRisesWrongFalsely : Prop := roundRisesRow.holds Try.pinned (OpenSpec.ofChange roundRisesWrong)

/- THE SECOND FORM. 'bulk': how many values and letters a reading holds, each counted each time it is reached (what is shared counts as often as it is met; a slice's spare places count too). A statement '..UptoSaid' is the law's where the arguments, and the package variables that the reading takes, are together of bulk at most 1048576: NARROWER than '..Said'. Prove '..Said' where nothing that the law and all that it calls make is longer than what came in: it says more and counts as full. Else prove '..UptoSaid'. A law counts once. -/
mutual
def uptoBulk {H : Type} : DataW H → Nat
  | .lit (.string bytes) => bytes.length + 1
  | .lit _ => 1
  | .nil => 1
  | .ptr d => uptoBulk d + 1
  | .slice elems spare => uptoBulkAll elems + uptoBulkAll spare + 1
  | .agg parts => uptoBulkAll parts + 1
  | .iface _ d => uptoBulk d + 1
  | .map entries => uptoBulkEntries entries + 1
  | .held _ => 1
def uptoBulkAll {H : Type} : List (DataW H) → Nat
  | [] => 0
  | d :: r => uptoBulk d + uptoBulkAll r
def uptoBulkEntries {H : Type} : List (Lit × DataW H) → Nat
  | [] => 0
  | x :: r => uptoBulkEntry x + uptoBulkEntries r
def uptoBulkEntry {H : Type} : Lit × DataW H → Nat
  | (.string bytes, d) => bytes.length + uptoBulk d + 1
  | (_, d) => uptoBulk d + 1
 end
def uptoSmall : (H : Type) → List (DataW H) → Bool := fun _ ds => decide (uptoBulkAll ds ≤ 1048576)
def OpenSpec.upto (s : _root_.Go.ChangeSpec) : _root_.Go.OpenSpec := { _root_.Go.OpenSpec.ofChange s with cond := some uptoSmall }

/-- 'vergelaw3.RoundNames', WHERE WHAT IT READS IS OF BULK AT MOST 1048576: true; the input reads as it did. -/
def roundNamesUptoRow : OpenClaim := { program := "ytjblogfbcglnmaa", sum := "d3466b1f2877008d14c72fde5eb6aa73aba4af951aac5d52899d0bee28cdb82e", func := "verge/vergelaw3.RoundNames", spec := "roundNames", apart := false, narrowed := true }
def RoundNamesUptoSaid : Prop := roundNamesUptoRow.holds Try.pinned (OpenSpec.upto roundNamesSpec)

/-- 'vergelaw3.RoundNarrows', WHERE WHAT IT READS IS OF BULK AT MOST 1048576: true; the input reads as it did. -/
def roundNarrowsUptoRow : OpenClaim := { program := "ytjblogfbcglnmaa", sum := "d3466b1f2877008d14c72fde5eb6aa73aba4af951aac5d52899d0bee28cdb82e", func := "verge/vergelaw3.RoundNarrows", spec := "roundNarrows", inPlace := ["math.Float64frombits", "math.Float32frombits", "math.Float64bits", "math.Float32bits"], apart := false, narrowed := true }
def RoundNarrowsUptoSaid : Prop := roundNarrowsUptoRow.holds Try.pinned (OpenSpec.upto roundNarrowsSpec)

/-- 'vergelaw3.RoundOfs', WHERE WHAT IT READS IS OF BULK AT MOST 1048576: true; the input reads as it did. -/
def roundOfsUptoRow : OpenClaim := { program := "ytjblogfbcglnmaa", sum := "d3466b1f2877008d14c72fde5eb6aa73aba4af951aac5d52899d0bee28cdb82e", func := "verge/vergelaw3.RoundOfs", spec := "roundOfs", inPlace := ["math.Float64frombits", "math.Float64bits"], apart := false, narrowed := true }
def RoundOfsUptoSaid : Prop := roundOfsUptoRow.holds Try.pinned (OpenSpec.upto roundOfsSpec)

/-- 'vergelaw3.RoundProducts', WHERE WHAT IT READS IS OF BULK AT MOST 1048576: true; the input reads as it did. -/
def roundProductsUptoRow : OpenClaim := { program := "ytjblogfbcglnmaa", sum := "d3466b1f2877008d14c72fde5eb6aa73aba4af951aac5d52899d0bee28cdb82e", func := "verge/vergelaw3.RoundProducts", spec := "roundProducts", inPlace := ["math.Float64frombits", "math.Float64bits"], apart := false, narrowed := true }
def RoundProductsUptoSaid : Prop := roundProductsUptoRow.holds Try.pinned (OpenSpec.upto roundProductsSpec)

/-- 'vergelaw3.RoundSums', WHERE WHAT IT READS IS OF BULK AT MOST 1048576: true; the input reads as it did. -/
def roundSumsUptoRow : OpenClaim := { program := "ytjblogfbcglnmaa", sum := "d3466b1f2877008d14c72fde5eb6aa73aba4af951aac5d52899d0bee28cdb82e", func := "verge/vergelaw3.RoundSums", spec := "roundSums", inPlace := ["math.Float64frombits", "math.Float64bits"], apart := false, narrowed := true }
def RoundSumsUptoSaid : Prop := roundSumsUptoRow.holds Try.pinned (OpenSpec.upto roundSumsSpec)

/-- 'vergelaw3.RoundRatios', WHERE WHAT IT READS IS OF BULK AT MOST 1048576: true; the input reads as it did. -/
def roundRatiosUptoRow : OpenClaim := { program := "ytjblogfbcglnmaa", sum := "d3466b1f2877008d14c72fde5eb6aa73aba4af951aac5d52899d0bee28cdb82e", func := "verge/vergelaw3.RoundRatios", spec := "roundRatios", inPlace := ["math.Float64frombits", "math.Float64bits"], apart := false, narrowed := true }
def RoundRatiosUptoSaid : Prop := roundRatiosUptoRow.holds Try.pinned (OpenSpec.upto roundRatiosSpec)

/-- 'vergelaw3.RoundFused', WHERE WHAT IT READS IS OF BULK AT MOST 1048576: true; the input reads as it did. -/
def roundFusedUptoRow : OpenClaim := { program := "ytjblogfbcglnmaa", sum := "d3466b1f2877008d14c72fde5eb6aa73aba4af951aac5d52899d0bee28cdb82e", func := "verge/vergelaw3.RoundFused", spec := "roundFused", inPlace := ["math.Float64frombits", "math.Float64bits"], apart := false, narrowed := true }
def RoundFusedUptoSaid : Prop := roundFusedUptoRow.holds Try.pinned (OpenSpec.upto roundFusedSpec)

/-- 'vergelaw3.RoundRoots', WHERE WHAT IT READS IS OF BULK AT MOST 1048576: true; the input reads as it did. -/
def roundRootsUptoRow : OpenClaim := { program := "ytjblogfbcglnmaa", sum := "d3466b1f2877008d14c72fde5eb6aa73aba4af951aac5d52899d0bee28cdb82e", func := "verge/vergelaw3.RoundRoots", spec := "roundRoots", inPlace := ["math.Float64frombits", "math.Float64bits"], recurses := true, apart := false, narrowed := true }
def RoundRootsUptoSaid : Prop := roundRootsUptoRow.holds Try.pinned (OpenSpec.upto roundRootsSpec)

/-- 'vergelaw3.RoundQuotients', WHERE WHAT IT READS IS OF BULK AT MOST 1048576: true; the input reads as it did. -/
def roundQuotientsUptoRow : OpenClaim := { program := "ytjblogfbcglnmaa", sum := "d3466b1f2877008d14c72fde5eb6aa73aba4af951aac5d52899d0bee28cdb82e", func := "verge/vergelaw3.RoundQuotients", spec := "roundQuotients", inPlace := ["math.Float64frombits", "math.Float64bits"], apart := false, narrowed := true }
def RoundQuotientsUptoSaid : Prop := roundQuotientsUptoRow.holds Try.pinned (OpenSpec.upto roundQuotientsSpec)

/-- 'vergelaw3.RoundSquareRoots', WHERE WHAT IT READS IS OF BULK AT MOST 1048576: true; the input reads as it did. -/
def roundSquareRootsUptoRow : OpenClaim := { program := "ytjblogfbcglnmaa", sum := "d3466b1f2877008d14c72fde5eb6aa73aba4af951aac5d52899d0bee28cdb82e", func := "verge/vergelaw3.RoundSquareRoots", spec := "roundSquareRoots", inPlace := ["math.Float64frombits", "math.Float64bits", "math.sqrt"], recurses := true, apart := false, narrowed := true }
def RoundSquareRootsUptoSaid : Prop := roundSquareRootsUptoRow.holds Try.pinned (OpenSpec.upto roundSquareRootsSpec)

/-- 'vergelaw3.RoundTightRoots', WHERE WHAT IT READS IS OF BULK AT MOST 1048576: true; the input reads as it did. -/
def roundTightRootsUptoRow : OpenClaim := { program := "ytjblogfbcglnmaa", sum := "d3466b1f2877008d14c72fde5eb6aa73aba4af951aac5d52899d0bee28cdb82e", func := "verge/vergelaw3.RoundTightRoots", spec := "roundTightRoots", inPlace := ["math.Float64frombits", "math.Float64bits", "math.sqrt"], recurses := true, apart := false, narrowed := true }
def RoundTightRootsUptoSaid : Prop := roundTightRootsUptoRow.holds Try.pinned (OpenSpec.upto roundTightRootsSpec)

/-- 'vergelaw3.RoundTight', WHERE WHAT IT READS IS OF BULK AT MOST 1048576: true; the input reads as it did. -/
def roundTightUptoRow : OpenClaim := { program := "ytjblogfbcglnmaa", sum := "d3466b1f2877008d14c72fde5eb6aa73aba4af951aac5d52899d0bee28cdb82e", func := "verge/vergelaw3.RoundTight", spec := "roundTight", inPlace := ["math.Float64frombits", "math.Float64bits", "math.sqrt"], recurses := true, apart := false, narrowed := true }
def RoundTightUptoSaid : Prop := roundTightUptoRow.holds Try.pinned (OpenSpec.upto roundTightSpec)

/-- 'vergelaw3.RoundMirrors', WHERE WHAT IT READS IS OF BULK AT MOST 1048576: true; the input reads as it did. -/
def roundMirrorsUptoRow : OpenClaim := { program := "ytjblogfbcglnmaa", sum := "d3466b1f2877008d14c72fde5eb6aa73aba4af951aac5d52899d0bee28cdb82e", func := "verge/vergelaw3.RoundMirrors", spec := "roundMirrors", inPlace := ["math.Float64frombits", "math.Float64bits", "math.sqrt"], recurses := true, apart := false, narrowed := true }
def RoundMirrorsUptoSaid : Prop := roundMirrorsUptoRow.holds Try.pinned (OpenSpec.upto roundMirrorsSpec)

/-- 'vergelaw3.RoundRises', WHERE WHAT IT READS IS OF BULK AT MOST 1048576: true; the input reads as it did. -/
def roundRisesUptoRow : OpenClaim := { program := "ytjblogfbcglnmaa", sum := "d3466b1f2877008d14c72fde5eb6aa73aba4af951aac5d52899d0bee28cdb82e", func := "verge/vergelaw3.RoundRises", spec := "roundRises", inPlace := ["math.Float64frombits", "math.Float64bits", "math.Float32frombits", "math.Float32bits", "math.sqrt"], recurses := true, apart := false, narrowed := true }
def RoundRisesUptoSaid : Prop := roundRisesUptoRow.holds Try.pinned (OpenSpec.upto roundRisesSpec)

end Rows
end Go.Proofs.Ytjblogfbcglnmaa
