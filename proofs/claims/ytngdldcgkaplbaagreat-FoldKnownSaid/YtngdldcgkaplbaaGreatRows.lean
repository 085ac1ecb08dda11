/-
  No cell of these rows narrows 'for every input' (looked for: loops, veiled, ifaces, maps, wideKeys, modest, calm, conditions, laid).
  DERIVED. THE GIVEN ROWS OF THIS SEAT. 7 by the template 'for every input the law returns true; each argument reads behind the call as it read before'; 0 by the template 'total and deterministic' (their statements: YtngdldcgkaplbaaGreatTotals.lean).
  GIVEN WITH THE SEED: the statements are not yours to turn. If you find one false, say at which input.
  Laid BY PROGRAM, IN A SANDBOX (cutbox-rows.mjs): the forced cells as the released guide's own fill.sh prints them over the translation 710233209d392d9c… (all of the seat's roots in one cut). By AI agents, Wed Nov 11 2026. No macro, syntax, notation, axiom, sorry.
-/
import Derived.Test.YtngdldcgkaplbaaGreatChecked
import GoSem.Claim
import GoSem.ClaimJoined
import GoSem.ClaimMapViews
import Derived.JoinedTies
import Derived.KernelRfl
namespace Go.Proofs.YtngdldcgkaplbaaGreat
/- THE CELL 'sum', in the pinned program and in every row, IS THE sha256 OF THE DUMP (.gsa) THAT YtngdldcgkaplbaaGreatProg.lean LOADS. Nothing in Lean hashes anything: it is a label: what it is worth is what the hold of that sum in a sandbox is worth. -/
noncomputable def Tryz.pinned : Pinned := { name := "ytngdldcgkaplbaagreat", sum := "710233209d392d9c09af3ae625fa0507bb8b4ed29120b4a15da6332061fd7e8e", checked := Tryz.checked }
namespace Rows
def none {H : Type} : Left H := { results := [], args := [] }

/-- 'vergelaw15.FoldPoints': WHATEVER THE INPUT: true; the input reads as it did. -/
def foldPointsSpec : ChangeSpec := { name := "foldPoints", fn := fun _ => fun
  | [d1, d2, d3] => { results := [.lit (.bool true)], args := [d1, d2, d3] }
  | _ => none }
def foldPointsRow : OpenClaim := { program := "ytngdldcgkaplbaagreat", sum := "710233209d392d9c09af3ae625fa0507bb8b4ed29120b4a15da6332061fd7e8e", func := "verge/vergelaw15.FoldPoints", spec := "foldPoints", inPlace := ["math.Float64frombits", "math.Float64bits", "math/bits.Sub64", "math/bits.Add64", "(*sync.WaitGroup).Add", "internal/race.ReleaseMerge", "internal/race.Disable", "internal/race.Enable", "internal/synctest.IsInBubble", "internal/synctest.Associate[sync.WaitGroup]", "sync.fatal", "sync/atomic.OrUint64", "sync/atomic.AddUint64", "internal/race.Read", "sync/atomic.LoadUint64", "sync/atomic.StoreUint64", "internal/synctest.Disassociate[sync.WaitGroup]", "sync.runtime_Semrelease", "(*sync.WaitGroup).Done", "(*sync.WaitGroup).Wait", "internal/race.Acquire", "internal/synctest.IsAssociated[sync.WaitGroup]", "sync/atomic.CompareAndSwapUint64", "internal/race.Write", "sync.runtime_SemacquireWaitGroup"], unfollowed := true, recurses := true, leaving := true, apart := false }
def FoldPointsSaid : Prop := foldPointsRow.holds Tryz.pinned (OpenSpec.ofChange foldPointsSpec)

/-- ITS FALSE NEIGHBOUR: 'it returns false'. Refute it at one input. -/
def foldPointsWrong : ChangeSpec := { name := "foldPoints", fn := fun _ => fun
  | [d1, d2, d3] => { results := [.lit (.bool false)], args := [d1, d2, d3] }
  | _ => none }
def FoldPointsWrongFalsely : Prop := foldPointsRow.holds Tryz.pinned (OpenSpec.ofChange foldPointsWrong)

/-- 'vergelaw15.FoldDots': WHATEVER THE INPUT: true; the input reads as it did. -/
def foldDotsSpec : ChangeSpec := { name := "foldDots", fn := fun _ => fun
  | [d1, d2, d3] => { results := [.lit (.bool true)], args := [d1, d2, d3] }
  | _ => none }
def foldDotsRow : OpenClaim := { program := "ytngdldcgkaplbaagreat", sum := "710233209d392d9c09af3ae625fa0507bb8b4ed29120b4a15da6332061fd7e8e", func := "verge/vergelaw15.FoldDots", spec := "foldDots", inPlace := ["math.Float64frombits", "math.Float64bits", "math/bits.Sub64", "math/bits.Add64", "(*sync.WaitGroup).Add", "internal/race.ReleaseMerge", "internal/race.Disable", "internal/race.Enable", "internal/synctest.IsInBubble", "internal/synctest.Associate[sync.WaitGroup]", "sync.fatal", "sync/atomic.OrUint64", "sync/atomic.AddUint64", "internal/race.Read", "sync/atomic.LoadUint64", "sync/atomic.StoreUint64", "internal/synctest.Disassociate[sync.WaitGroup]", "sync.runtime_Semrelease", "(*sync.WaitGroup).Done", "(*sync.WaitGroup).Wait", "internal/race.Acquire", "internal/synctest.IsAssociated[sync.WaitGroup]", "sync/atomic.CompareAndSwapUint64", "internal/race.Write", "sync.runtime_SemacquireWaitGroup"], unfollowed := true, recurses := true, leaving := true, apart := false }
def FoldDotsSaid : Prop := foldDotsRow.holds Tryz.pinned (OpenSpec.ofChange foldDotsSpec)

/-- ITS FALSE NEIGHBOUR: 'it returns false'. Refute it at one input. -/
def foldDotsWrong : ChangeSpec := { name := "foldDots", fn := fun _ => fun
  | [d1, d2, d3] => { results := [.lit (.bool false)], args := [d1, d2, d3] }
  | _ => none }
def FoldDotsWrongFalsely : Prop := foldDotsRow.holds Tryz.pinned (OpenSpec.ofChange foldDotsWrong)

/-- 'vergelaw15.FoldKnown': WHATEVER THE INPUT: true; the input reads as it did. -/
def foldKnownSpec : ChangeSpec := { name := "foldKnown", fn := fun _ => fun
  | [] => { results := [.lit (.bool true)], args := [] }
  | _ => none }
def foldKnownRow : OpenClaim := { program := "ytngdldcgkaplbaagreat", sum := "710233209d392d9c09af3ae625fa0507bb8b4ed29120b4a15da6332061fd7e8e", func := "verge/vergelaw15.FoldKnown", spec := "foldKnown", inPlace := ["math.Float64frombits", "(*sync.WaitGroup).Add", "internal/race.ReleaseMerge", "internal/race.Disable", "internal/race.Enable", "internal/synctest.IsInBubble", "internal/synctest.Associate[sync.WaitGroup]", "sync.fatal", "sync/atomic.OrUint64", "sync/atomic.AddUint64", "internal/race.Read", "sync/atomic.LoadUint64", "sync/atomic.StoreUint64", "internal/synctest.Disassociate[sync.WaitGroup]", "sync.runtime_Semrelease", "(*sync.WaitGroup).Done", "math.Float64bits", "math/bits.Sub64", "math/bits.Add64", "(*sync.WaitGroup).Wait", "internal/race.Acquire", "internal/synctest.IsAssociated[sync.WaitGroup]", "sync/atomic.CompareAndSwapUint64", "internal/race.Write", "sync.runtime_SemacquireWaitGroup"], unfollowed := true, recurses := true, leaving := true, apart := false }
def FoldKnownSaid : Prop := foldKnownRow.holds Tryz.pinned (OpenSpec.ofChange foldKnownSpec)

/-- ITS FALSE NEIGHBOUR: 'it returns false'. Refute it at one input. -/
def foldKnownWrong : ChangeSpec := { name := "foldKnown", fn := fun _ => fun
  | [] => { results := [.lit (.bool false)], args := [] }
  | _ => none }
def FoldKnownWrongFalsely : Prop := foldKnownRow.holds Tryz.pinned (OpenSpec.ofChange foldKnownWrong)

/-- 'vergelaw15.FoldLists': WHATEVER THE INPUT: true; the input reads as it did. -/
def foldListsSpec : ChangeSpec := { name := "foldLists", fn := fun _ => fun
  | [d1, d2] => { results := [.lit (.bool true)], args := [d1, d2] }
  | _ => none }
def foldListsRow : OpenClaim := { program := "ytngdldcgkaplbaagreat", sum := "710233209d392d9c09af3ae625fa0507bb8b4ed29120b4a15da6332061fd7e8e", func := "verge/vergelaw15.FoldLists", spec := "foldLists", inPlace := ["math.Float64frombits", "(*sync.WaitGroup).Add", "internal/race.ReleaseMerge", "internal/race.Disable", "internal/race.Enable", "internal/synctest.IsInBubble", "internal/synctest.Associate[sync.WaitGroup]", "sync.fatal", "sync/atomic.OrUint64", "sync/atomic.AddUint64", "internal/race.Read", "sync/atomic.LoadUint64", "sync/atomic.StoreUint64", "internal/synctest.Disassociate[sync.WaitGroup]", "sync.runtime_Semrelease", "(*sync.WaitGroup).Done", "math.Float64bits", "math/bits.Sub64", "math/bits.Add64", "(*sync.WaitGroup).Wait", "internal/race.Acquire", "internal/synctest.IsAssociated[sync.WaitGroup]", "sync/atomic.CompareAndSwapUint64", "internal/race.Write", "sync.runtime_SemacquireWaitGroup"], unfollowed := true, recurses := true, leaving := true, apart := false }
def FoldListsSaid : Prop := foldListsRow.holds Tryz.pinned (OpenSpec.ofChange foldListsSpec)

/-- ITS FALSE NEIGHBOUR: 'it returns false'. Refute it at one input. -/
def foldListsWrong : ChangeSpec := { name := "foldLists", fn := fun _ => fun
  | [d1, d2] => { results := [.lit (.bool false)], args := [d1, d2] }
  | _ => none }
def FoldListsWrongFalsely : Prop := foldListsRow.holds Tryz.pinned (OpenSpec.ofChange foldListsWrong)

/-- 'vergelaw15.FoldOrder': WHATEVER THE INPUT: true; the input reads as it did. -/
def foldOrderSpec : ChangeSpec := { name := "foldOrder", fn := fun _ => fun
  | [d1, d2, d3] => { results := [.lit (.bool true)], args := [d1, d2, d3] }
  | _ => none }
def foldOrderRow : OpenClaim := { program := "ytngdldcgkaplbaagreat", sum := "710233209d392d9c09af3ae625fa0507bb8b4ed29120b4a15da6332061fd7e8e", func := "verge/vergelaw15.FoldOrder", spec := "foldOrder", inPlace := ["math.Float64frombits", "(*sync.WaitGroup).Add", "internal/race.ReleaseMerge", "internal/race.Disable", "internal/race.Enable", "internal/synctest.IsInBubble", "internal/synctest.Associate[sync.WaitGroup]", "sync.fatal", "sync/atomic.OrUint64", "sync/atomic.AddUint64", "internal/race.Read", "sync/atomic.LoadUint64", "sync/atomic.StoreUint64", "internal/synctest.Disassociate[sync.WaitGroup]", "sync.runtime_Semrelease", "(*sync.WaitGroup).Done", "math.Float64bits", "math/bits.Sub64", "math/bits.Add64", "(*sync.WaitGroup).Wait", "internal/race.Acquire", "internal/synctest.IsAssociated[sync.WaitGroup]", "sync/atomic.CompareAndSwapUint64", "internal/race.Write", "sync.runtime_SemacquireWaitGroup"], unfollowed := true, recurses := true, leaving := true, apart := false }
def FoldOrderSaid : Prop := foldOrderRow.holds Tryz.pinned (OpenSpec.ofChange foldOrderSpec)

/-- ITS FALSE NEIGHBOUR: 'it returns false'. Refute it at one input. -/
def foldOrderWrong : ChangeSpec := { name := "foldOrder", fn := fun _ => fun
  | [d1, d2, d3] => { results := [.lit (.bool false)], args := [d1, d2, d3] }
  | _ => none }
def FoldOrderWrongFalsely : Prop := foldOrderRow.holds Tryz.pinned (OpenSpec.ofChange foldOrderWrong)

/-- 'vergelaw15.FoldHolds': WHATEVER THE INPUT: true; the input reads as it did. -/
def foldHoldsSpec : ChangeSpec := { name := "foldHolds", fn := fun _ => fun
  | [d1, d2, d3, d4] => { results := [.lit (.bool true)], args := [d1, d2, d3, d4] }
  | _ => none }
def foldHoldsRow : OpenClaim := { program := "ytngdldcgkaplbaagreat", sum := "710233209d392d9c09af3ae625fa0507bb8b4ed29120b4a15da6332061fd7e8e", func := "verge/vergelaw15.FoldHolds", spec := "foldHolds", inPlace := ["math.Float64frombits", "(*sync.WaitGroup).Add", "internal/race.ReleaseMerge", "internal/race.Disable", "internal/race.Enable", "internal/synctest.IsInBubble", "internal/synctest.Associate[sync.WaitGroup]", "sync.fatal", "sync/atomic.OrUint64", "sync/atomic.AddUint64", "internal/race.Read", "sync/atomic.LoadUint64", "sync/atomic.StoreUint64", "internal/synctest.Disassociate[sync.WaitGroup]", "sync.runtime_Semrelease", "(*sync.WaitGroup).Done", "math.Float64bits", "math/bits.Sub64", "math/bits.Add64", "(*sync.WaitGroup).Wait", "internal/race.Acquire", "internal/synctest.IsAssociated[sync.WaitGroup]", "sync/atomic.CompareAndSwapUint64", "internal/race.Write", "sync.runtime_SemacquireWaitGroup"], unfollowed := true, recurses := true, leaving := true, apart := false }
def FoldHoldsSaid : Prop := foldHoldsRow.holds Tryz.pinned (OpenSpec.ofChange foldHoldsSpec)

/-- ITS FALSE NEIGHBOUR: 'it returns false'. Refute it at one input. -/
def foldHoldsWrong : ChangeSpec := { name := "foldHolds", fn := fun _ => fun
  | [d1, d2, d3, d4] => { results := [.lit (.bool false)], args := [d1, d2, d3, d4] }
  | _ => none }
def FoldHoldsWrongFalsely : Prop := foldHoldsRow.holds Tryz.pinned (OpenSpec.ofChange foldHoldsWrong)

/-- 'vergelaw15.FoldGrows': WHATEVER THE INPUT: true; the input reads as it did. -/
def foldGrowsSpec : ChangeSpec := { name := "foldGrows", fn := fun _ => fun
  | [d1, d2, d3] => { results := [.lit (.bool true)], args := [d1, d2, d3] }
  | _ => none }
def foldGrowsRow : OpenClaim := { program := "ytngdldcgkaplbaagreat", sum := "710233209d392d9c09af3ae625fa0507bb8b4ed29120b4a15da6332061fd7e8e", func := "verge/vergelaw15.FoldGrows", spec := "foldGrows", inPlace := ["math.Float64frombits", "(*sync.WaitGroup).Add", "internal/race.ReleaseMerge", "internal/race.Disable", "internal/race.Enable", "internal/synctest.IsInBubble", "internal/synctest.Associate[sync.WaitGroup]", "sync.fatal", "sync/atomic.OrUint64", "sync/atomic.AddUint64", "internal/race.Read", "sync/atomic.LoadUint64", "sync/atomic.StoreUint64", "internal/synctest.Disassociate[sync.WaitGroup]", "sync.runtime_Semrelease", "(*sync.WaitGroup).Done", "math.Float64bits", "math/bits.Sub64", "math/bits.Add64", "(*sync.WaitGroup).Wait", "internal/race.Acquire", "internal/synctest.IsAssociated[sync.WaitGroup]", "sync/atomic.CompareAndSwapUint64", "internal/race.Write", "sync.runtime_SemacquireWaitGroup"], unfollowed := true, recurses := true, leaving := true, apart := false }
def FoldGrowsSaid : Prop := foldGrowsRow.holds Tryz.pinned (OpenSpec.ofChange foldGrowsSpec)

/-- ITS FALSE NEIGHBOUR: 'it returns false'. Refute it at one input. -/
def foldGrowsWrong : ChangeSpec := { name := "foldGrows", fn := fun _ => fun
  | [d1, d2, d3] => { results := [.lit (.bool false)], args := [d1, d2, d3] }
  | _ => none }
def FoldGrowsWrongFalsely : Prop := foldGrowsRow.holds Tryz.pinned (OpenSpec.ofChange foldGrowsWrong)

/- THE SECOND FORM. 'bulk': how many values and letters a reading holds, each counted each time it is reached (what is shared counts as often as it is met; a slice's spare places count too). A statement '..UptoSaid' is the law's where the arguments, and the package variables that the reading takes, are together of bulk at most 1048576: NARROWER than '..Said'. Prove '..Said' where nothing that the law and all that it calls make is longer than what came in: it says more and counts as full. Else prove '..UptoSaid'. A law counts once. -/
mutual
def uptoBulk {H : Type} : DataW H → Nat
  | .lit (.string bytes) => bytes.length + 1
  | .lit _ => 1
  | .nil => 1
  | .ptr d => uptoBulk d + 1
  | .slice elems spare => uptoBulkAll elems + uptoBulkAll spare + 1
  | .agg parts => uptoBulkAll parts + 1
  | .iface _ d => uptoBulk d + 1
  | .map entries => uptoBulkEntries entries + 1
  | .held _ => 1
def uptoBulkAll {H : Type} : List (DataW H) → Nat
  | [] => 0
  | d :: r => uptoBulk d + uptoBulkAll r
def uptoBulkEntries {H : Type} : List (Lit × DataW H) → Nat
  | [] => 0
  | x :: r => uptoBulkEntry x + uptoBulkEntries r
def uptoBulkEntry {H : Type} : Lit × DataW H → Nat
  | (.string bytes, d) => bytes.length + uptoBulk d + 1
  | (_, d) => uptoBulk d + 1
 end
def uptoSmall : (H : Type) → List (DataW H) → Bool := fun _ ds => decide (uptoBulkAll ds ≤ 1048576)
def OpenSpec.upto (s : _root_.Go.ChangeSpec) : _root_.Go.OpenSpec := { _root_.Go.OpenSpec.ofChange s with cond := some uptoSmall }

/-- 'vergelaw15.FoldPoints', WHERE WHAT IT READS IS OF BULK AT MOST 1048576: true; the input reads as it did. -/
def foldPointsUptoRow : OpenClaim := { program := "ytngdldcgkaplbaagreat", sum := "710233209d392d9c09af3ae625fa0507bb8b4ed29120b4a15da6332061fd7e8e", func := "verge/vergelaw15.FoldPoints", spec := "foldPoints", inPlace := ["math.Float64frombits", "math.Float64bits", "math/bits.Sub64", "math/bits.Add64", "(*sync.WaitGroup).Add", "internal/race.ReleaseMerge", "internal/race.Disable", "internal/race.Enable", "internal/synctest.IsInBubble", "internal/synctest.Associate[sync.WaitGroup]", "sync.fatal", "sync/atomic.OrUint64", "sync/atomic.AddUint64", "internal/race.Read", "sync/atomic.LoadUint64", "sync/atomic.StoreUint64", "internal/synctest.Disassociate[sync.WaitGroup]", "sync.runtime_Semrelease", "(*sync.WaitGroup).Done", "(*sync.WaitGroup).Wait", "internal/race.Acquire", "internal/synctest.IsAssociated[sync.WaitGroup]", "sync/atomic.CompareAndSwapUint64", "internal/race.Write", "sync.runtime_SemacquireWaitGroup"], unfollowed := true, recurses := true, leaving := true, apart := false, narrowed := true }
def FoldPointsUptoSaid : Prop := foldPointsUptoRow.holds Tryz.pinned (OpenSpec.upto foldPointsSpec)

/-- 'vergelaw15.FoldDots', WHERE WHAT IT READS IS OF BULK AT MOST 1048576: true; the input reads as it did. -/
def foldDotsUptoRow : OpenClaim := { program := "ytngdldcgkaplbaagreat", sum := "710233209d392d9c09af3ae625fa0507bb8b4ed29120b4a15da6332061fd7e8e", func := "verge/vergelaw15.FoldDots", spec := "foldDots", inPlace := ["math.Float64frombits", "math.Float64bits", "math/bits.Sub64", "math/bits.Add64", "(*sync.WaitGroup).Add", "internal/race.ReleaseMerge", "internal/race.Disable", "internal/race.Enable", "internal/synctest.IsInBubble", "internal/synctest.Associate[sync.WaitGroup]", "sync.fatal", "sync/atomic.OrUint64", "sync/atomic.AddUint64", "internal/race.Read", "sync/atomic.LoadUint64", "sync/atomic.StoreUint64", "internal/synctest.Disassociate[sync.WaitGroup]", "sync.runtime_Semrelease", "(*sync.WaitGroup).Done", "(*sync.WaitGroup).Wait", "internal/race.Acquire", "internal/synctest.IsAssociated[sync.WaitGroup]", "sync/atomic.CompareAndSwapUint64", "internal/race.Write", "sync.runtime_SemacquireWaitGroup"], unfollowed := true, recurses := true, leaving := true, apart := false, narrowed := true }
def FoldDotsUptoSaid : Prop := foldDotsUptoRow.holds Tryz.pinned (OpenSpec.upto foldDotsSpec)

/-- 'vergelaw15.FoldKnown', WHERE WHAT IT READS IS OF BULK AT MOST 1048576: true; the input reads as it did. -/
def foldKnownUptoRow : OpenClaim := { program := "ytngdldcgkaplbaagreat", sum := "710233209d392d9c09af3ae625fa0507bb8b4ed29120b4a15da6332061fd7e8e", func := "verge/vergelaw15.FoldKnown", spec := "foldKnown", inPlace := ["math.Float64frombits", "(*sync.WaitGroup).Add", "internal/race.ReleaseMerge", "internal/race.Disable", "internal/race.Enable", "internal/synctest.IsInBubble", "internal/synctest.Associate[sync.WaitGroup]", "sync.fatal", "sync/atomic.OrUint64", "sync/atomic.AddUint64", "internal/race.Read", "sync/atomic.LoadUint64", "sync/atomic.StoreUint64", "internal/synctest.Disassociate[sync.WaitGroup]", "sync.runtime_Semrelease", "(*sync.WaitGroup).Done", "math.Float64bits", "math/bits.Sub64", "math/bits.Add64", "(*sync.WaitGroup).Wait", "internal/race.Acquire", "internal/synctest.IsAssociated[sync.WaitGroup]", "sync/atomic.CompareAndSwapUint64", "internal/race.Write", "sync.runtime_SemacquireWaitGroup"], unfollowed := true, recurses := true, leaving := true, apart := false, narrowed := true }
def FoldKnownUptoSaid : Prop := foldKnownUptoRow.holds Tryz.pinned (OpenSpec.upto foldKnownSpec)

/-- 'vergelaw15.FoldLists', WHERE WHAT IT READS IS OF BULK AT MOST 1048576: true; the input reads as it did. -/
def foldListsUptoRow : OpenClaim := { program := "ytngdldcgkaplbaagreat", sum := "710233209d392d9c09af3ae625fa0507bb8b4ed29120b4a15da6332061fd7e8e", func := "verge/vergelaw15.FoldLists", spec := "foldLists", inPlace := ["math.Float64frombits", "(*sync.WaitGroup).Add", "internal/race.ReleaseMerge", "internal/race.Disable", "internal/race.Enable", "internal/synctest.IsInBubble", "internal/synctest.Associate[sync.WaitGroup]", "sync.fatal", "sync/atomic.OrUint64", "sync/atomic.AddUint64", "internal/race.Read", "sync/atomic.LoadUint64", "sync/atomic.StoreUint64", "internal/synctest.Disassociate[sync.WaitGroup]", "sync.runtime_Semrelease", "(*sync.WaitGroup).Done", "math.Float64bits", "math/bits.Sub64", "math/bits.Add64", "(*sync.WaitGroup).Wait", "internal/race.Acquire", "internal/synctest.IsAssociated[sync.WaitGroup]", "sync/atomic.CompareAndSwapUint64", "internal/race.Write", "sync.runtime_SemacquireWaitGroup"], unfollowed := true, recurses := true, leaving := true, apart := false, narrowed := true }
def FoldListsUptoSaid : Prop := foldListsUptoRow.holds Tryz.pinned (OpenSpec.upto foldListsSpec)

/-- 'vergelaw15.FoldOrder', WHERE WHAT IT READS IS OF BULK AT MOST 1048576: true; the input reads as it did. -/
def foldOrderUptoRow : OpenClaim := { program := "ytngdldcgkaplbaagreat", sum := "710233209d392d9c09af3ae625fa0507bb8b4ed29120b4a15da6332061fd7e8e", func := "verge/vergelaw15.FoldOrder", spec := "foldOrder", inPlace := ["math.Float64frombits", "(*sync.WaitGroup).Add", "internal/race.ReleaseMerge", "internal/race.Disable", "internal/race.Enable", "internal/synctest.IsInBubble", "internal/synctest.Associate[sync.WaitGroup]", "sync.fatal", "sync/atomic.OrUint64", "sync/atomic.AddUint64", "internal/race.Read", "sync/atomic.LoadUint64", "sync/atomic.StoreUint64", "internal/synctest.Disassociate[sync.WaitGroup]", "sync.runtime_Semrelease", "(*sync.WaitGroup).Done", "math.Float64bits", "math/bits.Sub64", "math/bits.Add64", "(*sync.WaitGroup).Wait", "internal/race.Acquire", "internal/synctest.IsAssociated[sync.WaitGroup]", "sync/atomic.CompareAndSwapUint64", "internal/race.Write", "sync.runtime_SemacquireWaitGroup"], unfollowed := true, recurses := true, leaving := true, apart := false, narrowed := true }
def FoldOrderUptoSaid : Prop := foldOrderUptoRow.holds Tryz.pinned (OpenSpec.upto foldOrderSpec)

/-- 'vergelaw15.FoldHolds', WHERE WHAT IT READS IS OF BULK AT MOST 1048576: true; the input reads as it did. -/
def foldHoldsUptoRow : OpenClaim := { program := "ytngdldcgkaplbaagreat", sum := "710233209d392d9c09af3ae625fa0507bb8b4ed29120b4a15da6332061fd7e8e", func := "verge/vergelaw15.FoldHolds", spec := "foldHolds", inPlace := ["math.Float64frombits", "(*sync.WaitGroup).Add", "internal/race.ReleaseMerge", "internal/race.Disable", "internal/race.Enable", "internal/synctest.IsInBubble", "internal/synctest.Associate[sync.WaitGroup]", "sync.fatal", "sync/atomic.OrUint64", "sync/atomic.AddUint64", "internal/race.Read", "sync/atomic.LoadUint64", "sync/atomic.StoreUint64", "internal/synctest.Disassociate[sync.WaitGroup]", "sync.runtime_Semrelease", "(*sync.WaitGroup).Done", "math.Float64bits", "math/bits.Sub64", "math/bits.Add64", "(*sync.WaitGroup).Wait", "internal/race.Acquire", "internal/synctest.IsAssociated[sync.WaitGroup]", "sync/atomic.CompareAndSwapUint64", "internal/race.Write", "sync.runtime_SemacquireWaitGroup"], unfollowed := true, recurses := true, leaving := true, apart := false, narrowed := true }
def FoldHoldsUptoSaid : Prop := foldHoldsUptoRow.holds Tryz.pinned (OpenSpec.upto foldHoldsSpec)

/-- 'vergelaw15.FoldGrows', WHERE WHAT IT READS IS OF BULK AT MOST 1048576: true; the input reads as it did. -/
def foldGrowsUptoRow : OpenClaim := { program := "ytngdldcgkaplbaagreat", sum := "710233209d392d9c09af3ae625fa0507bb8b4ed29120b4a15da6332061fd7e8e", func := "verge/vergelaw15.FoldGrows", spec := "foldGrows", inPlace := ["math.Float64frombits", "(*sync.WaitGroup).Add", "internal/race.ReleaseMerge", "internal/race.Disable", "internal/race.Enable", "internal/synctest.IsInBubble", "internal/synctest.Associate[sync.WaitGroup]", "sync.fatal", "sync/atomic.OrUint64", "sync/atomic.AddUint64", "internal/race.Read", "sync/atomic.LoadUint64", "sync/atomic.StoreUint64", "internal/synctest.Disassociate[sync.WaitGroup]", "sync.runtime_Semrelease", "(*sync.WaitGroup).Done", "math.Float64bits", "math/bits.Sub64", "math/bits.Add64", "(*sync.WaitGroup).Wait", "internal/race.Acquire", "internal/synctest.IsAssociated[sync.WaitGroup]", "sync/atomic.CompareAndSwapUint64", "internal/race.Write", "sync.runtime_SemacquireWaitGroup"], unfollowed := true, recurses := true, leaving := true, apart := false, narrowed := true }
def FoldGrowsUptoSaid : Prop := foldGrowsUptoRow.holds Tryz.pinned (OpenSpec.upto foldGrowsSpec)

end Rows
end Go.Proofs.YtngdldcgkaplbaaGreat
