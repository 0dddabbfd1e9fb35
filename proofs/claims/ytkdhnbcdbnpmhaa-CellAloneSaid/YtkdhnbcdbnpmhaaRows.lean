/-
  No cell of these rows narrows 'for every input' (looked for: loops, veiled, ifaces, maps, wideKeys, modest, calm, conditions, laid).
  DERIVED. THE GIVEN ROWS OF THIS SEAT. 2 by the template 'for every input the law returns true; each argument reads behind the call as it read before'; 0 by the template 'total and deterministic' (their statements: YtkdhnbcdbnpmhaaTotals.lean).
  GIVEN WITH THE SEED: the statements are not yours to turn. If you find one false, say at which input.
  Laid BY PROGRAM, IN A SANDBOX (cutbox-rows.mjs): the forced cells as the released guide's own fill.sh prints them over the translation 27d005da0d521731… (all of the seat's roots in one cut). By AI agents, Wed Nov 11 2026. No macro, syntax, notation, axiom, sorry.
-/
import Derived.Test.YtkdhnbcdbnpmhaaChecked
import GoSem.Claim
import GoSem.ClaimJoined
import GoSem.ClaimMapViews
import Derived.JoinedTies
import Derived.KernelRfl
namespace Go.Proofs.Ytkdhnbcdbnpmhaa
/- THE CELL 'sum', in the pinned program and in every row, IS THE sha256 OF THE DUMP (.gsa) THAT YtkdhnbcdbnpmhaaProg.lean LOADS. Nothing in Lean hashes anything: it is a label: what it is worth is what the hold of that sum in a sandbox is worth. -/
noncomputable def Try.pinned : Pinned := { name := "ytkdhnbcdbnpmhaa", sum := "27d005da0d5217318625ae9e7cf1bbf09415cb7f249824ea01cd73bd791206b3", checked := Try.checked }
namespace Rows
def none {H : Type} : Left H := { results := [], args := [] }

/-- 'skeinlaw4.CellAlone': WHATEVER THE INPUT: true; the input reads as it did. -/
def cellAloneSpec : ChangeSpec := { name := "cellAlone", fn := fun _ => fun
  | [d1, d2, d3] => { results := [.lit (.bool true)], args := [d1, d2, d3] }
  | _ => none }
def cellAloneRow : OpenClaim := { program := "ytkdhnbcdbnpmhaa", sum := "27d005da0d5217318625ae9e7cf1bbf09415cb7f249824ea01cd73bd791206b3", func := "skein/skeinlaw4.CellAlone", spec := "cellAlone", inPlace := ["sync/atomic.StoreInt64", "(*sync.WaitGroup).Add", "internal/race.ReleaseMerge", "internal/race.Disable", "internal/race.Enable", "internal/synctest.IsInBubble", "internal/synctest.Associate[sync.WaitGroup]", "sync.fatal", "sync/atomic.OrUint64", "sync/atomic.AddUint64", "internal/race.Read", "sync/atomic.LoadUint64", "sync/atomic.StoreUint64", "internal/synctest.Disassociate[sync.WaitGroup]", "sync.runtime_Semrelease", "(*sync.WaitGroup).Done", "(*sync.WaitGroup).Wait", "internal/race.Acquire", "internal/synctest.IsAssociated[sync.WaitGroup]", "sync/atomic.CompareAndSwapUint64", "internal/race.Write", "sync.runtime_SemacquireWaitGroup", "sync/atomic.LoadInt64", "sync/atomic.AddInt64", "sync/atomic.SwapInt64", "sync/atomic.CompareAndSwapInt64"], unfollowed := true, recurses := true, leaving := true, apart := false }
def CellAloneSaid : Prop := cellAloneRow.holds Try.pinned (OpenSpec.ofChange cellAloneSpec)

/-- ITS FALSE NEIGHBOUR: 'it returns false'. Refute it at one input. -/
def cellAloneWrong : ChangeSpec := { name := "cellAlone", fn := fun _ => fun
  | [d1, d2, d3] => { results := [.lit (.bool false)], args := [d1, d2, d3] }
  | _ => none }
def CellAloneWrongFalsely : Prop := cellAloneRow.holds Try.pinned (OpenSpec.ofChange cellAloneWrong)

/-- 'skeinlaw5.TallyAlone': WHATEVER THE INPUT: true; the input reads as it did. -/
def tallyAloneSpec : ChangeSpec := { name := "tallyAlone", fn := fun _ => fun
  | [d1, d2, d3, d4, d5] => { results := [.lit (.bool true)], args := [d1, d2, d3, d4, d5] }
  | _ => none }
def tallyAloneRow : OpenClaim := { program := "ytkdhnbcdbnpmhaa", sum := "27d005da0d5217318625ae9e7cf1bbf09415cb7f249824ea01cd73bd791206b3", func := "skein/skeinlaw5.TallyAlone", spec := "tallyAlone", inPlace := ["sync/atomic.LoadUint32", "sync/atomic.CompareAndSwapUint32", "sync/atomic.StoreInt64", "(*sync.WaitGroup).Add", "internal/race.ReleaseMerge", "internal/race.Disable", "internal/race.Enable", "internal/synctest.IsInBubble", "internal/synctest.Associate[sync.WaitGroup]", "sync.fatal", "sync/atomic.OrUint64", "sync/atomic.AddUint64", "internal/race.Read", "sync/atomic.LoadUint64", "sync/atomic.StoreUint64", "internal/synctest.Disassociate[sync.WaitGroup]", "sync.runtime_Semrelease", "(*sync.WaitGroup).Done", "(*sync.WaitGroup).Wait", "internal/race.Acquire", "internal/synctest.IsAssociated[sync.WaitGroup]", "sync/atomic.CompareAndSwapUint64", "internal/race.Write", "sync.runtime_SemacquireWaitGroup", "sync/atomic.LoadInt64", "sync/atomic.AddInt64"], unfollowed := true, recurses := true, leaving := true, apart := false }
def TallyAloneSaid : Prop := tallyAloneRow.holds Try.pinned (OpenSpec.ofChange tallyAloneSpec)

/-- ITS FALSE NEIGHBOUR: 'it returns false'. Refute it at one input. -/
def tallyAloneWrong : ChangeSpec := { name := "tallyAlone", fn := fun _ => fun
  | [d1, d2, d3, d4, d5] => { results := [.lit (.bool false)], args := [d1, d2, d3, d4, d5] }
  | _ => none }
def TallyAloneWrongFalsely : Prop := tallyAloneRow.holds Try.pinned (OpenSpec.ofChange tallyAloneWrong)

/- THE SECOND FORM. 'bulk': how many values and letters a reading holds, each counted each time it is reached (what is shared counts as often as it is met; a slice's spare places count too). A statement '..UptoSaid' is the law's where the arguments, and the package variables that the reading takes, are together of bulk at most 1048576: NARROWER than '..Said'. Prove '..Said' where nothing that the law and all that it calls make is longer than what came in: it says more and counts as full. Else prove '..UptoSaid'. A law counts once. -/
mutual
def uptoBulk {H : Type} : DataW H → Nat
  | .lit (.string bytes) => bytes.length + 1
  | .lit _ => 1
  | .nil => 1
  | .ptr d => uptoBulk d + 1
  | .slice elems spare => uptoBulkAll elems + uptoBulkAll spare + 1
  | .agg parts => uptoBulkAll parts + 1
  | .iface _ d => uptoBulk d + 1
  | .map entries => uptoBulkEntries entries + 1
  | .held _ => 1
def uptoBulkAll {H : Type} : List (DataW H) → Nat
  | [] => 0
  | d :: r => uptoBulk d + uptoBulkAll r
def uptoBulkEntries {H : Type} : List (Lit × DataW H) → Nat
  | [] => 0
  | x :: r => uptoBulkEntry x + uptoBulkEntries r
def uptoBulkEntry {H : Type} : Lit × DataW H → Nat
  | (.string bytes, d) => bytes.length + uptoBulk d + 1
  | (_, d) => uptoBulk d + 1
 end
def uptoSmall : (H : Type) → List (DataW H) → Bool := fun _ ds => decide (uptoBulkAll ds ≤ 1048576)
def OpenSpec.upto (s : _root_.Go.ChangeSpec) : _root_.Go.OpenSpec := { _root_.Go.OpenSpec.ofChange s with cond := some uptoSmall }

/-- 'skeinlaw4.CellAlone', WHERE WHAT IT READS IS OF BULK AT MOST 1048576: true; the input reads as it did. -/
def cellAloneUptoRow : OpenClaim := { program := "ytkdhnbcdbnpmhaa", sum := "27d005da0d5217318625ae9e7cf1bbf09415cb7f249824ea01cd73bd791206b3", func := "skein/skeinlaw4.CellAlone", spec := "cellAlone", inPlace := ["sync/atomic.StoreInt64", "(*sync.WaitGroup).Add", "internal/race.ReleaseMerge", "internal/race.Disable", "internal/race.Enable", "internal/synctest.IsInBubble", "internal/synctest.Associate[sync.WaitGroup]", "sync.fatal", "sync/atomic.OrUint64", "sync/atomic.AddUint64", "internal/race.Read", "sync/atomic.LoadUint64", "sync/atomic.StoreUint64", "internal/synctest.Disassociate[sync.WaitGroup]", "sync.runtime_Semrelease", "(*sync.WaitGroup).Done", "(*sync.WaitGroup).Wait", "internal/race.Acquire", "internal/synctest.IsAssociated[sync.WaitGroup]", "sync/atomic.CompareAndSwapUint64", "internal/race.Write", "sync.runtime_SemacquireWaitGroup", "sync/atomic.LoadInt64", "sync/atomic.AddInt64", "sync/atomic.SwapInt64", "sync/atomic.CompareAndSwapInt64"], unfollowed := true, recurses := true, leaving := true, apart := false, narrowed := true }
def CellAloneUptoSaid : Prop := cellAloneUptoRow.holds Try.pinned (OpenSpec.upto cellAloneSpec)

/-- 'skeinlaw5.TallyAlone', WHERE WHAT IT READS IS OF BULK AT MOST 1048576: true; the input reads as it did. -/
def tallyAloneUptoRow : OpenClaim := { program := "ytkdhnbcdbnpmhaa", sum := "27d005da0d5217318625ae9e7cf1bbf09415cb7f249824ea01cd73bd791206b3", func := "skein/skeinlaw5.TallyAlone", spec := "tallyAlone", inPlace := ["sync/atomic.LoadUint32", "sync/atomic.CompareAndSwapUint32", "sync/atomic.StoreInt64", "(*sync.WaitGroup).Add", "internal/race.ReleaseMerge", "internal/race.Disable", "internal/race.Enable", "internal/synctest.IsInBubble", "internal/synctest.Associate[sync.WaitGroup]", "sync.fatal", "sync/atomic.OrUint64", "sync/atomic.AddUint64", "internal/race.Read", "sync/atomic.LoadUint64", "sync/atomic.StoreUint64", "internal/synctest.Disassociate[sync.WaitGroup]", "sync.runtime_Semrelease", "(*sync.WaitGroup).Done", "(*sync.WaitGroup).Wait", "internal/race.Acquire", "internal/synctest.IsAssociated[sync.WaitGroup]", "sync/atomic.CompareAndSwapUint64", "internal/race.Write", "sync.runtime_SemacquireWaitGroup", "sync/atomic.LoadInt64", "sync/atomic.AddInt64"], unfollowed := true, recurses := true, leaving := true, apart := false, narrowed := true }
def TallyAloneUptoSaid : Prop := tallyAloneUptoRow.holds Try.pinned (OpenSpec.upto tallyAloneSpec)

end Rows
end Go.Proofs.Ytkdhnbcdbnpmhaa
