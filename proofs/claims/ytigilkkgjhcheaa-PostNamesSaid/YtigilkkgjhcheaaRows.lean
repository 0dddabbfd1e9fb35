/-
  No cell of these rows narrows 'for every input' (looked for: loops, veiled, ifaces, maps, wideKeys, modest, calm, conditions, laid).
  DERIVED. THE GIVEN ROWS OF THIS SEAT. 8 by the template 'for every input the law returns true; each argument reads behind the call as it read before'; 0 by the template 'total and deterministic' (their statements: YtigilkkgjhcheaaTotals.lean).
  GIVEN WITH THE SEED: the statements are not yours to turn. If you find one false, say at which input.
  Laid BY PROGRAM, IN A SANDBOX (cutbox-rows.mjs): the forced cells as the released guide's own fill.sh prints them over the translation 79fcaa4d547612e3… (all of the seat's roots in one cut). By AI agents, Wed Nov 11 2026. No macro, syntax, notation, axiom, sorry.
-/
import Derived.Test.YtigilkkgjhcheaaChecked
import GoSem.Claim
import GoSem.ClaimJoined
import GoSem.ClaimMapViews
import Derived.JoinedTies
import Derived.KernelRfl
namespace Go.Proofs.Ytigilkkgjhcheaa
/- THE CELL 'sum', in the pinned program and in every row, IS THE sha256 OF THE DUMP (.gsa) THAT YtigilkkgjhcheaaProg.lean LOADS. Nothing in Lean hashes anything: it is a label: what it is worth is what the hold of that sum in a sandbox is worth. -/
noncomputable def Try.pinned : Pinned := { name := "ytigilkkgjhcheaa", sum := "79fcaa4d547612e347efdd4a82a18787f3cadc5c62e9d65960b29de7bc586394", checked := Try.checked }
namespace Rows
def none {H : Type} : Left H := { results := [], args := [] }

/-- 'skeinlaw6.PostNames': WHATEVER THE INPUT: true; the input reads as it did. -/
def postNamesSpec : ChangeSpec := { name := "postNames", fn := fun _ => fun
  | [] => { results := [.lit (.bool true)], args := [] }
  | _ => none }
def postNamesRow : OpenClaim := { program := "ytigilkkgjhcheaa", sum := "79fcaa4d547612e347efdd4a82a18787f3cadc5c62e9d65960b29de7bc586394", func := "skein/skeinlaw6.PostNames", spec := "postNames", inPlace := ["(*internal/sync.Mutex).Lock", "internal/race.Disable", "sync/atomic.CompareAndSwapInt32", "internal/race.Enable", "internal/race.Acquire", "(*internal/sync.Mutex).lockSlow", "internal/sync.runtime_canSpin", "internal/sync.runtime_doSpin", "internal/sync.throw", "internal/sync.runtime_nanotime", "internal/sync.runtime_SemacquireMutex", "sync/atomic.AddInt32", "(*internal/sync.Mutex).Unlock", "internal/race.ReleaseMerge", "(*internal/sync.Mutex).unlockSlow", "internal/sync.fatal", "internal/sync.runtime_Semrelease"], apart := false }
def PostNamesSaid : Prop := postNamesRow.holds Try.pinned (OpenSpec.ofChange postNamesSpec)

/-- ITS FALSE NEIGHBOUR: 'it returns false'. Refute it at one input. -/
def postNamesWrong : ChangeSpec := { name := "postNames", fn := fun _ => fun
  | [] => { results := [.lit (.bool false)], args := [] }
  | _ => none }
def PostNamesWrongFalsely : Prop := postNamesRow.holds Try.pinned (OpenSpec.ofChange postNamesWrong)

/-- 'skeinlaw6.PostSide': WHATEVER THE INPUT: true; the input reads as it did. -/
def postSideSpec : ChangeSpec := { name := "postSide", fn := fun _ => fun
  | [d1, d2] => { results := [.lit (.bool true)], args := [d1, d2] }
  | _ => none }
def postSideRow : OpenClaim := { program := "ytigilkkgjhcheaa", sum := "79fcaa4d547612e347efdd4a82a18787f3cadc5c62e9d65960b29de7bc586394", func := "skein/skeinlaw6.PostSide", spec := "postSide", inPlace := ["(*sync.WaitGroup).Add", "internal/race.ReleaseMerge", "internal/race.Disable", "internal/race.Enable", "internal/synctest.IsInBubble", "internal/synctest.Associate[sync.WaitGroup]", "sync.fatal", "sync/atomic.OrUint64", "sync/atomic.AddUint64", "internal/race.Read", "sync/atomic.LoadUint64", "sync/atomic.StoreUint64", "internal/synctest.Disassociate[sync.WaitGroup]", "sync.runtime_Semrelease", "sync/atomic.AddInt64", "sync/atomic.LoadInt64", "sync/atomic.CompareAndSwapInt64", "(*sync.WaitGroup).Done", "(*sync.WaitGroup).Wait", "internal/race.Acquire", "internal/synctest.IsAssociated[sync.WaitGroup]", "sync/atomic.CompareAndSwapUint64", "internal/race.Write", "sync.runtime_SemacquireWaitGroup"], unfollowed := true, recurses := true, leaving := true, apart := false }
def PostSideSaid : Prop := postSideRow.holds Try.pinned (OpenSpec.ofChange postSideSpec)

/-- ITS FALSE NEIGHBOUR: 'it returns false'. Refute it at one input. -/
def postSideWrong : ChangeSpec := { name := "postSide", fn := fun _ => fun
  | [d1, d2] => { results := [.lit (.bool false)], args := [d1, d2] }
  | _ => none }
def PostSideWrongFalsely : Prop := postSideRow.holds Try.pinned (OpenSpec.ofChange postSideWrong)

/-- 'skeinlaw3.CrewDrills': WHATEVER THE INPUT: true; the input reads as it did. -/
def crewDrillsSpec : ChangeSpec := { name := "crewDrills", fn := fun _ => fun
  | [d] => { results := [.lit (.bool true)], args := [d] }
  | _ => none }
def crewDrillsRow : OpenClaim := { program := "ytigilkkgjhcheaa", sum := "79fcaa4d547612e347efdd4a82a18787f3cadc5c62e9d65960b29de7bc586394", func := "skein/skeinlaw3.CrewDrills", spec := "crewDrills", inPlace := ["(*sync.WaitGroup).Add", "internal/race.ReleaseMerge", "internal/race.Disable", "internal/race.Enable", "internal/synctest.IsInBubble", "internal/synctest.Associate[sync.WaitGroup]", "sync.fatal", "sync/atomic.OrUint64", "sync/atomic.AddUint64", "internal/race.Read", "sync/atomic.LoadUint64", "sync/atomic.StoreUint64", "internal/synctest.Disassociate[sync.WaitGroup]", "sync.runtime_Semrelease", "(*sync.WaitGroup).Done", "(*sync.WaitGroup).Wait", "internal/race.Acquire", "internal/synctest.IsAssociated[sync.WaitGroup]", "sync/atomic.CompareAndSwapUint64", "internal/race.Write", "sync.runtime_SemacquireWaitGroup", "sync/atomic.LoadInt64"], unfollowed := true, recurses := true, leaving := true, apart := false }
def CrewDrillsSaid : Prop := crewDrillsRow.holds Try.pinned (OpenSpec.ofChange crewDrillsSpec)

/-- ITS FALSE NEIGHBOUR: 'it returns false'. Refute it at one input. -/
def crewDrillsWrong : ChangeSpec := { name := "crewDrills", fn := fun _ => fun
  | [d] => { results := [.lit (.bool false)], args := [d] }
  | _ => none }
def CrewDrillsWrongFalsely : Prop := crewDrillsRow.holds Try.pinned (OpenSpec.ofChange crewDrillsWrong)

/-- 'skeinlaw3.CrewRushes': WHATEVER THE INPUT: true; the input reads as it did. -/
def crewRushesSpec : ChangeSpec := { name := "crewRushes", fn := fun _ => fun
  | [d] => { results := [.lit (.bool true)], args := [d] }
  | _ => none }
def crewRushesRow : OpenClaim := { program := "ytigilkkgjhcheaa", sum := "79fcaa4d547612e347efdd4a82a18787f3cadc5c62e9d65960b29de7bc586394", func := "skein/skeinlaw3.CrewRushes", spec := "crewRushes", inPlace := ["(*sync.WaitGroup).Add", "internal/race.ReleaseMerge", "internal/race.Disable", "internal/race.Enable", "internal/synctest.IsInBubble", "internal/synctest.Associate[sync.WaitGroup]", "sync.fatal", "sync/atomic.OrUint64", "sync/atomic.AddUint64", "internal/race.Read", "sync/atomic.LoadUint64", "sync/atomic.StoreUint64", "internal/synctest.Disassociate[sync.WaitGroup]", "sync.runtime_Semrelease", "(*sync.WaitGroup).Done", "(*sync.WaitGroup).Wait", "internal/race.Acquire", "internal/synctest.IsAssociated[sync.WaitGroup]", "sync/atomic.CompareAndSwapUint64", "internal/race.Write", "sync.runtime_SemacquireWaitGroup", "sync/atomic.LoadInt64"], unfollowed := true, recurses := true, leaving := true, apart := false }
def CrewRushesSaid : Prop := crewRushesRow.holds Try.pinned (OpenSpec.ofChange crewRushesSpec)

/-- ITS FALSE NEIGHBOUR: 'it returns false'. Refute it at one input. -/
def crewRushesWrong : ChangeSpec := { name := "crewRushes", fn := fun _ => fun
  | [d] => { results := [.lit (.bool false)], args := [d] }
  | _ => none }
def CrewRushesWrongFalsely : Prop := crewRushesRow.holds Try.pinned (OpenSpec.ofChange crewRushesWrong)

/-- 'skeinlaw3.CrewSteps': WHATEVER THE INPUT: true; the input reads as it did. -/
def crewStepsSpec : ChangeSpec := { name := "crewSteps", fn := fun _ => fun
  | [d] => { results := [.lit (.bool true)], args := [d] }
  | _ => none }
def crewStepsRow : OpenClaim := { program := "ytigilkkgjhcheaa", sum := "79fcaa4d547612e347efdd4a82a18787f3cadc5c62e9d65960b29de7bc586394", func := "skein/skeinlaw3.CrewSteps", spec := "crewSteps", inPlace := ["(*sync.WaitGroup).Add", "internal/race.ReleaseMerge", "internal/race.Disable", "internal/race.Enable", "internal/synctest.IsInBubble", "internal/synctest.Associate[sync.WaitGroup]", "sync.fatal", "sync/atomic.OrUint64", "sync/atomic.AddUint64", "internal/race.Read", "sync/atomic.LoadUint64", "sync/atomic.StoreUint64", "internal/synctest.Disassociate[sync.WaitGroup]", "sync.runtime_Semrelease", "(*sync.WaitGroup).Done", "(*sync.WaitGroup).Wait", "internal/race.Acquire", "internal/synctest.IsAssociated[sync.WaitGroup]", "sync/atomic.CompareAndSwapUint64", "internal/race.Write", "sync.runtime_SemacquireWaitGroup", "sync/atomic.LoadInt64"], unfollowed := true, recurses := true, leaving := true, apart := false }
def CrewStepsSaid : Prop := crewStepsRow.holds Try.pinned (OpenSpec.ofChange crewStepsSpec)

/-- ITS FALSE NEIGHBOUR: 'it returns false'. Refute it at one input. -/
def crewStepsWrong : ChangeSpec := { name := "crewSteps", fn := fun _ => fun
  | [d] => { results := [.lit (.bool false)], args := [d] }
  | _ => none }
def CrewStepsWrongFalsely : Prop := crewStepsRow.holds Try.pinned (OpenSpec.ofChange crewStepsWrong)

/-- 'skeinlaw3.CrewEnds': WHATEVER THE INPUT: true; the input reads as it did. -/
def crewEndsSpec : ChangeSpec := { name := "crewEnds", fn := fun _ => fun
  | [d] => { results := [.lit (.bool true)], args := [d] }
  | _ => none }
def crewEndsRow : OpenClaim := { program := "ytigilkkgjhcheaa", sum := "79fcaa4d547612e347efdd4a82a18787f3cadc5c62e9d65960b29de7bc586394", func := "skein/skeinlaw3.CrewEnds", spec := "crewEnds", inPlace := ["(*sync.WaitGroup).Add", "internal/race.ReleaseMerge", "internal/race.Disable", "internal/race.Enable", "internal/synctest.IsInBubble", "internal/synctest.Associate[sync.WaitGroup]", "sync.fatal", "sync/atomic.OrUint64", "sync/atomic.AddUint64", "internal/race.Read", "sync/atomic.LoadUint64", "sync/atomic.StoreUint64", "internal/synctest.Disassociate[sync.WaitGroup]", "sync.runtime_Semrelease", "(*sync.WaitGroup).Done", "(*sync.WaitGroup).Wait", "internal/race.Acquire", "internal/synctest.IsAssociated[sync.WaitGroup]", "sync/atomic.CompareAndSwapUint64", "internal/race.Write", "sync.runtime_SemacquireWaitGroup", "sync/atomic.LoadInt64"], unfollowed := true, recurses := true, leaving := true, apart := false }
def CrewEndsSaid : Prop := crewEndsRow.holds Try.pinned (OpenSpec.ofChange crewEndsSpec)

/-- ITS FALSE NEIGHBOUR: 'it returns false'. Refute it at one input. -/
def crewEndsWrong : ChangeSpec := { name := "crewEnds", fn := fun _ => fun
  | [d] => { results := [.lit (.bool false)], args := [d] }
  | _ => none }
def CrewEndsWrongFalsely : Prop := crewEndsRow.holds Try.pinned (OpenSpec.ofChange crewEndsWrong)

/-- 'skeinlaw3.CrewTurns': WHATEVER THE INPUT: true; the input reads as it did. -/
def crewTurnsSpec : ChangeSpec := { name := "crewTurns", fn := fun _ => fun
  | [d1, d2] => { results := [.lit (.bool true)], args := [d1, d2] }
  | _ => none }
def crewTurnsRow : OpenClaim := { program := "ytigilkkgjhcheaa", sum := "79fcaa4d547612e347efdd4a82a18787f3cadc5c62e9d65960b29de7bc586394", func := "skein/skeinlaw3.CrewTurns", spec := "crewTurns", inPlace := ["(*sync.WaitGroup).Add", "internal/race.ReleaseMerge", "internal/race.Disable", "internal/race.Enable", "internal/synctest.IsInBubble", "internal/synctest.Associate[sync.WaitGroup]", "sync.fatal", "sync/atomic.OrUint64", "sync/atomic.AddUint64", "internal/race.Read", "sync/atomic.LoadUint64", "sync/atomic.StoreUint64", "internal/synctest.Disassociate[sync.WaitGroup]", "sync.runtime_Semrelease", "(*sync.WaitGroup).Done", "(*sync.WaitGroup).Wait", "internal/race.Acquire", "internal/synctest.IsAssociated[sync.WaitGroup]", "sync/atomic.CompareAndSwapUint64", "internal/race.Write", "sync.runtime_SemacquireWaitGroup", "sync/atomic.LoadInt64"], unfollowed := true, recurses := true, leaving := true, apart := false }
def CrewTurnsSaid : Prop := crewTurnsRow.holds Try.pinned (OpenSpec.ofChange crewTurnsSpec)

/-- ITS FALSE NEIGHBOUR: 'it returns false'. Refute it at one input. -/
def crewTurnsWrong : ChangeSpec := { name := "crewTurns", fn := fun _ => fun
  | [d1, d2] => { results := [.lit (.bool false)], args := [d1, d2] }
  | _ => none }
def CrewTurnsWrongFalsely : Prop := crewTurnsRow.holds Try.pinned (OpenSpec.ofChange crewTurnsWrong)

/-- 'skeinlaw3.CrewLong': WHATEVER THE INPUT: true; the input reads as it did. -/
def crewLongSpec : ChangeSpec := { name := "crewLong", fn := fun _ => fun
  | [d1, d2, d3] => { results := [.lit (.bool true)], args := [d1, d2, d3] }
  | _ => none }
def crewLongRow : OpenClaim := { program := "ytigilkkgjhcheaa", sum := "79fcaa4d547612e347efdd4a82a18787f3cadc5c62e9d65960b29de7bc586394", func := "skein/skeinlaw3.CrewLong", spec := "crewLong", inPlace := ["(*sync.WaitGroup).Add", "internal/race.ReleaseMerge", "internal/race.Disable", "internal/race.Enable", "internal/synctest.IsInBubble", "internal/synctest.Associate[sync.WaitGroup]", "sync.fatal", "sync/atomic.OrUint64", "sync/atomic.AddUint64", "internal/race.Read", "sync/atomic.LoadUint64", "sync/atomic.StoreUint64", "internal/synctest.Disassociate[sync.WaitGroup]", "sync.runtime_Semrelease", "(*sync.WaitGroup).Done", "(*sync.WaitGroup).Wait", "internal/race.Acquire", "internal/synctest.IsAssociated[sync.WaitGroup]", "sync/atomic.CompareAndSwapUint64", "internal/race.Write", "sync.runtime_SemacquireWaitGroup", "sync/atomic.LoadInt64"], unfollowed := true, recurses := true, leaving := true, apart := false }
def CrewLongSaid : Prop := crewLongRow.holds Try.pinned (OpenSpec.ofChange crewLongSpec)

/-- ITS FALSE NEIGHBOUR: 'it returns false'. Refute it at one input. -/
def crewLongWrong : ChangeSpec := { name := "crewLong", fn := fun _ => fun
  | [d1, d2, d3] => { results := [.lit (.bool false)], args := [d1, d2, d3] }
  | _ => none }
def CrewLongWrongFalsely : Prop := crewLongRow.holds Try.pinned (OpenSpec.ofChange crewLongWrong)

/- THE SECOND FORM. 'bulk': how many values and letters a reading holds, each counted each time it is reached (what is shared counts as often as it is met; a slice's spare places count too). A statement '..UptoSaid' is the law's where the arguments, and the package variables that the reading takes, are together of bulk at most 1048576: NARROWER than '..Said'. Prove '..Said' where nothing that the law and all that it calls make is longer than what came in: it says more and counts as full. Else prove '..UptoSaid'. A law counts once. -/
mutual
def uptoBulk {H : Type} : DataW H → Nat
  | .lit (.string bytes) => bytes.length + 1
  | .lit _ => 1
  | .nil => 1
  | .ptr d => uptoBulk d + 1
  | .slice elems spare => uptoBulkAll elems + uptoBulkAll spare + 1
  | .agg parts => uptoBulkAll parts + 1
  | .iface _ d => uptoBulk d + 1
  | .map entries => uptoBulkEntries entries + 1
  | .held _ => 1
def uptoBulkAll {H : Type} : List (DataW H) → Nat
  | [] => 0
  | d :: r => uptoBulk d + uptoBulkAll r
def uptoBulkEntries {H : Type} : List (Lit × DataW H) → Nat
  | [] => 0
  | x :: r => uptoBulkEntry x + uptoBulkEntries r
def uptoBulkEntry {H : Type} : Lit × DataW H → Nat
  | (.string bytes, d) => bytes.length + uptoBulk d + 1
  | (_, d) => uptoBulk d + 1
 end
def uptoSmall : (H : Type) → List (DataW H) → Bool := fun _ ds => decide (uptoBulkAll ds ≤ 1048576)
def OpenSpec.upto (s : _root_.Go.ChangeSpec) : _root_.Go.OpenSpec := { _root_.Go.OpenSpec.ofChange s with cond := some uptoSmall }

/-- 'skeinlaw6.PostNames', WHERE WHAT IT READS IS OF BULK AT MOST 1048576: true; the input reads as it did. -/
def postNamesUptoRow : OpenClaim := { program := "ytigilkkgjhcheaa", sum := "79fcaa4d547612e347efdd4a82a18787f3cadc5c62e9d65960b29de7bc586394", func := "skein/skeinlaw6.PostNames", spec := "postNames", inPlace := ["(*internal/sync.Mutex).Lock", "internal/race.Disable", "sync/atomic.CompareAndSwapInt32", "internal/race.Enable", "internal/race.Acquire", "(*internal/sync.Mutex).lockSlow", "internal/sync.runtime_canSpin", "internal/sync.runtime_doSpin", "internal/sync.throw", "internal/sync.runtime_nanotime", "internal/sync.runtime_SemacquireMutex", "sync/atomic.AddInt32", "(*internal/sync.Mutex).Unlock", "internal/race.ReleaseMerge", "(*internal/sync.Mutex).unlockSlow", "internal/sync.fatal", "internal/sync.runtime_Semrelease"], apart := false, narrowed := true }
def PostNamesUptoSaid : Prop := postNamesUptoRow.holds Try.pinned (OpenSpec.upto postNamesSpec)

/-- 'skeinlaw6.PostSide', WHERE WHAT IT READS IS OF BULK AT MOST 1048576: true; the input reads as it did. -/
def postSideUptoRow : OpenClaim := { program := "ytigilkkgjhcheaa", sum := "79fcaa4d547612e347efdd4a82a18787f3cadc5c62e9d65960b29de7bc586394", func := "skein/skeinlaw6.PostSide", spec := "postSide", inPlace := ["(*sync.WaitGroup).Add", "internal/race.ReleaseMerge", "internal/race.Disable", "internal/race.Enable", "internal/synctest.IsInBubble", "internal/synctest.Associate[sync.WaitGroup]", "sync.fatal", "sync/atomic.OrUint64", "sync/atomic.AddUint64", "internal/race.Read", "sync/atomic.LoadUint64", "sync/atomic.StoreUint64", "internal/synctest.Disassociate[sync.WaitGroup]", "sync.runtime_Semrelease", "sync/atomic.AddInt64", "sync/atomic.LoadInt64", "sync/atomic.CompareAndSwapInt64", "(*sync.WaitGroup).Done", "(*sync.WaitGroup).Wait", "internal/race.Acquire", "internal/synctest.IsAssociated[sync.WaitGroup]", "sync/atomic.CompareAndSwapUint64", "internal/race.Write", "sync.runtime_SemacquireWaitGroup"], unfollowed := true, recurses := true, leaving := true, apart := false, narrowed := true }
def PostSideUptoSaid : Prop := postSideUptoRow.holds Try.pinned (OpenSpec.upto postSideSpec)

/-- 'skeinlaw3.CrewDrills', WHERE WHAT IT READS IS OF BULK AT MOST 1048576: true; the input reads as it did. -/
def crewDrillsUptoRow : OpenClaim := { program := "ytigilkkgjhcheaa", sum := "79fcaa4d547612e347efdd4a82a18787f3cadc5c62e9d65960b29de7bc586394", func := "skein/skeinlaw3.CrewDrills", spec := "crewDrills", inPlace := ["(*sync.WaitGroup).Add", "internal/race.ReleaseMerge", "internal/race.Disable", "internal/race.Enable", "internal/synctest.IsInBubble", "internal/synctest.Associate[sync.WaitGroup]", "sync.fatal", "sync/atomic.OrUint64", "sync/atomic.AddUint64", "internal/race.Read", "sync/atomic.LoadUint64", "sync/atomic.StoreUint64", "internal/synctest.Disassociate[sync.WaitGroup]", "sync.runtime_Semrelease", "(*sync.WaitGroup).Done", "(*sync.WaitGroup).Wait", "internal/race.Acquire", "internal/synctest.IsAssociated[sync.WaitGroup]", "sync/atomic.CompareAndSwapUint64", "internal/race.Write", "sync.runtime_SemacquireWaitGroup", "sync/atomic.LoadInt64"], unfollowed := true, recurses := true, leaving := true, apart := false, narrowed := true }
def CrewDrillsUptoSaid : Prop := crewDrillsUptoRow.holds Try.pinned (OpenSpec.upto crewDrillsSpec)

/-- 'skeinlaw3.CrewRushes', WHERE WHAT IT READS IS OF BULK AT MOST 1048576: true; the input reads as it did. -/
def crewRushesUptoRow : OpenClaim := { program := "ytigilkkgjhcheaa", sum := "79fcaa4d547612e347efdd4a82a18787f3cadc5c62e9d65960b29de7bc586394", func := "skein/skeinlaw3.CrewRushes", spec := "crewRushes", inPlace := ["(*sync.WaitGroup).Add", "internal/race.ReleaseMerge", "internal/race.Disable", "internal/race.Enable", "internal/synctest.IsInBubble", "internal/synctest.Associate[sync.WaitGroup]", "sync.fatal", "sync/atomic.OrUint64", "sync/atomic.AddUint64", "internal/race.Read", "sync/atomic.LoadUint64", "sync/atomic.StoreUint64", "internal/synctest.Disassociate[sync.WaitGroup]", "sync.runtime_Semrelease", "(*sync.WaitGroup).Done", "(*sync.WaitGroup).Wait", "internal/race.Acquire", "internal/synctest.IsAssociated[sync.WaitGroup]", "sync/atomic.CompareAndSwapUint64", "internal/race.Write", "sync.runtime_SemacquireWaitGroup", "sync/atomic.LoadInt64"], unfollowed := true, recurses := true, leaving := true, apart := false, narrowed := true }
def CrewRushesUptoSaid : Prop := crewRushesUptoRow.holds Try.pinned (OpenSpec.upto crewRushesSpec)

/-- 'skeinlaw3.CrewSteps', WHERE WHAT IT READS IS OF BULK AT MOST 1048576: true; the input reads as it did. -/
def crewStepsUptoRow : OpenClaim := { program := "ytigilkkgjhcheaa", sum := "79fcaa4d547612e347efdd4a82a18787f3cadc5c62e9d65960b29de7bc586394", func := "skein/skeinlaw3.CrewSteps", spec := "crewSteps", inPlace := ["(*sync.WaitGroup).Add", "internal/race.ReleaseMerge", "internal/race.Disable", "internal/race.Enable", "internal/synctest.IsInBubble", "internal/synctest.Associate[sync.WaitGroup]", "sync.fatal", "sync/atomic.OrUint64", "sync/atomic.AddUint64", "internal/race.Read", "sync/atomic.LoadUint64", "sync/atomic.StoreUint64", "internal/synctest.Disassociate[sync.WaitGroup]", "sync.runtime_Semrelease", "(*sync.WaitGroup).Done", "(*sync.WaitGroup).Wait", "internal/race.Acquire", "internal/synctest.IsAssociated[sync.WaitGroup]", "sync/atomic.CompareAndSwapUint64", "internal/race.Write", "sync.runtime_SemacquireWaitGroup", "sync/atomic.LoadInt64"], unfollowed := true, recurses := true, leaving := true, apart := false, narrowed := true }
def CrewStepsUptoSaid : Prop := crewStepsUptoRow.holds Try.pinned (OpenSpec.upto crewStepsSpec)

/-- 'skeinlaw3.CrewEnds', WHERE WHAT IT READS IS OF BULK AT MOST 1048576: true; the input reads as it did. -/
def crewEndsUptoRow : OpenClaim := { program := "ytigilkkgjhcheaa", sum := "79fcaa4d547612e347efdd4a82a18787f3cadc5c62e9d65960b29de7bc586394", func := "skein/skeinlaw3.CrewEnds", spec := "crewEnds", inPlace := ["(*sync.WaitGroup).Add", "internal/race.ReleaseMerge", "internal/race.Disable", "internal/race.Enable", "internal/synctest.IsInBubble", "internal/synctest.Associate[sync.WaitGroup]", "sync.fatal", "sync/atomic.OrUint64", "sync/atomic.AddUint64", "internal/race.Read", "sync/atomic.LoadUint64", "sync/atomic.StoreUint64", "internal/synctest.Disassociate[sync.WaitGroup]", "sync.runtime_Semrelease", "(*sync.WaitGroup).Done", "(*sync.WaitGroup).Wait", "internal/race.Acquire", "internal/synctest.IsAssociated[sync.WaitGroup]", "sync/atomic.CompareAndSwapUint64", "internal/race.Write", "sync.runtime_SemacquireWaitGroup", "sync/atomic.LoadInt64"], unfollowed := true, recurses := true, leaving := true, apart := false, narrowed := true }
def CrewEndsUptoSaid : Prop := crewEndsUptoRow.holds Try.pinned (OpenSpec.upto crewEndsSpec)

/-- 'skeinlaw3.CrewTurns', WHERE WHAT IT READS IS OF BULK AT MOST 1048576: true; the input reads as it did. -/
def crewTurnsUptoRow : OpenClaim := { program := "ytigilkkgjhcheaa", sum := "79fcaa4d547612e347efdd4a82a18787f3cadc5c62e9d65960b29de7bc586394", func := "skein/skeinlaw3.CrewTurns", spec := "crewTurns", inPlace := ["(*sync.WaitGroup).Add", "internal/race.ReleaseMerge", "internal/race.Disable", "internal/race.Enable", "internal/synctest.IsInBubble", "internal/synctest.Associate[sync.WaitGroup]", "sync.fatal", "sync/atomic.OrUint64", "sync/atomic.AddUint64", "internal/race.Read", "sync/atomic.LoadUint64", "sync/atomic.StoreUint64", "internal/synctest.Disassociate[sync.WaitGroup]", "sync.runtime_Semrelease", "(*sync.WaitGroup).Done", "(*sync.WaitGroup).Wait", "internal/race.Acquire", "internal/synctest.IsAssociated[sync.WaitGroup]", "sync/atomic.CompareAndSwapUint64", "internal/race.Write", "sync.runtime_SemacquireWaitGroup", "sync/atomic.LoadInt64"], unfollowed := true, recurses := true, leaving := true, apart := false, narrowed := true }
def CrewTurnsUptoSaid : Prop := crewTurnsUptoRow.holds Try.pinned (OpenSpec.upto crewTurnsSpec)

/-- 'skeinlaw3.CrewLong', WHERE WHAT IT READS IS OF BULK AT MOST 1048576: true; the input reads as it did. -/
def crewLongUptoRow : OpenClaim := { program := "ytigilkkgjhcheaa", sum := "79fcaa4d547612e347efdd4a82a18787f3cadc5c62e9d65960b29de7bc586394", func := "skein/skeinlaw3.CrewLong", spec := "crewLong", inPlace := ["(*sync.WaitGroup).Add", "internal/race.ReleaseMerge", "internal/race.Disable", "internal/race.Enable", "internal/synctest.IsInBubble", "internal/synctest.Associate[sync.WaitGroup]", "sync.fatal", "sync/atomic.OrUint64", "sync/atomic.AddUint64", "internal/race.Read", "sync/atomic.LoadUint64", "sync/atomic.StoreUint64", "internal/synctest.Disassociate[sync.WaitGroup]", "sync.runtime_Semrelease", "(*sync.WaitGroup).Done", "(*sync.WaitGroup).Wait", "internal/race.Acquire", "internal/synctest.IsAssociated[sync.WaitGroup]", "sync/atomic.CompareAndSwapUint64", "internal/race.Write", "sync.runtime_SemacquireWaitGroup", "sync/atomic.LoadInt64"], unfollowed := true, recurses := true, leaving := true, apart := false, narrowed := true }
def CrewLongUptoSaid : Prop := crewLongUptoRow.holds Try.pinned (OpenSpec.upto crewLongSpec)

end Rows
end Go.Proofs.Ytigilkkgjhcheaa
