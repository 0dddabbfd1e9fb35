/-
  No cell of these rows narrows 'for every input' (looked for: loops, veiled, ifaces, maps, wideKeys, modest, calm, conditions, laid).
  DERIVED. THE GIVEN ROWS OF THIS SEAT. 9 by the template 'for every input the law returns true; each argument reads behind the call as it read before'; 0 by the template 'total and deterministic' (their statements: YtkeipanehjjmdaaTotals.lean).
  GIVEN WITH THE SEED: the statements are not yours to turn. If you find one false, say at which input.
  Laid BY PROGRAM, IN A SANDBOX (cutbox-rows.mjs): the forced cells as the released guide's own fill.sh prints them over the translation 9299cc297b214755… (all of the seat's roots in one cut). By AI agents, Wed Nov 11 2026. No macro, syntax, notation, axiom, sorry.
-/
import Derived.Test.YtkeipanehjjmdaaChecked
import GoSem.Claim
import GoSem.ClaimJoined
import GoSem.ClaimMapViews
import Derived.JoinedTies
import Derived.KernelRfl
namespace Go.Proofs.Ytkeipanehjjmdaa
/- THE CELL 'sum', in the pinned program and in every row, IS THE sha256 OF THE DUMP (.gsa) THAT YtkeipanehjjmdaaProg.lean LOADS. Nothing in Lean hashes anything: it is a label: what it is worth is what the hold of that sum in a sandbox is worth. -/
noncomputable def Try.pinned : Pinned := { name := "ytkeipanehjjmdaa", sum := "9299cc297b2147553f6dc43e385f630f01f90afe262bbddb26210b1bb0a22f9b", checked := Try.checked }
namespace Rows
def none {H : Type} : Left H := { results := [], args := [] }

/-- 'skeinlaw2.TurnPlays': WHATEVER THE INPUT: true; the input reads as it did. -/
def turnPlaysSpec : ChangeSpec := { name := "turnPlays", fn := fun _ => fun
  | [d1, d2] => { results := [.lit (.bool true)], args := [d1, d2] }
  | _ => none }
def turnPlaysRow : OpenClaim := { program := "ytkeipanehjjmdaa", sum := "9299cc297b2147553f6dc43e385f630f01f90afe262bbddb26210b1bb0a22f9b", func := "skein/skeinlaw2.TurnPlays", spec := "turnPlays", unfollowed := true, recurses := true, apart := false }
def TurnPlaysSaid : Prop := turnPlaysRow.holds Try.pinned (OpenSpec.ofChange turnPlaysSpec)

/-- ITS FALSE NEIGHBOUR: 'it returns false'. Refute it at one input. -/
def turnPlaysWrong : ChangeSpec := { name := "turnPlays", fn := fun _ => fun
  | [d1, d2] => { results := [.lit (.bool false)], args := [d1, d2] }
  | _ => none }
def TurnPlaysWrongFalsely : Prop := turnPlaysRow.holds Try.pinned (OpenSpec.ofChange turnPlaysWrong)

/-- 'skeinlaw2.TurnFair': WHATEVER THE INPUT: true; the input reads as it did. -/
def turnFairSpec : ChangeSpec := { name := "turnFair", fn := fun _ => fun
  | [d1, d2, d3] => { results := [.lit (.bool true)], args := [d1, d2, d3] }
  | _ => none }
def turnFairRow : OpenClaim := { program := "ytkeipanehjjmdaa", sum := "9299cc297b2147553f6dc43e385f630f01f90afe262bbddb26210b1bb0a22f9b", func := "skein/skeinlaw2.TurnFair", spec := "turnFair", unfollowed := true, recurses := true, apart := false }
def TurnFairSaid : Prop := turnFairRow.holds Try.pinned (OpenSpec.ofChange turnFairSpec)

/-- ITS FALSE NEIGHBOUR: 'it returns false'. Refute it at one input. -/
def turnFairWrong : ChangeSpec := { name := "turnFair", fn := fun _ => fun
  | [d1, d2, d3] => { results := [.lit (.bool false)], args := [d1, d2, d3] }
  | _ => none }
def TurnFairWrongFalsely : Prop := turnFairRow.holds Try.pinned (OpenSpec.ofChange turnFairWrong)

/-- 'skeinlaw2.TurnCopies': WHATEVER THE INPUT: true; the input reads as it did. -/
def turnCopiesSpec : ChangeSpec := { name := "turnCopies", fn := fun _ => fun
  | [d1, d2, d3] => { results := [.lit (.bool true)], args := [d1, d2, d3] }
  | _ => none }
def turnCopiesRow : OpenClaim := { program := "ytkeipanehjjmdaa", sum := "9299cc297b2147553f6dc43e385f630f01f90afe262bbddb26210b1bb0a22f9b", func := "skein/skeinlaw2.TurnCopies", spec := "turnCopies", unfollowed := true, recurses := true, apart := false }
def TurnCopiesSaid : Prop := turnCopiesRow.holds Try.pinned (OpenSpec.ofChange turnCopiesSpec)

/-- ITS FALSE NEIGHBOUR: 'it returns false'. Refute it at one input. -/
def turnCopiesWrong : ChangeSpec := { name := "turnCopies", fn := fun _ => fun
  | [d1, d2, d3] => { results := [.lit (.bool false)], args := [d1, d2, d3] }
  | _ => none }
def TurnCopiesWrongFalsely : Prop := turnCopiesRow.holds Try.pinned (OpenSpec.ofChange turnCopiesWrong)

/-- 'skeinlaw1.WordPacks': WHATEVER THE INPUT: true; the input reads as it did. -/
def wordPacksSpec : ChangeSpec := { name := "wordPacks", fn := fun _ => fun
  | [d1, d2, d3, d4] => { results := [.lit (.bool true)], args := [d1, d2, d3, d4] }
  | _ => none }
def wordPacksRow : OpenClaim := { program := "ytkeipanehjjmdaa", sum := "9299cc297b2147553f6dc43e385f630f01f90afe262bbddb26210b1bb0a22f9b", func := "skein/skeinlaw1.WordPacks", spec := "wordPacks", unfollowed := true, recurses := true, apart := false }
def WordPacksSaid : Prop := wordPacksRow.holds Try.pinned (OpenSpec.ofChange wordPacksSpec)

/-- ITS FALSE NEIGHBOUR: 'it returns false'. Refute it at one input. -/
def wordPacksWrong : ChangeSpec := { name := "wordPacks", fn := fun _ => fun
  | [d1, d2, d3, d4] => { results := [.lit (.bool false)], args := [d1, d2, d3, d4] }
  | _ => none }
def WordPacksWrongFalsely : Prop := wordPacksRow.holds Try.pinned (OpenSpec.ofChange wordPacksWrong)

/-- 'skeinlaw1.WordParts': WHATEVER THE INPUT: true; the input reads as it did. -/
def wordPartsSpec : ChangeSpec := { name := "wordParts", fn := fun _ => fun
  | [d1, d2, d3] => { results := [.lit (.bool true)], args := [d1, d2, d3] }
  | _ => none }
def wordPartsRow : OpenClaim := { program := "ytkeipanehjjmdaa", sum := "9299cc297b2147553f6dc43e385f630f01f90afe262bbddb26210b1bb0a22f9b", func := "skein/skeinlaw1.WordParts", spec := "wordParts", unfollowed := true, recurses := true, apart := false }
def WordPartsSaid : Prop := wordPartsRow.holds Try.pinned (OpenSpec.ofChange wordPartsSpec)

/-- ITS FALSE NEIGHBOUR: 'it returns false'. Refute it at one input. -/
def wordPartsWrong : ChangeSpec := { name := "wordParts", fn := fun _ => fun
  | [d1, d2, d3] => { results := [.lit (.bool false)], args := [d1, d2, d3] }
  | _ => none }
def WordPartsWrongFalsely : Prop := wordPartsRow.holds Try.pinned (OpenSpec.ofChange wordPartsWrong)

/-- 'skeinlaw1.WordBack': WHATEVER THE INPUT: true; the input reads as it did. -/
def wordBackSpec : ChangeSpec := { name := "wordBack", fn := fun _ => fun
  | [d1, d2] => { results := [.lit (.bool true)], args := [d1, d2] }
  | _ => none }
def wordBackRow : OpenClaim := { program := "ytkeipanehjjmdaa", sum := "9299cc297b2147553f6dc43e385f630f01f90afe262bbddb26210b1bb0a22f9b", func := "skein/skeinlaw1.WordBack", spec := "wordBack", unfollowed := true, recurses := true, apart := false }
def WordBackSaid : Prop := wordBackRow.holds Try.pinned (OpenSpec.ofChange wordBackSpec)

/-- ITS FALSE NEIGHBOUR: 'it returns false'. Refute it at one input. -/
def wordBackWrong : ChangeSpec := { name := "wordBack", fn := fun _ => fun
  | [d1, d2] => { results := [.lit (.bool false)], args := [d1, d2] }
  | _ => none }
def WordBackWrongFalsely : Prop := wordBackRow.holds Try.pinned (OpenSpec.ofChange wordBackWrong)

/-- 'skeinlaw1.WordRanges': WHATEVER THE INPUT: true; the input reads as it did. -/
def wordRangesSpec : ChangeSpec := { name := "wordRanges", fn := fun _ => fun
  | [d1, d2, d3] => { results := [.lit (.bool true)], args := [d1, d2, d3] }
  | _ => none }
def wordRangesRow : OpenClaim := { program := "ytkeipanehjjmdaa", sum := "9299cc297b2147553f6dc43e385f630f01f90afe262bbddb26210b1bb0a22f9b", func := "skein/skeinlaw1.WordRanges", spec := "wordRanges", unfollowed := true, recurses := true, apart := false }
def WordRangesSaid : Prop := wordRangesRow.holds Try.pinned (OpenSpec.ofChange wordRangesSpec)

/-- ITS FALSE NEIGHBOUR: 'it returns false'. Refute it at one input. -/
def wordRangesWrong : ChangeSpec := { name := "wordRanges", fn := fun _ => fun
  | [d1, d2, d3] => { results := [.lit (.bool false)], args := [d1, d2, d3] }
  | _ => none }
def WordRangesWrongFalsely : Prop := wordRangesRow.holds Try.pinned (OpenSpec.ofChange wordRangesWrong)

/-- 'skeinlaw1.WordBits': WHATEVER THE INPUT: true; the input reads as it did. -/
def wordBitsSpec : ChangeSpec := { name := "wordBits", fn := fun _ => fun
  | [d1, d2, d3] => { results := [.lit (.bool true)], args := [d1, d2, d3] }
  | _ => none }
def wordBitsRow : OpenClaim := { program := "ytkeipanehjjmdaa", sum := "9299cc297b2147553f6dc43e385f630f01f90afe262bbddb26210b1bb0a22f9b", func := "skein/skeinlaw1.WordBits", spec := "wordBits", unfollowed := true, recurses := true, apart := false }
def WordBitsSaid : Prop := wordBitsRow.holds Try.pinned (OpenSpec.ofChange wordBitsSpec)

/-- ITS FALSE NEIGHBOUR: 'it returns false'. Refute it at one input. -/
def wordBitsWrong : ChangeSpec := { name := "wordBits", fn := fun _ => fun
  | [d1, d2, d3] => { results := [.lit (.bool false)], args := [d1, d2, d3] }
  | _ => none }
def WordBitsWrongFalsely : Prop := wordBitsRow.holds Try.pinned (OpenSpec.ofChange wordBitsWrong)

/-- 'skeinlaw1.WordPlaces': WHATEVER THE INPUT: true; the input reads as it did. -/
def wordPlacesSpec : ChangeSpec := { name := "wordPlaces", fn := fun _ => fun
  | [d1, d2, d3] => { results := [.lit (.bool true)], args := [d1, d2, d3] }
  | _ => none }
def wordPlacesRow : OpenClaim := { program := "ytkeipanehjjmdaa", sum := "9299cc297b2147553f6dc43e385f630f01f90afe262bbddb26210b1bb0a22f9b", func := "skein/skeinlaw1.WordPlaces", spec := "wordPlaces", unfollowed := true, recurses := true, apart := false }
def WordPlacesSaid : Prop := wordPlacesRow.holds Try.pinned (OpenSpec.ofChange wordPlacesSpec)

/-- ITS FALSE NEIGHBOUR: 'it returns false'. Refute it at one input. -/
def wordPlacesWrong : ChangeSpec := { name := "wordPlaces", fn := fun _ => fun
  | [d1, d2, d3] => { results := [.lit (.bool false)], args := [d1, d2, d3] }
  | _ => none }
def WordPlacesWrongFalsely : Prop := wordPlacesRow.holds Try.pinned (OpenSpec.ofChange wordPlacesWrong)

/- THE SECOND FORM. 'bulk': how many values and letters a reading holds, each counted each time it is reached (what is shared counts as often as it is met; a slice's spare places count too). A statement '..UptoSaid' is the law's where the arguments, and the package variables that the reading takes, are together of bulk at most 1048576: NARROWER than '..Said'. Prove '..Said' where nothing that the law and all that it calls make is longer than what came in: it says more and counts as full. Else prove '..UptoSaid'. A law counts once. -/
mutual
def uptoBulk {H : Type} : DataW H → Nat
  | .lit (.string bytes) => bytes.length + 1
  | .lit _ => 1
  | .nil => 1
  | .ptr d => uptoBulk d + 1
  | .slice elems spare => uptoBulkAll elems + uptoBulkAll spare + 1
  | .agg parts => uptoBulkAll parts + 1
  | .iface _ d => uptoBulk d + 1
  | .map entries => uptoBulkEntries entries + 1
  | .held _ => 1
def uptoBulkAll {H : Type} : List (DataW H) → Nat
  | [] => 0
  | d :: r => uptoBulk d + uptoBulkAll r
def uptoBulkEntries {H : Type} : List (Lit × DataW H) → Nat
  | [] => 0
  | x :: r => uptoBulkEntry x + uptoBulkEntries r
def uptoBulkEntry {H : Type} : Lit × DataW H → Nat
  | (.string bytes, d) => bytes.length + uptoBulk d + 1
  | (_, d) => uptoBulk d + 1
 end
def uptoSmall : (H : Type) → List (DataW H) → Bool := fun _ ds => decide (uptoBulkAll ds ≤ 1048576)
def OpenSpec.upto (s : _root_.Go.ChangeSpec) : _root_.Go.OpenSpec := { _root_.Go.OpenSpec.ofChange s with cond := some uptoSmall }

/-- 'skeinlaw2.TurnPlays', WHERE WHAT IT READS IS OF BULK AT MOST 1048576: true; the input reads as it did. -/
def turnPlaysUptoRow : OpenClaim := { program := "ytkeipanehjjmdaa", sum := "9299cc297b2147553f6dc43e385f630f01f90afe262bbddb26210b1bb0a22f9b", func := "skein/skeinlaw2.TurnPlays", spec := "turnPlays", unfollowed := true, recurses := true, apart := false, narrowed := true }
def TurnPlaysUptoSaid : Prop := turnPlaysUptoRow.holds Try.pinned (OpenSpec.upto turnPlaysSpec)

/-- 'skeinlaw2.TurnFair', WHERE WHAT IT READS IS OF BULK AT MOST 1048576: true; the input reads as it did. -/
def turnFairUptoRow : OpenClaim := { program := "ytkeipanehjjmdaa", sum := "9299cc297b2147553f6dc43e385f630f01f90afe262bbddb26210b1bb0a22f9b", func := "skein/skeinlaw2.TurnFair", spec := "turnFair", unfollowed := true, recurses := true, apart := false, narrowed := true }
def TurnFairUptoSaid : Prop := turnFairUptoRow.holds Try.pinned (OpenSpec.upto turnFairSpec)

/-- 'skeinlaw2.TurnCopies', WHERE WHAT IT READS IS OF BULK AT MOST 1048576: true; the input reads as it did. -/
def turnCopiesUptoRow : OpenClaim := { program := "ytkeipanehjjmdaa", sum := "9299cc297b2147553f6dc43e385f630f01f90afe262bbddb26210b1bb0a22f9b", func := "skein/skeinlaw2.TurnCopies", spec := "turnCopies", unfollowed := true, recurses := true, apart := false, narrowed := true }
def TurnCopiesUptoSaid : Prop := turnCopiesUptoRow.holds Try.pinned (OpenSpec.upto turnCopiesSpec)

/-- 'skeinlaw1.WordPacks', WHERE WHAT IT READS IS OF BULK AT MOST 1048576: true; the input reads as it did. -/
def wordPacksUptoRow : OpenClaim := { program := "ytkeipanehjjmdaa", sum := "9299cc297b2147553f6dc43e385f630f01f90afe262bbddb26210b1bb0a22f9b", func := "skein/skeinlaw1.WordPacks", spec := "wordPacks", unfollowed := true, recurses := true, apart := false, narrowed := true }
def WordPacksUptoSaid : Prop := wordPacksUptoRow.holds Try.pinned (OpenSpec.upto wordPacksSpec)

/-- 'skeinlaw1.WordParts', WHERE WHAT IT READS IS OF BULK AT MOST 1048576: true; the input reads as it did. -/
def wordPartsUptoRow : OpenClaim := { program := "ytkeipanehjjmdaa", sum := "9299cc297b2147553f6dc43e385f630f01f90afe262bbddb26210b1bb0a22f9b", func := "skein/skeinlaw1.WordParts", spec := "wordParts", unfollowed := true, recurses := true, apart := false, narrowed := true }
def WordPartsUptoSaid : Prop := wordPartsUptoRow.holds Try.pinned (OpenSpec.upto wordPartsSpec)

/-- 'skeinlaw1.WordBack', WHERE WHAT IT READS IS OF BULK AT MOST 1048576: true; the input reads as it did. -/
def wordBackUptoRow : OpenClaim := { program := "ytkeipanehjjmdaa", sum := "9299cc297b2147553f6dc43e385f630f01f90afe262bbddb26210b1bb0a22f9b", func := "skein/skeinlaw1.WordBack", spec := "wordBack", unfollowed := true, recurses := true, apart := false, narrowed := true }
def WordBackUptoSaid : Prop := wordBackUptoRow.holds Try.pinned (OpenSpec.upto wordBackSpec)

/-- 'skeinlaw1.WordRanges', WHERE WHAT IT READS IS OF BULK AT MOST 1048576: true; the input reads as it did. -/
def wordRangesUptoRow : OpenClaim := { program := "ytkeipanehjjmdaa", sum := "9299cc297b2147553f6dc43e385f630f01f90afe262bbddb26210b1bb0a22f9b", func := "skein/skeinlaw1.WordRanges", spec := "wordRanges", unfollowed := true, recurses := true, apart := false, narrowed := true }
def WordRangesUptoSaid : Prop := wordRangesUptoRow.holds Try.pinned (OpenSpec.upto wordRangesSpec)

/-- 'skeinlaw1.WordBits', WHERE WHAT IT READS IS OF BULK AT MOST 1048576: true; the input reads as it did. -/
def wordBitsUptoRow : OpenClaim := { program := "ytkeipanehjjmdaa", sum := "9299cc297b2147553f6dc43e385f630f01f90afe262bbddb26210b1bb0a22f9b", func := "skein/skeinlaw1.WordBits", spec := "wordBits", unfollowed := true, recurses := true, apart := false, narrowed := true }
def WordBitsUptoSaid : Prop := wordBitsUptoRow.holds Try.pinned (OpenSpec.upto wordBitsSpec)

/-- 'skeinlaw1.WordPlaces', WHERE WHAT IT READS IS OF BULK AT MOST 1048576: true; the input reads as it did. -/
def wordPlacesUptoRow : OpenClaim := { program := "ytkeipanehjjmdaa", sum := "9299cc297b2147553f6dc43e385f630f01f90afe262bbddb26210b1bb0a22f9b", func := "skein/skeinlaw1.WordPlaces", spec := "wordPlaces", unfollowed := true, recurses := true, apart := false, narrowed := true }
def WordPlacesUptoSaid : Prop := wordPlacesUptoRow.holds Try.pinned (OpenSpec.upto wordPlacesSpec)

end Rows
end Go.Proofs.Ytkeipanehjjmdaa
