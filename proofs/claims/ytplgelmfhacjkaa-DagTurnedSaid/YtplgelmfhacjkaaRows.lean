/-
  No cell of these rows narrows 'for every input' (looked for: loops, veiled, ifaces, maps, wideKeys, modest, calm, conditions, laid).
  DERIVED. THE GIVEN ROWS OF THIS SEAT. 7 by the template 'for every input the law returns true; each argument reads behind the call as it read before'; 0 by the template 'total and deterministic' (their statements: YtplgelmfhacjkaaTotals.lean).
  GIVEN WITH THE SEED: the statements are not yours to turn. If you find one false, say at which input.
  Laid BY PROGRAM, IN A SANDBOX (cutbox-rows.mjs): the forced cells as the released guide's own fill.sh prints them over the translation 032466aa907ce685… (all of the seat's roots in one cut). By AI agents, Wed Nov 11 2026. No macro, syntax, notation, axiom, sorry.
-/
import Derived.Test.YtplgelmfhacjkaaChecked
import GoSem.Claim
import GoSem.ClaimJoined
import GoSem.ClaimMapViews
import Derived.JoinedTies
import Derived.KernelRfl
namespace Go.Proofs.Ytplgelmfhacjkaa
/- THE CELL 'sum', in the pinned program and in every row, IS THE sha256 OF THE DUMP (.gsa) THAT YtplgelmfhacjkaaProg.lean LOADS. Nothing in Lean hashes anything: it is a label: what it is worth is what the hold of that sum in a sandbox is worth. -/
noncomputable def Try.pinned : Pinned := { name := "ytplgelmfhacjkaa", sum := "032466aa907ce685d6e5092c0b5780f4f44955ab7d35a231501468d92eb77700", checked := Try.checked }
namespace Rows
def none {H : Type} : Left H := { results := [], args := [] }

/-- 'palaverlaw12.DagFull': WHATEVER THE INPUT: true; the input reads as it did. -/
def dagFullSpec : ChangeSpec := { name := "dagFull", fn := fun _ => fun
  | [d] => { results := [.lit (.bool true)], args := [d] }
  | _ => none }
def dagFullRow : OpenClaim := { program := "ytplgelmfhacjkaa", sum := "032466aa907ce685d6e5092c0b5780f4f44955ab7d35a231501468d92eb77700", func := "palaver/palaverlaw12.DagFull", spec := "dagFull", inPlace := ["slices.overlaps[string]"], unfollowed := true, recurses := true, apart := false }
def DagFullSaid : Prop := dagFullRow.holds Try.pinned (OpenSpec.ofChange dagFullSpec)

/-- ITS FALSE NEIGHBOUR: 'it returns false'. Refute it at one input. -/
def dagFullWrong : ChangeSpec := { name := "dagFull", fn := fun _ => fun
  | [d] => { results := [.lit (.bool false)], args := [d] }
  | _ => none }
def DagFullWrongFalsely : Prop := dagFullRow.holds Try.pinned (OpenSpec.ofChange dagFullWrong)

/-- 'palaverlaw12.DagAheads': WHATEVER THE INPUT: true; the input reads as it did. -/
def dagAheadsSpec : ChangeSpec := { name := "dagAheads", fn := fun _ => fun
  | [d1, d2, d3] => { results := [.lit (.bool true)], args := [d1, d2, d3] }
  | _ => none }
def dagAheadsRow : OpenClaim := { program := "ytplgelmfhacjkaa", sum := "032466aa907ce685d6e5092c0b5780f4f44955ab7d35a231501468d92eb77700", func := "palaver/palaverlaw12.DagAheads", spec := "dagAheads", inPlace := ["slices.overlaps[string]"], unfollowed := true, recurses := true, apart := false }
def DagAheadsSaid : Prop := dagAheadsRow.holds Try.pinned (OpenSpec.ofChange dagAheadsSpec)

/-- ITS FALSE NEIGHBOUR: 'it returns false'. Refute it at one input. -/
def dagAheadsWrong : ChangeSpec := { name := "dagAheads", fn := fun _ => fun
  | [d1, d2, d3] => { results := [.lit (.bool false)], args := [d1, d2, d3] }
  | _ => none }
def DagAheadsWrongFalsely : Prop := dagAheadsRow.holds Try.pinned (OpenSpec.ofChange dagAheadsWrong)

/-- 'palaverlaw12.DagOrders': WHATEVER THE INPUT: true; the input reads as it did. -/
def dagOrdersSpec : ChangeSpec := { name := "dagOrders", fn := fun _ => fun
  | [d] => { results := [.lit (.bool true)], args := [d] }
  | _ => none }
def dagOrdersRow : OpenClaim := { program := "ytplgelmfhacjkaa", sum := "032466aa907ce685d6e5092c0b5780f4f44955ab7d35a231501468d92eb77700", func := "palaver/palaverlaw12.DagOrders", spec := "dagOrders", inPlace := ["slices.overlaps[string]"], unfollowed := true, recurses := true, apart := false }
def DagOrdersSaid : Prop := dagOrdersRow.holds Try.pinned (OpenSpec.ofChange dagOrdersSpec)

/-- ITS FALSE NEIGHBOUR: 'it returns false'. Refute it at one input. -/
def dagOrdersWrong : ChangeSpec := { name := "dagOrders", fn := fun _ => fun
  | [d] => { results := [.lit (.bool false)], args := [d] }
  | _ => none }
def DagOrdersWrongFalsely : Prop := dagOrdersRow.holds Try.pinned (OpenSpec.ofChange dagOrdersWrong)

/-- 'palaverlaw12.DagPlays': WHATEVER THE INPUT: true; the input reads as it did. -/
def dagPlaysSpec : ChangeSpec := { name := "dagPlays", fn := fun _ => fun
  | [d1, d2] => { results := [.lit (.bool true)], args := [d1, d2] }
  | _ => none }
def dagPlaysRow : OpenClaim := { program := "ytplgelmfhacjkaa", sum := "032466aa907ce685d6e5092c0b5780f4f44955ab7d35a231501468d92eb77700", func := "palaver/palaverlaw12.DagPlays", spec := "dagPlays", inPlace := ["slices.overlaps[string]"], unfollowed := true, recurses := true, apart := false }
def DagPlaysSaid : Prop := dagPlaysRow.holds Try.pinned (OpenSpec.ofChange dagPlaysSpec)

/-- ITS FALSE NEIGHBOUR: 'it returns false'. Refute it at one input. -/
def dagPlaysWrong : ChangeSpec := { name := "dagPlays", fn := fun _ => fun
  | [d1, d2] => { results := [.lit (.bool false)], args := [d1, d2] }
  | _ => none }
def DagPlaysWrongFalsely : Prop := dagPlaysRow.holds Try.pinned (OpenSpec.ofChange dagPlaysWrong)

/-- 'palaverlaw12.DagTurned': WHATEVER THE INPUT: true; the input reads as it did. -/
def dagTurnedSpec : ChangeSpec := { name := "dagTurned", fn := fun _ => fun
  | [d1, d2] => { results := [.lit (.bool true)], args := [d1, d2] }
  | _ => none }
def dagTurnedRow : OpenClaim := { program := "ytplgelmfhacjkaa", sum := "032466aa907ce685d6e5092c0b5780f4f44955ab7d35a231501468d92eb77700", func := "palaver/palaverlaw12.DagTurned", spec := "dagTurned", inPlace := ["slices.overlaps[string]"], unfollowed := true, recurses := true, apart := false }
def DagTurnedSaid : Prop := dagTurnedRow.holds Try.pinned (OpenSpec.ofChange dagTurnedSpec)

/-- ITS FALSE NEIGHBOUR: 'it returns false'. Refute it at one input. -/
def dagTurnedWrong : ChangeSpec := { name := "dagTurned", fn := fun _ => fun
  | [d1, d2] => { results := [.lit (.bool false)], args := [d1, d2] }
  | _ => none }
def DagTurnedWrongFalsely : Prop := dagTurnedRow.holds Try.pinned (OpenSpec.ofChange dagTurnedWrong)

/-- 'palaverlaw12.DagCopies': WHATEVER THE INPUT: true; the input reads as it did. -/
def dagCopiesSpec : ChangeSpec := { name := "dagCopies", fn := fun _ => fun
  | [d1, d2] => { results := [.lit (.bool true)], args := [d1, d2] }
  | _ => none }
def dagCopiesRow : OpenClaim := { program := "ytplgelmfhacjkaa", sum := "032466aa907ce685d6e5092c0b5780f4f44955ab7d35a231501468d92eb77700", func := "palaver/palaverlaw12.DagCopies", spec := "dagCopies", inPlace := ["slices.overlaps[string]", "maps.clone"], unfollowed := true, recurses := true, apart := false }
def DagCopiesSaid : Prop := dagCopiesRow.holds Try.pinned (OpenSpec.ofChange dagCopiesSpec)

/-- ITS FALSE NEIGHBOUR: 'it returns false'. Refute it at one input. -/
def dagCopiesWrong : ChangeSpec := { name := "dagCopies", fn := fun _ => fun
  | [d1, d2] => { results := [.lit (.bool false)], args := [d1, d2] }
  | _ => none }
def DagCopiesWrongFalsely : Prop := dagCopiesRow.holds Try.pinned (OpenSpec.ofChange dagCopiesWrong)

/-- 'palaverlaw12.DagNone': WHATEVER THE INPUT: true; the input reads as it did. -/
def dagNoneSpec : ChangeSpec := { name := "dagNone", fn := fun _ => fun
  | [d1, d2] => { results := [.lit (.bool true)], args := [d1, d2] }
  | _ => none }
def dagNoneRow : OpenClaim := { program := "ytplgelmfhacjkaa", sum := "032466aa907ce685d6e5092c0b5780f4f44955ab7d35a231501468d92eb77700", func := "palaver/palaverlaw12.DagNone", spec := "dagNone", inPlace := ["slices.overlaps[string]", "maps.clone"], unfollowed := true, recurses := true, apart := false }
def DagNoneSaid : Prop := dagNoneRow.holds Try.pinned (OpenSpec.ofChange dagNoneSpec)

/-- ITS FALSE NEIGHBOUR: 'it returns false'. Refute it at one input. -/
def dagNoneWrong : ChangeSpec := { name := "dagNone", fn := fun _ => fun
  | [d1, d2] => { results := [.lit (.bool false)], args := [d1, d2] }
  | _ => none }
def DagNoneWrongFalsely : Prop := dagNoneRow.holds Try.pinned (OpenSpec.ofChange dagNoneWrong)

/- THE SECOND FORM. 'bulk': how many values and letters a reading holds, each counted each time it is reached (what is shared counts as often as it is met; a slice's spare places count too). A statement '..UptoSaid' is the law's where the arguments, and the package variables that the reading takes, are together of bulk at most 1048576: NARROWER than '..Said'. Prove '..Said' where nothing that the law and all that it calls make is longer than what came in: it says more and counts as full. Else prove '..UptoSaid'. A law counts once. -/
mutual
def uptoBulk {H : Type} : DataW H → Nat
  | .lit (.string bytes) => bytes.length + 1
  | .lit _ => 1
  | .nil => 1
  | .ptr d => uptoBulk d + 1
  | .slice elems spare => uptoBulkAll elems + uptoBulkAll spare + 1
  | .agg parts => uptoBulkAll parts + 1
  | .iface _ d => uptoBulk d + 1
  | .map entries => uptoBulkEntries entries + 1
  | .held _ => 1
def uptoBulkAll {H : Type} : List (DataW H) → Nat
  | [] => 0
  | d :: r => uptoBulk d + uptoBulkAll r
def uptoBulkEntries {H : Type} : List (Lit × DataW H) → Nat
  | [] => 0
  | x :: r => uptoBulkEntry x + uptoBulkEntries r
def uptoBulkEntry {H : Type} : Lit × DataW H → Nat
  | (.string bytes, d) => bytes.length + uptoBulk d + 1
  | (_, d) => uptoBulk d + 1
 end
def uptoSmall : (H : Type) → List (DataW H) → Bool := fun _ ds => decide (uptoBulkAll ds ≤ 1048576)
def OpenSpec.upto (s : _root_.Go.ChangeSpec) : _root_.Go.OpenSpec := { _root_.Go.OpenSpec.ofChange s with cond := some uptoSmall }

/-- 'palaverlaw12.DagFull', WHERE WHAT IT READS IS OF BULK AT MOST 1048576: true; the input reads as it did. -/
def dagFullUptoRow : OpenClaim := { program := "ytplgelmfhacjkaa", sum := "032466aa907ce685d6e5092c0b5780f4f44955ab7d35a231501468d92eb77700", func := "palaver/palaverlaw12.DagFull", spec := "dagFull", inPlace := ["slices.overlaps[string]"], unfollowed := true, recurses := true, apart := false, narrowed := true }
def DagFullUptoSaid : Prop := dagFullUptoRow.holds Try.pinned (OpenSpec.upto dagFullSpec)

/-- 'palaverlaw12.DagAheads', WHERE WHAT IT READS IS OF BULK AT MOST 1048576: true; the input reads as it did. -/
def dagAheadsUptoRow : OpenClaim := { program := "ytplgelmfhacjkaa", sum := "032466aa907ce685d6e5092c0b5780f4f44955ab7d35a231501468d92eb77700", func := "palaver/palaverlaw12.DagAheads", spec := "dagAheads", inPlace := ["slices.overlaps[string]"], unfollowed := true, recurses := true, apart := false, narrowed := true }
def DagAheadsUptoSaid : Prop := dagAheadsUptoRow.holds Try.pinned (OpenSpec.upto dagAheadsSpec)

/-- 'palaverlaw12.DagOrders', WHERE WHAT IT READS IS OF BULK AT MOST 1048576: true; the input reads as it did. -/
def dagOrdersUptoRow : OpenClaim := { program := "ytplgelmfhacjkaa", sum := "032466aa907ce685d6e5092c0b5780f4f44955ab7d35a231501468d92eb77700", func := "palaver/palaverlaw12.DagOrders", spec := "dagOrders", inPlace := ["slices.overlaps[string]"], unfollowed := true, recurses := true, apart := false, narrowed := true }
def DagOrdersUptoSaid : Prop := dagOrdersUptoRow.holds Try.pinned (OpenSpec.upto dagOrdersSpec)

/-- 'palaverlaw12.DagPlays', WHERE WHAT IT READS IS OF BULK AT MOST 1048576: true; the input reads as it did. -/
def dagPlaysUptoRow : OpenClaim := { program := "ytplgelmfhacjkaa", sum := "032466aa907ce685d6e5092c0b5780f4f44955ab7d35a231501468d92eb77700", func := "palaver/palaverlaw12.DagPlays", spec := "dagPlays", inPlace := ["slices.overlaps[string]"], unfollowed := true, recurses := true, apart := false, narrowed := true }
def DagPlaysUptoSaid : Prop := dagPlaysUptoRow.holds Try.pinned (OpenSpec.upto dagPlaysSpec)

/-- 'palaverlaw12.DagTurned', WHERE WHAT IT READS IS OF BULK AT MOST 1048576: true; the input reads as it did. -/
def dagTurnedUptoRow : OpenClaim := { program := "ytplgelmfhacjkaa", sum := "032466aa907ce685d6e5092c0b5780f4f44955ab7d35a231501468d92eb77700", func := "palaver/palaverlaw12.DagTurned", spec := "dagTurned", inPlace := ["slices.overlaps[string]"], unfollowed := true, recurses := true, apart := false, narrowed := true }
def DagTurnedUptoSaid : Prop := dagTurnedUptoRow.holds Try.pinned (OpenSpec.upto dagTurnedSpec)

/-- 'palaverlaw12.DagCopies', WHERE WHAT IT READS IS OF BULK AT MOST 1048576: true; the input reads as it did. -/
def dagCopiesUptoRow : OpenClaim := { program := "ytplgelmfhacjkaa", sum := "032466aa907ce685d6e5092c0b5780f4f44955ab7d35a231501468d92eb77700", func := "palaver/palaverlaw12.DagCopies", spec := "dagCopies", inPlace := ["slices.overlaps[string]", "maps.clone"], unfollowed := true, recurses := true, apart := false, narrowed := true }
def DagCopiesUptoSaid : Prop := dagCopiesUptoRow.holds Try.pinned (OpenSpec.upto dagCopiesSpec)

/-- 'palaverlaw12.DagNone', WHERE WHAT IT READS IS OF BULK AT MOST 1048576: true; the input reads as it did. -/
def dagNoneUptoRow : OpenClaim := { program := "ytplgelmfhacjkaa", sum := "032466aa907ce685d6e5092c0b5780f4f44955ab7d35a231501468d92eb77700", func := "palaver/palaverlaw12.DagNone", spec := "dagNone", inPlace := ["slices.overlaps[string]", "maps.clone"], unfollowed := true, recurses := true, apart := false, narrowed := true }
def DagNoneUptoSaid : Prop := dagNoneUptoRow.holds Try.pinned (OpenSpec.upto dagNoneSpec)

end Rows
end Go.Proofs.Ytplgelmfhacjkaa
