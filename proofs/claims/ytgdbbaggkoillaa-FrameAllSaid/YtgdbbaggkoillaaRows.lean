/-
  No cell of these rows narrows 'for every input' (looked for: loops, veiled, ifaces, maps, wideKeys, modest, calm, conditions, laid).
  DERIVED. THE GIVEN ROWS OF THIS SEAT. 15 by the template 'for every input the law returns true; each argument reads behind the call as it read before'; 0 by the template 'total and deterministic' (their statements: YtgdbbaggkoillaaTotals.lean).
  GIVEN WITH THE SEED: the statements are not yours to turn. If you find one false, say at which input.
  Laid BY PROGRAM, IN A SANDBOX (cutbox-rows.mjs): the forced cells as the released guide's own fill.sh prints them over the translation d929a0b07f07b081… (all of the seat's roots in one cut). By AI agents, Wed Nov 11 2026. No macro, syntax, notation, axiom, sorry.
-/
import Derived.Test.YtgdbbaggkoillaaChecked
import GoSem.Claim
import GoSem.ClaimJoined
import GoSem.ClaimMapViews
import Derived.JoinedTies
import Derived.KernelRfl
namespace Go.Proofs.Ytgdbbaggkoillaa
/- THE CELL 'sum', in the pinned program and in every row, IS THE sha256 OF THE DUMP (.gsa) THAT YtgdbbaggkoillaaProg.lean LOADS. Nothing in Lean hashes anything: it is a label: what it is worth is what the hold of that sum in a sandbox is worth. -/
noncomputable def Try.pinned : Pinned := { name := "ytgdbbaggkoillaa", sum := "d929a0b07f07b0810114f280f1d4f6b6de4960f74b0844b53db101eb5cabc3d8", checked := Try.checked }
namespace Rows
def none {H : Type} : Left H := { results := [], args := [] }

/-- 'kithlaw06.EventSizes': WHATEVER THE INPUT: true; the input reads as it did. -/
def eventSizesSpec : ChangeSpec := { name := "eventSizes", fn := fun _ => fun
  | [d] => { results := [.lit (.bool true)], args := [d] }
  | _ => none }
def eventSizesRow : OpenClaim := { program := "ytgdbbaggkoillaa", sum := "d929a0b07f07b0810114f280f1d4f6b6de4960f74b0844b53db101eb5cabc3d8", func := "kith/kithlaw06.EventSizes", spec := "eventSizes", unfollowed := true, recurses := true, apart := false }
def EventSizesSaid : Prop := eventSizesRow.holds Try.pinned (OpenSpec.ofChange eventSizesSpec)

/-- ITS FALSE NEIGHBOUR: 'it returns false'. Refute it at one input. -/
def eventSizesWrong : ChangeSpec := { name := "eventSizes", fn := fun _ => fun
  | [d] => { results := [.lit (.bool false)], args := [d] }
  | _ => none }
def EventSizesWrongFalsely : Prop := eventSizesRow.holds Try.pinned (OpenSpec.ofChange eventSizesWrong)

/-- 'kithlaw06.EventOdd': WHATEVER THE INPUT: true; the input reads as it did. -/
def eventOddSpec : ChangeSpec := { name := "eventOdd", fn := fun _ => fun
  | [d1, d2] => { results := [.lit (.bool true)], args := [d1, d2] }
  | _ => none }
def eventOddRow : OpenClaim := { program := "ytgdbbaggkoillaa", sum := "d929a0b07f07b0810114f280f1d4f6b6de4960f74b0844b53db101eb5cabc3d8", func := "kith/kithlaw06.EventOdd", spec := "eventOdd", unfollowed := true, recurses := true, apart := false }
def EventOddSaid : Prop := eventOddRow.holds Try.pinned (OpenSpec.ofChange eventOddSpec)

/-- ITS FALSE NEIGHBOUR: 'it returns false'. Refute it at one input. -/
def eventOddWrong : ChangeSpec := { name := "eventOdd", fn := fun _ => fun
  | [d1, d2] => { results := [.lit (.bool false)], args := [d1, d2] }
  | _ => none }
def EventOddWrongFalsely : Prop := eventOddRow.holds Try.pinned (OpenSpec.ofChange eventOddWrong)

/-- 'kithlaw06.EventBelow': WHATEVER THE INPUT: true; the input reads as it did. -/
def eventBelowSpec : ChangeSpec := { name := "eventBelow", fn := fun _ => fun
  | [d1, d2] => { results := [.lit (.bool true)], args := [d1, d2] }
  | _ => none }
def eventBelowRow : OpenClaim := { program := "ytgdbbaggkoillaa", sum := "d929a0b07f07b0810114f280f1d4f6b6de4960f74b0844b53db101eb5cabc3d8", func := "kith/kithlaw06.EventBelow", spec := "eventBelow", unfollowed := true, recurses := true, apart := false }
def EventBelowSaid : Prop := eventBelowRow.holds Try.pinned (OpenSpec.ofChange eventBelowSpec)

/-- ITS FALSE NEIGHBOUR: 'it returns false'. Refute it at one input. -/
def eventBelowWrong : ChangeSpec := { name := "eventBelow", fn := fun _ => fun
  | [d1, d2] => { results := [.lit (.bool false)], args := [d1, d2] }
  | _ => none }
def EventBelowWrongFalsely : Prop := eventBelowRow.holds Try.pinned (OpenSpec.ofChange eventBelowWrong)

/-- 'kithlaw06.EventBack': WHATEVER THE INPUT: true; the input reads as it did. -/
def eventBackSpec : ChangeSpec := { name := "eventBack", fn := fun _ => fun
  | [d1, d2, d3] => { results := [.lit (.bool true)], args := [d1, d2, d3] }
  | _ => none }
def eventBackRow : OpenClaim := { program := "ytgdbbaggkoillaa", sum := "d929a0b07f07b0810114f280f1d4f6b6de4960f74b0844b53db101eb5cabc3d8", func := "kith/kithlaw06.EventBack", spec := "eventBack", unfollowed := true, recurses := true, apart := false }
def EventBackSaid : Prop := eventBackRow.holds Try.pinned (OpenSpec.ofChange eventBackSpec)

/-- ITS FALSE NEIGHBOUR: 'it returns false'. Refute it at one input. -/
def eventBackWrong : ChangeSpec := { name := "eventBack", fn := fun _ => fun
  | [d1, d2, d3] => { results := [.lit (.bool false)], args := [d1, d2, d3] }
  | _ => none }
def EventBackWrongFalsely : Prop := eventBackRow.holds Try.pinned (OpenSpec.ofChange eventBackWrong)

/-- 'kithlaw06.EventCuts': WHATEVER THE INPUT: true; the input reads as it did. -/
def eventCutsSpec : ChangeSpec := { name := "eventCuts", fn := fun _ => fun
  | [d1, d2] => { results := [.lit (.bool true)], args := [d1, d2] }
  | _ => none }
def eventCutsRow : OpenClaim := { program := "ytgdbbaggkoillaa", sum := "d929a0b07f07b0810114f280f1d4f6b6de4960f74b0844b53db101eb5cabc3d8", func := "kith/kithlaw06.EventCuts", spec := "eventCuts", unfollowed := true, recurses := true, apart := false }
def EventCutsSaid : Prop := eventCutsRow.holds Try.pinned (OpenSpec.ofChange eventCutsSpec)

/-- ITS FALSE NEIGHBOUR: 'it returns false'. Refute it at one input. -/
def eventCutsWrong : ChangeSpec := { name := "eventCuts", fn := fun _ => fun
  | [d1, d2] => { results := [.lit (.bool false)], args := [d1, d2] }
  | _ => none }
def EventCutsWrongFalsely : Prop := eventCutsRow.holds Try.pinned (OpenSpec.ofChange eventCutsWrong)

/-- 'kithlaw18.RecordFields': WHATEVER THE INPUT: true; the input reads as it did. -/
def recordFieldsSpec : ChangeSpec := { name := "recordFields", fn := fun _ => fun
  | [d1, d2] => { results := [.lit (.bool true)], args := [d1, d2] }
  | _ => none }
def recordFieldsRow : OpenClaim := { program := "ytgdbbaggkoillaa", sum := "d929a0b07f07b0810114f280f1d4f6b6de4960f74b0844b53db101eb5cabc3d8", func := "kith/kithlaw18.RecordFields", spec := "recordFields", unfollowed := true, recurses := true, apart := false }
def RecordFieldsSaid : Prop := recordFieldsRow.holds Try.pinned (OpenSpec.ofChange recordFieldsSpec)

/-- ITS FALSE NEIGHBOUR: 'it returns false'. Refute it at one input. -/
def recordFieldsWrong : ChangeSpec := { name := "recordFields", fn := fun _ => fun
  | [d1, d2] => { results := [.lit (.bool false)], args := [d1, d2] }
  | _ => none }
def RecordFieldsWrongFalsely : Prop := recordFieldsRow.holds Try.pinned (OpenSpec.ofChange recordFieldsWrong)

/-- 'kithlaw07.FrameAll': WHATEVER THE INPUT: true; the input reads as it did. -/
def frameAllSpec : ChangeSpec := { name := "frameAll", fn := fun _ => fun
  | [d1, d2] => { results := [.lit (.bool true)], args := [d1, d2] }
  | _ => none }
def frameAllRow : OpenClaim := { program := "ytgdbbaggkoillaa", sum := "d929a0b07f07b0810114f280f1d4f6b6de4960f74b0844b53db101eb5cabc3d8", func := "kith/kithlaw07.FrameAll", spec := "frameAll", unfollowed := true, recurses := true, apart := false }
def FrameAllSaid : Prop := frameAllRow.holds Try.pinned (OpenSpec.ofChange frameAllSpec)

/-- ITS FALSE NEIGHBOUR: 'it returns false'. Refute it at one input. -/
def frameAllWrong : ChangeSpec := { name := "frameAll", fn := fun _ => fun
  | [d1, d2] => { results := [.lit (.bool false)], args := [d1, d2] }
  | _ => none }
def FrameAllWrongFalsely : Prop := frameAllRow.holds Try.pinned (OpenSpec.ofChange frameAllWrong)

/-- 'kithlaw07.FrameBack': WHATEVER THE INPUT: true; the input reads as it did. -/
def frameBackSpec : ChangeSpec := { name := "frameBack", fn := fun _ => fun
  | [d1, d2] => { results := [.lit (.bool true)], args := [d1, d2] }
  | _ => none }
def frameBackRow : OpenClaim := { program := "ytgdbbaggkoillaa", sum := "d929a0b07f07b0810114f280f1d4f6b6de4960f74b0844b53db101eb5cabc3d8", func := "kith/kithlaw07.FrameBack", spec := "frameBack", unfollowed := true, recurses := true, apart := false }
def FrameBackSaid : Prop := frameBackRow.holds Try.pinned (OpenSpec.ofChange frameBackSpec)

/-- ITS FALSE NEIGHBOUR: 'it returns false'. Refute it at one input. -/
def frameBackWrong : ChangeSpec := { name := "frameBack", fn := fun _ => fun
  | [d1, d2] => { results := [.lit (.bool false)], args := [d1, d2] }
  | _ => none }
def FrameBackWrongFalsely : Prop := frameBackRow.holds Try.pinned (OpenSpec.ofChange frameBackWrong)

/-- 'kithlaw07.FrameBursts': WHATEVER THE INPUT: true; the input reads as it did. -/
def frameBurstsSpec : ChangeSpec := { name := "frameBursts", fn := fun _ => fun
  | [d1, d2, d3] => { results := [.lit (.bool true)], args := [d1, d2, d3] }
  | _ => none }
def frameBurstsRow : OpenClaim := { program := "ytgdbbaggkoillaa", sum := "d929a0b07f07b0810114f280f1d4f6b6de4960f74b0844b53db101eb5cabc3d8", func := "kith/kithlaw07.FrameBursts", spec := "frameBursts", unfollowed := true, recurses := true, apart := false }
def FrameBurstsSaid : Prop := frameBurstsRow.holds Try.pinned (OpenSpec.ofChange frameBurstsSpec)

/-- ITS FALSE NEIGHBOUR: 'it returns false'. Refute it at one input. -/
def frameBurstsWrong : ChangeSpec := { name := "frameBursts", fn := fun _ => fun
  | [d1, d2, d3] => { results := [.lit (.bool false)], args := [d1, d2, d3] }
  | _ => none }
def FrameBurstsWrongFalsely : Prop := frameBurstsRow.holds Try.pinned (OpenSpec.ofChange frameBurstsWrong)

/-- 'kithlaw07.FrameFields': WHATEVER THE INPUT: true; the input reads as it did. -/
def frameFieldsSpec : ChangeSpec := { name := "frameFields", fn := fun _ => fun
  | [d1, d2] => { results := [.lit (.bool true)], args := [d1, d2] }
  | _ => none }
def frameFieldsRow : OpenClaim := { program := "ytgdbbaggkoillaa", sum := "d929a0b07f07b0810114f280f1d4f6b6de4960f74b0844b53db101eb5cabc3d8", func := "kith/kithlaw07.FrameFields", spec := "frameFields", unfollowed := true, recurses := true, apart := false }
def FrameFieldsSaid : Prop := frameFieldsRow.holds Try.pinned (OpenSpec.ofChange frameFieldsSpec)

/-- ITS FALSE NEIGHBOUR: 'it returns false'. Refute it at one input. -/
def frameFieldsWrong : ChangeSpec := { name := "frameFields", fn := fun _ => fun
  | [d1, d2] => { results := [.lit (.bool false)], args := [d1, d2] }
  | _ => none }
def FrameFieldsWrongFalsely : Prop := frameFieldsRow.holds Try.pinned (OpenSpec.ofChange frameFieldsWrong)

/-- 'kithlaw07.FrameApart': WHATEVER THE INPUT: true; the input reads as it did. -/
def frameApartSpec : ChangeSpec := { name := "frameApart", fn := fun _ => fun
  | [d1, d2] => { results := [.lit (.bool true)], args := [d1, d2] }
  | _ => none }
def frameApartRow : OpenClaim := { program := "ytgdbbaggkoillaa", sum := "d929a0b07f07b0810114f280f1d4f6b6de4960f74b0844b53db101eb5cabc3d8", func := "kith/kithlaw07.FrameApart", spec := "frameApart", unfollowed := true, recurses := true, apart := false }
def FrameApartSaid : Prop := frameApartRow.holds Try.pinned (OpenSpec.ofChange frameApartSpec)

/-- ITS FALSE NEIGHBOUR: 'it returns false'. Refute it at one input. -/
def frameApartWrong : ChangeSpec := { name := "frameApart", fn := fun _ => fun
  | [d1, d2] => { results := [.lit (.bool false)], args := [d1, d2] }
  | _ => none }
def FrameApartWrongFalsely : Prop := frameApartRow.holds Try.pinned (OpenSpec.ofChange frameApartWrong)

/-- 'kithlaw07.FrameCuts': WHATEVER THE INPUT: true; the input reads as it did. -/
def frameCutsSpec : ChangeSpec := { name := "frameCuts", fn := fun _ => fun
  | [d1, d2] => { results := [.lit (.bool true)], args := [d1, d2] }
  | _ => none }
def frameCutsRow : OpenClaim := { program := "ytgdbbaggkoillaa", sum := "d929a0b07f07b0810114f280f1d4f6b6de4960f74b0844b53db101eb5cabc3d8", func := "kith/kithlaw07.FrameCuts", spec := "frameCuts", unfollowed := true, recurses := true, apart := false }
def FrameCutsSaid : Prop := frameCutsRow.holds Try.pinned (OpenSpec.ofChange frameCutsSpec)

/-- ITS FALSE NEIGHBOUR: 'it returns false'. Refute it at one input. -/
def frameCutsWrong : ChangeSpec := { name := "frameCuts", fn := fun _ => fun
  | [d1, d2] => { results := [.lit (.bool false)], args := [d1, d2] }
  | _ => none }
def FrameCutsWrongFalsely : Prop := frameCutsRow.holds Try.pinned (OpenSpec.ofChange frameCutsWrong)

/-- 'kithlaw18.RecordCuts': WHATEVER THE INPUT: true; the input reads as it did. -/
def recordCutsSpec : ChangeSpec := { name := "recordCuts", fn := fun _ => fun
  | [d1, d2] => { results := [.lit (.bool true)], args := [d1, d2] }
  | _ => none }
def recordCutsRow : OpenClaim := { program := "ytgdbbaggkoillaa", sum := "d929a0b07f07b0810114f280f1d4f6b6de4960f74b0844b53db101eb5cabc3d8", func := "kith/kithlaw18.RecordCuts", spec := "recordCuts", unfollowed := true, recurses := true, apart := false }
def RecordCutsSaid : Prop := recordCutsRow.holds Try.pinned (OpenSpec.ofChange recordCutsSpec)

/-- ITS FALSE NEIGHBOUR: 'it returns false'. Refute it at one input. -/
def recordCutsWrong : ChangeSpec := { name := "recordCuts", fn := fun _ => fun
  | [d1, d2] => { results := [.lit (.bool false)], args := [d1, d2] }
  | _ => none }
def RecordCutsWrongFalsely : Prop := recordCutsRow.holds Try.pinned (OpenSpec.ofChange recordCutsWrong)

/-- 'kithlaw18.RecordBursts': WHATEVER THE INPUT: true; the input reads as it did. -/
def recordBurstsSpec : ChangeSpec := { name := "recordBursts", fn := fun _ => fun
  | [d1, d2, d3] => { results := [.lit (.bool true)], args := [d1, d2, d3] }
  | _ => none }
def recordBurstsRow : OpenClaim := { program := "ytgdbbaggkoillaa", sum := "d929a0b07f07b0810114f280f1d4f6b6de4960f74b0844b53db101eb5cabc3d8", func := "kith/kithlaw18.RecordBursts", spec := "recordBursts", unfollowed := true, recurses := true, apart := false }
def RecordBurstsSaid : Prop := recordBurstsRow.holds Try.pinned (OpenSpec.ofChange recordBurstsSpec)

/-- ITS FALSE NEIGHBOUR: 'it returns false'. Refute it at one input. -/
def recordBurstsWrong : ChangeSpec := { name := "recordBursts", fn := fun _ => fun
  | [d1, d2, d3] => { results := [.lit (.bool false)], args := [d1, d2, d3] }
  | _ => none }
def RecordBurstsWrongFalsely : Prop := recordBurstsRow.holds Try.pinned (OpenSpec.ofChange recordBurstsWrong)

/-- 'kithlaw18.RecordJoins': WHATEVER THE INPUT: true; the input reads as it did. -/
def recordJoinsSpec : ChangeSpec := { name := "recordJoins", fn := fun _ => fun
  | [d1, d2] => { results := [.lit (.bool true)], args := [d1, d2] }
  | _ => none }
def recordJoinsRow : OpenClaim := { program := "ytgdbbaggkoillaa", sum := "d929a0b07f07b0810114f280f1d4f6b6de4960f74b0844b53db101eb5cabc3d8", func := "kith/kithlaw18.RecordJoins", spec := "recordJoins", unfollowed := true, recurses := true, apart := false }
def RecordJoinsSaid : Prop := recordJoinsRow.holds Try.pinned (OpenSpec.ofChange recordJoinsSpec)

/-- ITS FALSE NEIGHBOUR: 'it returns false'. Refute it at one input. -/
def recordJoinsWrong : ChangeSpec := { name := "recordJoins", fn := fun _ => fun
  | [d1, d2] => { results := [.lit (.bool false)], args := [d1, d2] }
  | _ => none }
def RecordJoinsWrongFalsely : Prop := recordJoinsRow.holds Try.pinned (OpenSpec.ofChange recordJoinsWrong)

/- THE SECOND FORM. 'bulk': how many values and letters a reading holds, each counted each time it is reached (what is shared counts as often as it is met; a slice's spare places count too). A statement '..UptoSaid' is the law's where the arguments, and the package variables that the reading takes, are together of bulk at most 1048576: NARROWER than '..Said'. Prove '..Said' where nothing that the law and all that it calls make is longer than what came in: it says more and counts as full. Else prove '..UptoSaid'. A law counts once. -/
mutual
def uptoBulk {H : Type} : DataW H → Nat
  | .lit (.string bytes) => bytes.length + 1
  | .lit _ => 1
  | .nil => 1
  | .ptr d => uptoBulk d + 1
  | .slice elems spare => uptoBulkAll elems + uptoBulkAll spare + 1
  | .agg parts => uptoBulkAll parts + 1
  | .iface _ d => uptoBulk d + 1
  | .map entries => uptoBulkEntries entries + 1
  | .held _ => 1
def uptoBulkAll {H : Type} : List (DataW H) → Nat
  | [] => 0
  | d :: r => uptoBulk d + uptoBulkAll r
def uptoBulkEntries {H : Type} : List (Lit × DataW H) → Nat
  | [] => 0
  | x :: r => uptoBulkEntry x + uptoBulkEntries r
def uptoBulkEntry {H : Type} : Lit × DataW H → Nat
  | (.string bytes, d) => bytes.length + uptoBulk d + 1
  | (_, d) => uptoBulk d + 1
 end
def uptoSmall : (H : Type) → List (DataW H) → Bool := fun _ ds => decide (uptoBulkAll ds ≤ 1048576)
def OpenSpec.upto (s : _root_.Go.ChangeSpec) : _root_.Go.OpenSpec := { _root_.Go.OpenSpec.ofChange s with cond := some uptoSmall }

/-- 'kithlaw06.EventSizes', WHERE WHAT IT READS IS OF BULK AT MOST 1048576: true; the input reads as it did. -/
def eventSizesUptoRow : OpenClaim := { program := "ytgdbbaggkoillaa", sum := "d929a0b07f07b0810114f280f1d4f6b6de4960f74b0844b53db101eb5cabc3d8", func := "kith/kithlaw06.EventSizes", spec := "eventSizes", unfollowed := true, recurses := true, apart := false, narrowed := true }
def EventSizesUptoSaid : Prop := eventSizesUptoRow.holds Try.pinned (OpenSpec.upto eventSizesSpec)

/-- 'kithlaw06.EventOdd', WHERE WHAT IT READS IS OF BULK AT MOST 1048576: true; the input reads as it did. -/
def eventOddUptoRow : OpenClaim := { program := "ytgdbbaggkoillaa", sum := "d929a0b07f07b0810114f280f1d4f6b6de4960f74b0844b53db101eb5cabc3d8", func := "kith/kithlaw06.EventOdd", spec := "eventOdd", unfollowed := true, recurses := true, apart := false, narrowed := true }
def EventOddUptoSaid : Prop := eventOddUptoRow.holds Try.pinned (OpenSpec.upto eventOddSpec)

/-- 'kithlaw06.EventBelow', WHERE WHAT IT READS IS OF BULK AT MOST 1048576: true; the input reads as it did. -/
def eventBelowUptoRow : OpenClaim := { program := "ytgdbbaggkoillaa", sum := "d929a0b07f07b0810114f280f1d4f6b6de4960f74b0844b53db101eb5cabc3d8", func := "kith/kithlaw06.EventBelow", spec := "eventBelow", unfollowed := true, recurses := true, apart := false, narrowed := true }
def EventBelowUptoSaid : Prop := eventBelowUptoRow.holds Try.pinned (OpenSpec.upto eventBelowSpec)

/-- 'kithlaw06.EventBack', WHERE WHAT IT READS IS OF BULK AT MOST 1048576: true; the input reads as it did. -/
def eventBackUptoRow : OpenClaim := { program := "ytgdbbaggkoillaa", sum := "d929a0b07f07b0810114f280f1d4f6b6de4960f74b0844b53db101eb5cabc3d8", func := "kith/kithlaw06.EventBack", spec := "eventBack", unfollowed := true, recurses := true, apart := false, narrowed := true }
def EventBackUptoSaid : Prop := eventBackUptoRow.holds Try.pinned (OpenSpec.upto eventBackSpec)

/-- 'kithlaw06.EventCuts', WHERE WHAT IT READS IS OF BULK AT MOST 1048576: true; the input reads as it did. -/
def eventCutsUptoRow : OpenClaim := { program := "ytgdbbaggkoillaa", sum := "d929a0b07f07b0810114f280f1d4f6b6de4960f74b0844b53db101eb5cabc3d8", func := "kith/kithlaw06.EventCuts", spec := "eventCuts", unfollowed := true, recurses := true, apart := false, narrowed := true }
def EventCutsUptoSaid : Prop := eventCutsUptoRow.holds Try.pinned (OpenSpec.upto eventCutsSpec)

/-- 'kithlaw18.RecordFields', WHERE WHAT IT READS IS OF BULK AT MOST 1048576: true; the input reads as it did. -/
def recordFieldsUptoRow : OpenClaim := { program := "ytgdbbaggkoillaa", sum := "d929a0b07f07b0810114f280f1d4f6b6de4960f74b0844b53db101eb5cabc3d8", func := "kith/kithlaw18.RecordFields", spec := "recordFields", unfollowed := true, recurses := true, apart := false, narrowed := true }
def RecordFieldsUptoSaid : Prop := recordFieldsUptoRow.holds Try.pinned (OpenSpec.upto recordFieldsSpec)

/-- 'kithlaw07.FrameAll', WHERE WHAT IT READS IS OF BULK AT MOST 1048576: true; the input reads as it did. -/
def frameAllUptoRow : OpenClaim := { program := "ytgdbbaggkoillaa", sum := "d929a0b07f07b0810114f280f1d4f6b6de4960f74b0844b53db101eb5cabc3d8", func := "kith/kithlaw07.FrameAll", spec := "frameAll", unfollowed := true, recurses := true, apart := false, narrowed := true }
def FrameAllUptoSaid : Prop := frameAllUptoRow.holds Try.pinned (OpenSpec.upto frameAllSpec)

/-- 'kithlaw07.FrameBack', WHERE WHAT IT READS IS OF BULK AT MOST 1048576: true; the input reads as it did. -/
def frameBackUptoRow : OpenClaim := { program := "ytgdbbaggkoillaa", sum := "d929a0b07f07b0810114f280f1d4f6b6de4960f74b0844b53db101eb5cabc3d8", func := "kith/kithlaw07.FrameBack", spec := "frameBack", unfollowed := true, recurses := true, apart := false, narrowed := true }
def FrameBackUptoSaid : Prop := frameBackUptoRow.holds Try.pinned (OpenSpec.upto frameBackSpec)

/-- 'kithlaw07.FrameBursts', WHERE WHAT IT READS IS OF BULK AT MOST 1048576: true; the input reads as it did. -/
def frameBurstsUptoRow : OpenClaim := { program := "ytgdbbaggkoillaa", sum := "d929a0b07f07b0810114f280f1d4f6b6de4960f74b0844b53db101eb5cabc3d8", func := "kith/kithlaw07.FrameBursts", spec := "frameBursts", unfollowed := true, recurses := true, apart := false, narrowed := true }
def FrameBurstsUptoSaid : Prop := frameBurstsUptoRow.holds Try.pinned (OpenSpec.upto frameBurstsSpec)

/-- 'kithlaw07.FrameFields', WHERE WHAT IT READS IS OF BULK AT MOST 1048576: true; the input reads as it did. -/
def frameFieldsUptoRow : OpenClaim := { program := "ytgdbbaggkoillaa", sum := "d929a0b07f07b0810114f280f1d4f6b6de4960f74b0844b53db101eb5cabc3d8", func := "kith/kithlaw07.FrameFields", spec := "frameFields", unfollowed := true, recurses := true, apart := false, narrowed := true }
def FrameFieldsUptoSaid : Prop := frameFieldsUptoRow.holds Try.pinned (OpenSpec.upto frameFieldsSpec)

/-- 'kithlaw07.FrameApart', WHERE WHAT IT READS IS OF BULK AT MOST 1048576: true; the input reads as it did. -/
def frameApartUptoRow : OpenClaim := { program := "ytgdbbaggkoillaa", sum := "d929a0b07f07b0810114f280f1d4f6b6de4960f74b0844b53db101eb5cabc3d8", func := "kith/kithlaw07.FrameApart", spec := "frameApart", unfollowed := true, recurses := true, apart := false, narrowed := true }
def FrameApartUptoSaid : Prop := frameApartUptoRow.holds Try.pinned (OpenSpec.upto frameApartSpec)

/-- 'kithlaw07.FrameCuts', WHERE WHAT IT READS IS OF BULK AT MOST 1048576: true; the input reads as it did. -/
def frameCutsUptoRow : OpenClaim := { program := "ytgdbbaggkoillaa", sum := "d929a0b07f07b0810114f280f1d4f6b6de4960f74b0844b53db101eb5cabc3d8", func := "kith/kithlaw07.FrameCuts", spec := "frameCuts", unfollowed := true, recurses := true, apart := false, narrowed := true }
def FrameCutsUptoSaid : Prop := frameCutsUptoRow.holds Try.pinned (OpenSpec.upto frameCutsSpec)

/-- 'kithlaw18.RecordCuts', WHERE WHAT IT READS IS OF BULK AT MOST 1048576: true; the input reads as it did. -/
def recordCutsUptoRow : OpenClaim := { program := "ytgdbbaggkoillaa", sum := "d929a0b07f07b0810114f280f1d4f6b6de4960f74b0844b53db101eb5cabc3d8", func := "kith/kithlaw18.RecordCuts", spec := "recordCuts", unfollowed := true, recurses := true, apart := false, narrowed := true }
def RecordCutsUptoSaid : Prop := recordCutsUptoRow.holds Try.pinned (OpenSpec.upto recordCutsSpec)

/-- 'kithlaw18.RecordBursts', WHERE WHAT IT READS IS OF BULK AT MOST 1048576: true; the input reads as it did. -/
def recordBurstsUptoRow : OpenClaim := { program := "ytgdbbaggkoillaa", sum := "d929a0b07f07b0810114f280f1d4f6b6de4960f74b0844b53db101eb5cabc3d8", func := "kith/kithlaw18.RecordBursts", spec := "recordBursts", unfollowed := true, recurses := true, apart := false, narrowed := true }
def RecordBurstsUptoSaid : Prop := recordBurstsUptoRow.holds Try.pinned (OpenSpec.upto recordBurstsSpec)

/-- 'kithlaw18.RecordJoins', WHERE WHAT IT READS IS OF BULK AT MOST 1048576: true; the input reads as it did. -/
def recordJoinsUptoRow : OpenClaim := { program := "ytgdbbaggkoillaa", sum := "d929a0b07f07b0810114f280f1d4f6b6de4960f74b0844b53db101eb5cabc3d8", func := "kith/kithlaw18.RecordJoins", spec := "recordJoins", unfollowed := true, recurses := true, apart := false, narrowed := true }
def RecordJoinsUptoSaid : Prop := recordJoinsUptoRow.holds Try.pinned (OpenSpec.upto recordJoinsSpec)

end Rows
end Go.Proofs.Ytgdbbaggkoillaa
