/-
  No cell of these rows narrows 'for every input' (looked for: loops, veiled, ifaces, maps, wideKeys, modest, calm, conditions, laid).
  DERIVED. THE GIVEN ROWS OF THIS SEAT. 7 by the template 'for every input the law returns true; each argument reads behind the call as it read before'; 0 by the template 'total and deterministic' (their statements: YtkclojjeepomfaaTotals.lean).
  GIVEN WITH THE SEED: the statements are not yours to turn. If you find one false, say at which input.
  Laid BY PROGRAM, IN A SANDBOX (cutbox-rows.mjs): the forced cells as the released guide's own fill.sh prints them over the translation 611fb0b4adcf5687… (all of the seat's roots in one cut). By AI agents, Wed Nov 11 2026. No macro, syntax, notation, axiom, sorry.
-/
import Derived.Test.YtkclojjeepomfaaChecked
import GoSem.Claim
import GoSem.ClaimJoined
import GoSem.ClaimMapViews
import Derived.JoinedTies
import Derived.KernelRfl
namespace Go.Proofs.Ytkclojjeepomfaa
/- THE CELL 'sum', in the pinned program and in every row, IS THE sha256 OF THE DUMP (.gsa) THAT YtkclojjeepomfaaProg.lean LOADS. Nothing in Lean hashes anything: it is a label: what it is worth is what the hold of that sum in a sandbox is worth. -/
noncomputable def Try.pinned : Pinned := { name := "ytkclojjeepomfaa", sum := "611fb0b4adcf5687f63f2f6f57a7aa5d6b5f8f6ffa85d8fabcf9471b5abe2973", checked := Try.checked }
namespace Rows
def none {H : Type} : Left H := { results := [], args := [] }

/-- 'horologelaw8.MvccFull': WHATEVER THE INPUT: true; the input reads as it did. -/
def mvccFullSpec : ChangeSpec := { name := "mvccFull", fn := fun _ => fun
  | [d1, d2] => { results := [.lit (.bool true)], args := [d1, d2] }
  | _ => none }
def mvccFullRow : OpenClaim := { program := "ytkclojjeepomfaa", sum := "611fb0b4adcf5687f63f2f6f57a7aa5d6b5f8f6ffa85d8fabcf9471b5abe2973", func := "horologe/horologelaw8.MvccFull", spec := "mvccFull", inPlace := ["slices.overlaps[*horologe/index.item]", "slices.overlaps[*horologe/index.node]"], unfollowed := true, recurses := true, apart := false }
def MvccFullSaid : Prop := mvccFullRow.holds Try.pinned (OpenSpec.ofChange mvccFullSpec)

/-- ITS FALSE NEIGHBOUR: 'it returns false'. Refute it at one input. -/
def mvccFullWrong : ChangeSpec := { name := "mvccFull", fn := fun _ => fun
  | [d1, d2] => { results := [.lit (.bool false)], args := [d1, d2] }
  | _ => none }
def MvccFullWrongFalsely : Prop := mvccFullRow.holds Try.pinned (OpenSpec.ofChange mvccFullWrong)

/-- 'horologelaw8.MvccVersions': WHATEVER THE INPUT: true; the input reads as it did. -/
def mvccVersionsSpec : ChangeSpec := { name := "mvccVersions", fn := fun _ => fun
  | [d] => { results := [.lit (.bool true)], args := [d] }
  | _ => none }
def mvccVersionsRow : OpenClaim := { program := "ytkclojjeepomfaa", sum := "611fb0b4adcf5687f63f2f6f57a7aa5d6b5f8f6ffa85d8fabcf9471b5abe2973", func := "horologe/horologelaw8.MvccVersions", spec := "mvccVersions", inPlace := ["slices.overlaps[*horologe/index.item]", "slices.overlaps[*horologe/index.node]"], unfollowed := true, recurses := true, apart := false }
def MvccVersionsSaid : Prop := mvccVersionsRow.holds Try.pinned (OpenSpec.ofChange mvccVersionsSpec)

/-- ITS FALSE NEIGHBOUR: 'it returns false'. Refute it at one input. -/
def mvccVersionsWrong : ChangeSpec := { name := "mvccVersions", fn := fun _ => fun
  | [d] => { results := [.lit (.bool false)], args := [d] }
  | _ => none }
def MvccVersionsWrongFalsely : Prop := mvccVersionsRow.holds Try.pinned (OpenSpec.ofChange mvccVersionsWrong)

/-- 'horologelaw8.MvccRanges': WHATEVER THE INPUT: true; the input reads as it did. -/
def mvccRangesSpec : ChangeSpec := { name := "mvccRanges", fn := fun _ => fun
  | [d1, d2, d3, d4] => { results := [.lit (.bool true)], args := [d1, d2, d3, d4] }
  | _ => none }
def mvccRangesRow : OpenClaim := { program := "ytkclojjeepomfaa", sum := "611fb0b4adcf5687f63f2f6f57a7aa5d6b5f8f6ffa85d8fabcf9471b5abe2973", func := "horologe/horologelaw8.MvccRanges", spec := "mvccRanges", inPlace := ["slices.overlaps[*horologe/index.item]", "slices.overlaps[*horologe/index.node]"], unfollowed := true, recurses := true, apart := false }
def MvccRangesSaid : Prop := mvccRangesRow.holds Try.pinned (OpenSpec.ofChange mvccRangesSpec)

/-- ITS FALSE NEIGHBOUR: 'it returns false'. Refute it at one input. -/
def mvccRangesWrong : ChangeSpec := { name := "mvccRanges", fn := fun _ => fun
  | [d1, d2, d3, d4] => { results := [.lit (.bool false)], args := [d1, d2, d3, d4] }
  | _ => none }
def MvccRangesWrongFalsely : Prop := mvccRangesRow.holds Try.pinned (OpenSpec.ofChange mvccRangesWrong)

/-- 'horologelaw8.MvccEvents': WHATEVER THE INPUT: true; the input reads as it did. -/
def mvccEventsSpec : ChangeSpec := { name := "mvccEvents", fn := fun _ => fun
  | [d1, d2] => { results := [.lit (.bool true)], args := [d1, d2] }
  | _ => none }
def mvccEventsRow : OpenClaim := { program := "ytkclojjeepomfaa", sum := "611fb0b4adcf5687f63f2f6f57a7aa5d6b5f8f6ffa85d8fabcf9471b5abe2973", func := "horologe/horologelaw8.MvccEvents", spec := "mvccEvents", inPlace := ["slices.overlaps[*horologe/index.item]", "slices.overlaps[*horologe/index.node]"], unfollowed := true, recurses := true, apart := false }
def MvccEventsSaid : Prop := mvccEventsRow.holds Try.pinned (OpenSpec.ofChange mvccEventsSpec)

/-- ITS FALSE NEIGHBOUR: 'it returns false'. Refute it at one input. -/
def mvccEventsWrong : ChangeSpec := { name := "mvccEvents", fn := fun _ => fun
  | [d1, d2] => { results := [.lit (.bool false)], args := [d1, d2] }
  | _ => none }
def MvccEventsWrongFalsely : Prop := mvccEventsRow.holds Try.pinned (OpenSpec.ofChange mvccEventsWrong)

/-- 'horologelaw8.MvccPast': WHATEVER THE INPUT: true; the input reads as it did. -/
def mvccPastSpec : ChangeSpec := { name := "mvccPast", fn := fun _ => fun
  | [d1, d2] => { results := [.lit (.bool true)], args := [d1, d2] }
  | _ => none }
def mvccPastRow : OpenClaim := { program := "ytkclojjeepomfaa", sum := "611fb0b4adcf5687f63f2f6f57a7aa5d6b5f8f6ffa85d8fabcf9471b5abe2973", func := "horologe/horologelaw8.MvccPast", spec := "mvccPast", inPlace := ["slices.overlaps[*horologe/index.item]", "slices.overlaps[*horologe/index.node]"], unfollowed := true, recurses := true, apart := false }
def MvccPastSaid : Prop := mvccPastRow.holds Try.pinned (OpenSpec.ofChange mvccPastSpec)

/-- ITS FALSE NEIGHBOUR: 'it returns false'. Refute it at one input. -/
def mvccPastWrong : ChangeSpec := { name := "mvccPast", fn := fun _ => fun
  | [d1, d2] => { results := [.lit (.bool false)], args := [d1, d2] }
  | _ => none }
def MvccPastWrongFalsely : Prop := mvccPastRow.holds Try.pinned (OpenSpec.ofChange mvccPastWrong)

/-- 'horologelaw8.MvccErrors': WHATEVER THE INPUT: true; the input reads as it did. -/
def mvccErrorsSpec : ChangeSpec := { name := "mvccErrors", fn := fun _ => fun
  | [d1, d2, d3] => { results := [.lit (.bool true)], args := [d1, d2, d3] }
  | _ => none }
def mvccErrorsRow : OpenClaim := { program := "ytkclojjeepomfaa", sum := "611fb0b4adcf5687f63f2f6f57a7aa5d6b5f8f6ffa85d8fabcf9471b5abe2973", func := "horologe/horologelaw8.MvccErrors", spec := "mvccErrors", inPlace := ["slices.overlaps[*horologe/index.item]", "slices.overlaps[*horologe/index.node]"], unfollowed := true, recurses := true, apart := false }
def MvccErrorsSaid : Prop := mvccErrorsRow.holds Try.pinned (OpenSpec.ofChange mvccErrorsSpec)

/-- ITS FALSE NEIGHBOUR: 'it returns false'. Refute it at one input. -/
def mvccErrorsWrong : ChangeSpec := { name := "mvccErrors", fn := fun _ => fun
  | [d1, d2, d3] => { results := [.lit (.bool false)], args := [d1, d2, d3] }
  | _ => none }
def MvccErrorsWrongFalsely : Prop := mvccErrorsRow.holds Try.pinned (OpenSpec.ofChange mvccErrorsWrong)

/-- 'horologelaw8.MvccSaves': WHATEVER THE INPUT: true; the input reads as it did. -/
def mvccSavesSpec : ChangeSpec := { name := "mvccSaves", fn := fun _ => fun
  | [d1, d2, d3] => { results := [.lit (.bool true)], args := [d1, d2, d3] }
  | _ => none }
def mvccSavesRow : OpenClaim := { program := "ytkclojjeepomfaa", sum := "611fb0b4adcf5687f63f2f6f57a7aa5d6b5f8f6ffa85d8fabcf9471b5abe2973", func := "horologe/horologelaw8.MvccSaves", spec := "mvccSaves", inPlace := ["slices.overlaps[*horologe/index.item]", "slices.overlaps[*horologe/index.node]"], unfollowed := true, recurses := true, apart := false }
def MvccSavesSaid : Prop := mvccSavesRow.holds Try.pinned (OpenSpec.ofChange mvccSavesSpec)

/-- ITS FALSE NEIGHBOUR: 'it returns false'. Refute it at one input. -/
def mvccSavesWrong : ChangeSpec := { name := "mvccSaves", fn := fun _ => fun
  | [d1, d2, d3] => { results := [.lit (.bool false)], args := [d1, d2, d3] }
  | _ => none }
def MvccSavesWrongFalsely : Prop := mvccSavesRow.holds Try.pinned (OpenSpec.ofChange mvccSavesWrong)

/- THE SECOND FORM. 'bulk': how many values and letters a reading holds, each counted each time it is reached (what is shared counts as often as it is met; a slice's spare places count too). A statement '..UptoSaid' is the law's where the arguments, and the package variables that the reading takes, are together of bulk at most 1048576: NARROWER than '..Said'. Prove '..Said' where nothing that the law and all that it calls make is longer than what came in: it says more and counts as full. Else prove '..UptoSaid'. A law counts once. -/
mutual
def uptoBulk {H : Type} : DataW H → Nat
  | .lit (.string bytes) => bytes.length + 1
  | .lit _ => 1
  | .nil => 1
  | .ptr d => uptoBulk d + 1
  | .slice elems spare => uptoBulkAll elems + uptoBulkAll spare + 1
  | .agg parts => uptoBulkAll parts + 1
  | .iface _ d => uptoBulk d + 1
  | .map entries => uptoBulkEntries entries + 1
  | .held _ => 1
def uptoBulkAll {H : Type} : List (DataW H) → Nat
  | [] => 0
  | d :: r => uptoBulk d + uptoBulkAll r
def uptoBulkEntries {H : Type} : List (Lit × DataW H) → Nat
  | [] => 0
  | x :: r => uptoBulkEntry x + uptoBulkEntries r
def uptoBulkEntry {H : Type} : Lit × DataW H → Nat
  | (.string bytes, d) => bytes.length + uptoBulk d + 1
  | (_, d) => uptoBulk d + 1
 end
def uptoSmall : (H : Type) → List (DataW H) → Bool := fun _ ds => decide (uptoBulkAll ds ≤ 1048576)
def OpenSpec.upto (s : _root_.Go.ChangeSpec) : _root_.Go.OpenSpec := { _root_.Go.OpenSpec.ofChange s with cond := some uptoSmall }

/-- 'horologelaw8.MvccFull', WHERE WHAT IT READS IS OF BULK AT MOST 1048576: true; the input reads as it did. -/
def mvccFullUptoRow : OpenClaim := { program := "ytkclojjeepomfaa", sum := "611fb0b4adcf5687f63f2f6f57a7aa5d6b5f8f6ffa85d8fabcf9471b5abe2973", func := "horologe/horologelaw8.MvccFull", spec := "mvccFull", inPlace := ["slices.overlaps[*horologe/index.item]", "slices.overlaps[*horologe/index.node]"], unfollowed := true, recurses := true, apart := false, narrowed := true }
def MvccFullUptoSaid : Prop := mvccFullUptoRow.holds Try.pinned (OpenSpec.upto mvccFullSpec)

/-- 'horologelaw8.MvccVersions', WHERE WHAT IT READS IS OF BULK AT MOST 1048576: true; the input reads as it did. -/
def mvccVersionsUptoRow : OpenClaim := { program := "ytkclojjeepomfaa", sum := "611fb0b4adcf5687f63f2f6f57a7aa5d6b5f8f6ffa85d8fabcf9471b5abe2973", func := "horologe/horologelaw8.MvccVersions", spec := "mvccVersions", inPlace := ["slices.overlaps[*horologe/index.item]", "slices.overlaps[*horologe/index.node]"], unfollowed := true, recurses := true, apart := false, narrowed := true }
def MvccVersionsUptoSaid : Prop := mvccVersionsUptoRow.holds Try.pinned (OpenSpec.upto mvccVersionsSpec)

/-- 'horologelaw8.MvccRanges', WHERE WHAT IT READS IS OF BULK AT MOST 1048576: true; the input reads as it did. -/
def mvccRangesUptoRow : OpenClaim := { program := "ytkclojjeepomfaa", sum := "611fb0b4adcf5687f63f2f6f57a7aa5d6b5f8f6ffa85d8fabcf9471b5abe2973", func := "horologe/horologelaw8.MvccRanges", spec := "mvccRanges", inPlace := ["slices.overlaps[*horologe/index.item]", "slices.overlaps[*horologe/index.node]"], unfollowed := true, recurses := true, apart := false, narrowed := true }
def MvccRangesUptoSaid : Prop := mvccRangesUptoRow.holds Try.pinned (OpenSpec.upto mvccRangesSpec)

/-- 'horologelaw8.MvccEvents', WHERE WHAT IT READS IS OF BULK AT MOST 1048576: true; the input reads as it did. -/
def mvccEventsUptoRow : OpenClaim := { program := "ytkclojjeepomfaa", sum := "611fb0b4adcf5687f63f2f6f57a7aa5d6b5f8f6ffa85d8fabcf9471b5abe2973", func := "horologe/horologelaw8.MvccEvents", spec := "mvccEvents", inPlace := ["slices.overlaps[*horologe/index.item]", "slices.overlaps[*horologe/index.node]"], unfollowed := true, recurses := true, apart := false, narrowed := true }
def MvccEventsUptoSaid : Prop := mvccEventsUptoRow.holds Try.pinned (OpenSpec.upto mvccEventsSpec)

/-- 'horologelaw8.MvccPast', WHERE WHAT IT READS IS OF BULK AT MOST 1048576: true; the input reads as it did. -/
def mvccPastUptoRow : OpenClaim := { program := "ytkclojjeepomfaa", sum := "611fb0b4adcf5687f63f2f6f57a7aa5d6b5f8f6ffa85d8fabcf9471b5abe2973", func := "horologe/horologelaw8.MvccPast", spec := "mvccPast", inPlace := ["slices.overlaps[*horologe/index.item]", "slices.overlaps[*horologe/index.node]"], unfollowed := true, recurses := true, apart := false, narrowed := true }
def MvccPastUptoSaid : Prop := mvccPastUptoRow.holds Try.pinned (OpenSpec.upto mvccPastSpec)

/-- 'horologelaw8.MvccErrors', WHERE WHAT IT READS IS OF BULK AT MOST 1048576: true; the input reads as it did. -/
def mvccErrorsUptoRow : OpenClaim := { program := "ytkclojjeepomfaa", sum := "611fb0b4adcf5687f63f2f6f57a7aa5d6b5f8f6ffa85d8fabcf9471b5abe2973", func := "horologe/horologelaw8.MvccErrors", spec := "mvccErrors", inPlace := ["slices.overlaps[*horologe/index.item]", "slices.overlaps[*horologe/index.node]"], unfollowed := true, recurses := true, apart := false, narrowed := true }
def MvccErrorsUptoSaid : Prop := mvccErrorsUptoRow.holds Try.pinned (OpenSpec.upto mvccErrorsSpec)

/-- 'horologelaw8.MvccSaves', WHERE WHAT IT READS IS OF BULK AT MOST 1048576: true; the input reads as it did. -/
def mvccSavesUptoRow : OpenClaim := { program := "ytkclojjeepomfaa", sum := "611fb0b4adcf5687f63f2f6f57a7aa5d6b5f8f6ffa85d8fabcf9471b5abe2973", func := "horologe/horologelaw8.MvccSaves", spec := "mvccSaves", inPlace := ["slices.overlaps[*horologe/index.item]", "slices.overlaps[*horologe/index.node]"], unfollowed := true, recurses := true, apart := false, narrowed := true }
def MvccSavesUptoSaid : Prop := mvccSavesUptoRow.holds Try.pinned (OpenSpec.upto mvccSavesSpec)

end Rows
end Go.Proofs.Ytkclojjeepomfaa
