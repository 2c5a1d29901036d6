/-
  No cell of these rows narrows 'for every input' (looked for: loops, veiled, ifaces, maps, wideKeys, modest, calm, conditions, laid).
  DERIVED. THE GIVEN ROWS OF THIS SEAT. 5 by the template 'for every input the law returns true; each argument reads behind the call as it read before'; 0 by the template 'total and deterministic' (their statements: YtnojalihnajkbaaTotals.lean).
  GIVEN WITH THE SEED: the statements are not yours to turn. If you find one false, say at which input.
  Laid BY PROGRAM, IN A SANDBOX (cutbox-rows.mjs): the forced cells as the released guide's own fill.sh prints them over the translation 174529a7510b3b33… (all of the seat's roots in one cut). By AI agents, Wed Nov 11 2026. No macro, syntax, notation, axiom, sorry.
-/
import Derived.Test.YtnojalihnajkbaaChecked
import GoSem.Claim
import GoSem.ClaimJoined
import GoSem.ClaimMapViews
import Derived.JoinedTies
import Derived.KernelRfl
namespace Go.Proofs.Ytnojalihnajkbaa
/- THE CELL 'sum', in the pinned program and in every row, IS THE sha256 OF THE DUMP (.gsa) THAT YtnojalihnajkbaaProg.lean LOADS. Nothing in Lean hashes anything: it is a label: what it is worth is what the hold of that sum in a sandbox is worth. -/
noncomputable def Try.pinned : Pinned := { name := "ytnojalihnajkbaa", sum := "174529a7510b3b33da36fb4f696a4357ce565a72ad7316d315932b49fc2650ac", checked := Try.checked }
namespace Rows
def none {H : Type} : Left H := { results := [], args := [] }

/-- 'horologelaw7.IndexLooks': WHATEVER THE INPUT: true; the input reads as it did. -/
def indexLooksSpec : ChangeSpec := { name := "indexLooks", fn := fun _ => fun
  | [d1, d2, d3] => { results := [.lit (.bool true)], args := [d1, d2, d3] }
  | _ => none }
def indexLooksRow : OpenClaim := { program := "ytnojalihnajkbaa", sum := "174529a7510b3b33da36fb4f696a4357ce565a72ad7316d315932b49fc2650ac", func := "horologe/horologelaw7.IndexLooks", spec := "indexLooks", inPlace := ["slices.overlaps[*horologe/index.item]", "slices.overlaps[*horologe/index.node]"], unfollowed := true, recurses := true, apart := false }
def IndexLooksSaid : Prop := indexLooksRow.holds Try.pinned (OpenSpec.ofChange indexLooksSpec)

/-- ITS FALSE NEIGHBOUR: 'it returns false'. Refute it at one input. -/
def indexLooksWrong : ChangeSpec := { name := "indexLooks", fn := fun _ => fun
  | [d1, d2, d3] => { results := [.lit (.bool false)], args := [d1, d2, d3] }
  | _ => none }
def IndexLooksWrongFalsely : Prop := indexLooksRow.holds Try.pinned (OpenSpec.ofChange indexLooksWrong)

/-- 'horologelaw7.IndexMarks': WHATEVER THE INPUT: true; the input reads as it did. -/
def indexMarksSpec : ChangeSpec := { name := "indexMarks", fn := fun _ => fun
  | [d1, d2] => { results := [.lit (.bool true)], args := [d1, d2] }
  | _ => none }
def indexMarksRow : OpenClaim := { program := "ytnojalihnajkbaa", sum := "174529a7510b3b33da36fb4f696a4357ce565a72ad7316d315932b49fc2650ac", func := "horologe/horologelaw7.IndexMarks", spec := "indexMarks", inPlace := ["slices.overlaps[*horologe/index.item]", "slices.overlaps[*horologe/index.node]"], unfollowed := true, recurses := true, apart := false }
def IndexMarksSaid : Prop := indexMarksRow.holds Try.pinned (OpenSpec.ofChange indexMarksSpec)

/-- ITS FALSE NEIGHBOUR: 'it returns false'. Refute it at one input. -/
def indexMarksWrong : ChangeSpec := { name := "indexMarks", fn := fun _ => fun
  | [d1, d2] => { results := [.lit (.bool false)], args := [d1, d2] }
  | _ => none }
def IndexMarksWrongFalsely : Prop := indexMarksRow.holds Try.pinned (OpenSpec.ofChange indexMarksWrong)

/-- 'horologelaw7.IndexPlays': WHATEVER THE INPUT: true; the input reads as it did. -/
def indexPlaysSpec : ChangeSpec := { name := "indexPlays", fn := fun _ => fun
  | [d] => { results := [.lit (.bool true)], args := [d] }
  | _ => none }
def indexPlaysRow : OpenClaim := { program := "ytnojalihnajkbaa", sum := "174529a7510b3b33da36fb4f696a4357ce565a72ad7316d315932b49fc2650ac", func := "horologe/horologelaw7.IndexPlays", spec := "indexPlays", inPlace := ["slices.overlaps[*horologe/index.item]", "slices.overlaps[*horologe/index.node]"], unfollowed := true, recurses := true, apart := false }
def IndexPlaysSaid : Prop := indexPlaysRow.holds Try.pinned (OpenSpec.ofChange indexPlaysSpec)

/-- ITS FALSE NEIGHBOUR: 'it returns false'. Refute it at one input. -/
def indexPlaysWrong : ChangeSpec := { name := "indexPlays", fn := fun _ => fun
  | [d] => { results := [.lit (.bool false)], args := [d] }
  | _ => none }
def IndexPlaysWrongFalsely : Prop := indexPlaysRow.holds Try.pinned (OpenSpec.ofChange indexPlaysWrong)

/-- 'horologelaw7.IndexOrder': WHATEVER THE INPUT: true; the input reads as it did. -/
def indexOrderSpec : ChangeSpec := { name := "indexOrder", fn := fun _ => fun
  | [d1, d2, d3] => { results := [.lit (.bool true)], args := [d1, d2, d3] }
  | _ => none }
def indexOrderRow : OpenClaim := { program := "ytnojalihnajkbaa", sum := "174529a7510b3b33da36fb4f696a4357ce565a72ad7316d315932b49fc2650ac", func := "horologe/horologelaw7.IndexOrder", spec := "indexOrder", inPlace := ["slices.overlaps[*horologe/index.item]", "slices.overlaps[*horologe/index.node]"], unfollowed := true, recurses := true, apart := false }
def IndexOrderSaid : Prop := indexOrderRow.holds Try.pinned (OpenSpec.ofChange indexOrderSpec)

/-- ITS FALSE NEIGHBOUR: 'it returns false'. Refute it at one input. -/
def indexOrderWrong : ChangeSpec := { name := "indexOrder", fn := fun _ => fun
  | [d1, d2, d3] => { results := [.lit (.bool false)], args := [d1, d2, d3] }
  | _ => none }
def IndexOrderWrongFalsely : Prop := indexOrderRow.holds Try.pinned (OpenSpec.ofChange indexOrderWrong)

/-- 'horologelaw7.IndexGrows': WHATEVER THE INPUT: true; the input reads as it did. -/
def indexGrowsSpec : ChangeSpec := { name := "indexGrows", fn := fun _ => fun
  | [d1, d2, d3] => { results := [.lit (.bool true)], args := [d1, d2, d3] }
  | _ => none }
def indexGrowsRow : OpenClaim := { program := "ytnojalihnajkbaa", sum := "174529a7510b3b33da36fb4f696a4357ce565a72ad7316d315932b49fc2650ac", func := "horologe/horologelaw7.IndexGrows", spec := "indexGrows", inPlace := ["slices.overlaps[*horologe/index.item]", "slices.overlaps[*horologe/index.node]"], unfollowed := true, recurses := true, apart := false }
def IndexGrowsSaid : Prop := indexGrowsRow.holds Try.pinned (OpenSpec.ofChange indexGrowsSpec)

/-- ITS FALSE NEIGHBOUR: 'it returns false'. Refute it at one input. -/
def indexGrowsWrong : ChangeSpec := { name := "indexGrows", fn := fun _ => fun
  | [d1, d2, d3] => { results := [.lit (.bool false)], args := [d1, d2, d3] }
  | _ => none }
def IndexGrowsWrongFalsely : Prop := indexGrowsRow.holds Try.pinned (OpenSpec.ofChange indexGrowsWrong)

/- THE SECOND FORM. 'bulk': how many values and letters a reading holds, each counted each time it is reached (what is shared counts as often as it is met; a slice's spare places count too). A statement '..UptoSaid' is the law's where the arguments, and the package variables that the reading takes, are together of bulk at most 1048576: NARROWER than '..Said'. Prove '..Said' where nothing that the law and all that it calls make is longer than what came in: it says more and counts as full. Else prove '..UptoSaid'. A law counts once. -/
mutual
def uptoBulk {H : Type} : DataW H → Nat
  | .lit (.string bytes) => bytes.length + 1
  | .lit _ => 1
  | .nil => 1
  | .ptr d => uptoBulk d + 1
  | .slice elems spare => uptoBulkAll elems + uptoBulkAll spare + 1
  | .agg parts => uptoBulkAll parts + 1
  | .iface _ d => uptoBulk d + 1
  | .map entries => uptoBulkEntries entries + 1
  | .held _ => 1
def uptoBulkAll {H : Type} : List (DataW H) → Nat
  | [] => 0
  | d :: r => uptoBulk d + uptoBulkAll r
def uptoBulkEntries {H : Type} : List (Lit × DataW H) → Nat
  | [] => 0
  | x :: r => uptoBulkEntry x + uptoBulkEntries r
def uptoBulkEntry {H : Type} : Lit × DataW H → Nat
  | (.string bytes, d) => bytes.length + uptoBulk d + 1
  | (_, d) => uptoBulk d + 1
 end
def uptoSmall : (H : Type) → List (DataW H) → Bool := fun _ ds => decide (uptoBulkAll ds ≤ 1048576)
def OpenSpec.upto (s : _root_.Go.ChangeSpec) : _root_.Go.OpenSpec := { _root_.Go.OpenSpec.ofChange s with cond := some uptoSmall }

/-- 'horologelaw7.IndexLooks', WHERE WHAT IT READS IS OF BULK AT MOST 1048576: true; the input reads as it did. -/
def indexLooksUptoRow : OpenClaim := { program := "ytnojalihnajkbaa", sum := "174529a7510b3b33da36fb4f696a4357ce565a72ad7316d315932b49fc2650ac", func := "horologe/horologelaw7.IndexLooks", spec := "indexLooks", inPlace := ["slices.overlaps[*horologe/index.item]", "slices.overlaps[*horologe/index.node]"], unfollowed := true, recurses := true, apart := false, narrowed := true }
def IndexLooksUptoSaid : Prop := indexLooksUptoRow.holds Try.pinned (OpenSpec.upto indexLooksSpec)

/-- 'horologelaw7.IndexMarks', WHERE WHAT IT READS IS OF BULK AT MOST 1048576: true; the input reads as it did. -/
def indexMarksUptoRow : OpenClaim := { program := "ytnojalihnajkbaa", sum := "174529a7510b3b33da36fb4f696a4357ce565a72ad7316d315932b49fc2650ac", func := "horologe/horologelaw7.IndexMarks", spec := "indexMarks", inPlace := ["slices.overlaps[*horologe/index.item]", "slices.overlaps[*horologe/index.node]"], unfollowed := true, recurses := true, apart := false, narrowed := true }
def IndexMarksUptoSaid : Prop := indexMarksUptoRow.holds Try.pinned (OpenSpec.upto indexMarksSpec)

/-- 'horologelaw7.IndexPlays', WHERE WHAT IT READS IS OF BULK AT MOST 1048576: true; the input reads as it did. -/
def indexPlaysUptoRow : OpenClaim := { program := "ytnojalihnajkbaa", sum := "174529a7510b3b33da36fb4f696a4357ce565a72ad7316d315932b49fc2650ac", func := "horologe/horologelaw7.IndexPlays", spec := "indexPlays", inPlace := ["slices.overlaps[*horologe/index.item]", "slices.overlaps[*horologe/index.node]"], unfollowed := true, recurses := true, apart := false, narrowed := true }
def IndexPlaysUptoSaid : Prop := indexPlaysUptoRow.holds Try.pinned (OpenSpec.upto indexPlaysSpec)

/-- 'horologelaw7.IndexOrder', WHERE WHAT IT READS IS OF BULK AT MOST 1048576: true; the input reads as it did. -/
def indexOrderUptoRow : OpenClaim := { program := "ytnojalihnajkbaa", sum := "174529a7510b3b33da36fb4f696a4357ce565a72ad7316d315932b49fc2650ac", func := "horologe/horologelaw7.IndexOrder", spec := "indexOrder", inPlace := ["slices.overlaps[*horologe/index.item]", "slices.overlaps[*horologe/index.node]"], unfollowed := true, recurses := true, apart := false, narrowed := true }
def IndexOrderUptoSaid : Prop := indexOrderUptoRow.holds Try.pinned (OpenSpec.upto indexOrderSpec)

/-- 'horologelaw7.IndexGrows', WHERE WHAT IT READS IS OF BULK AT MOST 1048576: true; the input reads as it did. -/
def indexGrowsUptoRow : OpenClaim := { program := "ytnojalihnajkbaa", sum := "174529a7510b3b33da36fb4f696a4357ce565a72ad7316d315932b49fc2650ac", func := "horologe/horologelaw7.IndexGrows", spec := "indexGrows", inPlace := ["slices.overlaps[*horologe/index.item]", "slices.overlaps[*horologe/index.node]"], unfollowed := true, recurses := true, apart := false, narrowed := true }
def IndexGrowsUptoSaid : Prop := indexGrowsUptoRow.holds Try.pinned (OpenSpec.upto indexGrowsSpec)

end Rows
end Go.Proofs.Ytnojalihnajkbaa
