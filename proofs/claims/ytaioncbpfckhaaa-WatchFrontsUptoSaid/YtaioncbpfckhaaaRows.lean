/-
  No cell of these rows narrows 'for every input' (looked for: loops, veiled, ifaces, maps, wideKeys, modest, calm, conditions, laid).
  DERIVED. THE GIVEN ROWS OF THIS SEAT. 4 by the template 'for every input the law returns true; each argument reads behind the call as it read before'; 0 by the template 'total and deterministic' (their statements: YtaioncbpfckhaaaTotals.lean).
  GIVEN WITH THE SEED: the statements are not yours to turn. If you find one false, say at which input.
  Laid BY PROGRAM, IN A SANDBOX (cutbox-rows.mjs): the forced cells as the released guide's own fill.sh prints them over the translation b21ad8bfbf147a6d… (all of the seat's roots in one cut). By AI agents, Wed Nov 11 2026. No macro, syntax, notation, axiom, sorry.
-/
import Derived.Test.YtaioncbpfckhaaaChecked
import GoSem.Claim
import GoSem.ClaimJoined
import GoSem.ClaimMapViews
import Derived.JoinedTies
import Derived.KernelRfl
namespace Go.Proofs.Ytaioncbpfckhaaa
/- THE CELL 'sum', in the pinned program and in every row, IS THE sha256 OF THE DUMP (.gsa) THAT YtaioncbpfckhaaaProg.lean LOADS. Nothing in Lean hashes anything: it is a label: what it is worth is what the hold of that sum in a sandbox is worth. -/
noncomputable def Try.pinned : Pinned := { name := "ytaioncbpfckhaaa", sum := "b21ad8bfbf147a6d346e32e0efccc76c5ac8008684aa578a68c3e4c82bd8a320", checked := Try.checked }
namespace Rows
def none {H : Type} : Left H := { results := [], args := [] }

/-- 'horologelaw13.WatchApart': WHATEVER THE INPUT: true; the input reads as it did. -/
def watchApartSpec : ChangeSpec := { name := "watchApart", fn := fun _ => fun
  | [d1, d2] => { results := [.lit (.bool true)], args := [d1, d2] }
  | _ => none }
def watchApartRow : OpenClaim := { program := "ytaioncbpfckhaaa", sum := "b21ad8bfbf147a6d346e32e0efccc76c5ac8008684aa578a68c3e4c82bd8a320", func := "horologe/horologelaw13.WatchApart", spec := "watchApart", inPlace := ["slices.overlaps[*horologe/index.item]", "slices.overlaps[*horologe/index.node]"], unfollowed := true, recurses := true, apart := false }
def WatchApartSaid : Prop := watchApartRow.holds Try.pinned (OpenSpec.ofChange watchApartSpec)

/-- ITS FALSE NEIGHBOUR: 'it returns false'. Refute it at one input. -/
def watchApartWrong : ChangeSpec := { name := "watchApart", fn := fun _ => fun
  | [d1, d2] => { results := [.lit (.bool false)], args := [d1, d2] }
  | _ => none }
def WatchApartWrongFalsely : Prop := watchApartRow.holds Try.pinned (OpenSpec.ofChange watchApartWrong)

/-- 'horologelaw13.WatchOver': WHATEVER THE INPUT: true; the input reads as it did. -/
def watchOverSpec : ChangeSpec := { name := "watchOver", fn := fun _ => fun
  | [d1, d2] => { results := [.lit (.bool true)], args := [d1, d2] }
  | _ => none }
def watchOverRow : OpenClaim := { program := "ytaioncbpfckhaaa", sum := "b21ad8bfbf147a6d346e32e0efccc76c5ac8008684aa578a68c3e4c82bd8a320", func := "horologe/horologelaw13.WatchOver", spec := "watchOver", inPlace := ["slices.overlaps[*horologe/index.item]", "slices.overlaps[*horologe/index.node]"], unfollowed := true, recurses := true, apart := false }
def WatchOverSaid : Prop := watchOverRow.holds Try.pinned (OpenSpec.ofChange watchOverSpec)

/-- ITS FALSE NEIGHBOUR: 'it returns false'. Refute it at one input. -/
def watchOverWrong : ChangeSpec := { name := "watchOver", fn := fun _ => fun
  | [d1, d2] => { results := [.lit (.bool false)], args := [d1, d2] }
  | _ => none }
def WatchOverWrongFalsely : Prop := watchOverRow.holds Try.pinned (OpenSpec.ofChange watchOverWrong)

/-- 'horologelaw13.WatchBehind': WHATEVER THE INPUT: true; the input reads as it did. -/
def watchBehindSpec : ChangeSpec := { name := "watchBehind", fn := fun _ => fun
  | [d1, d2, d3, d4] => { results := [.lit (.bool true)], args := [d1, d2, d3, d4] }
  | _ => none }
def watchBehindRow : OpenClaim := { program := "ytaioncbpfckhaaa", sum := "b21ad8bfbf147a6d346e32e0efccc76c5ac8008684aa578a68c3e4c82bd8a320", func := "horologe/horologelaw13.WatchBehind", spec := "watchBehind", inPlace := ["slices.overlaps[*horologe/index.item]", "slices.overlaps[*horologe/index.node]"], unfollowed := true, recurses := true, apart := false }
def WatchBehindSaid : Prop := watchBehindRow.holds Try.pinned (OpenSpec.ofChange watchBehindSpec)

/-- ITS FALSE NEIGHBOUR: 'it returns false'. Refute it at one input. -/
def watchBehindWrong : ChangeSpec := { name := "watchBehind", fn := fun _ => fun
  | [d1, d2, d3, d4] => { results := [.lit (.bool false)], args := [d1, d2, d3, d4] }
  | _ => none }
def WatchBehindWrongFalsely : Prop := watchBehindRow.holds Try.pinned (OpenSpec.ofChange watchBehindWrong)

/-- 'horologelaw13.WatchFronts': WHATEVER THE INPUT: true; the input reads as it did. -/
def watchFrontsSpec : ChangeSpec := { name := "watchFronts", fn := fun _ => fun
  | [d1, d2, d3, d4] => { results := [.lit (.bool true)], args := [d1, d2, d3, d4] }
  | _ => none }
def watchFrontsRow : OpenClaim := { program := "ytaioncbpfckhaaa", sum := "b21ad8bfbf147a6d346e32e0efccc76c5ac8008684aa578a68c3e4c82bd8a320", func := "horologe/horologelaw13.WatchFronts", spec := "watchFronts", inPlace := ["slices.overlaps[*horologe/index.item]", "slices.overlaps[*horologe/index.node]"], unfollowed := true, recurses := true, apart := false }
def WatchFrontsSaid : Prop := watchFrontsRow.holds Try.pinned (OpenSpec.ofChange watchFrontsSpec)

/-- ITS FALSE NEIGHBOUR: 'it returns false'. Refute it at one input. -/
def watchFrontsWrong : ChangeSpec := { name := "watchFronts", fn := fun _ => fun
  | [d1, d2, d3, d4] => { results := [.lit (.bool false)], args := [d1, d2, d3, d4] }
  | _ => none }
def WatchFrontsWrongFalsely : Prop := watchFrontsRow.holds Try.pinned (OpenSpec.ofChange watchFrontsWrong)

/- THE SECOND FORM. 'bulk': how many values and letters a reading holds, each counted each time it is reached (what is shared counts as often as it is met; a slice's spare places count too). A statement '..UptoSaid' is the law's where the arguments, and the package variables that the reading takes, are together of bulk at most 1048576: NARROWER than '..Said'. Prove '..Said' where nothing that the law and all that it calls make is longer than what came in: it says more and counts as full. Else prove '..UptoSaid'. A law counts once. -/
mutual
def uptoBulk {H : Type} : DataW H → Nat
  | .lit (.string bytes) => bytes.length + 1
  | .lit _ => 1
  | .nil => 1
  | .ptr d => uptoBulk d + 1
  | .slice elems spare => uptoBulkAll elems + uptoBulkAll spare + 1
  | .agg parts => uptoBulkAll parts + 1
  | .iface _ d => uptoBulk d + 1
  | .map entries => uptoBulkEntries entries + 1
  | .held _ => 1
def uptoBulkAll {H : Type} : List (DataW H) → Nat
  | [] => 0
  | d :: r => uptoBulk d + uptoBulkAll r
def uptoBulkEntries {H : Type} : List (Lit × DataW H) → Nat
  | [] => 0
  | x :: r => uptoBulkEntry x + uptoBulkEntries r
def uptoBulkEntry {H : Type} : Lit × DataW H → Nat
  | (.string bytes, d) => bytes.length + uptoBulk d + 1
  | (_, d) => uptoBulk d + 1
 end
def uptoSmall : (H : Type) → List (DataW H) → Bool := fun _ ds => decide (uptoBulkAll ds ≤ 1048576)
def OpenSpec.upto (s : _root_.Go.ChangeSpec) : _root_.Go.OpenSpec := { _root_.Go.OpenSpec.ofChange s with cond := some uptoSmall }

/-- 'horologelaw13.WatchApart', WHERE WHAT IT READS IS OF BULK AT MOST 1048576: true; the input reads as it did. -/
def watchApartUptoRow : OpenClaim := { program := "ytaioncbpfckhaaa", sum := "b21ad8bfbf147a6d346e32e0efccc76c5ac8008684aa578a68c3e4c82bd8a320", func := "horologe/horologelaw13.WatchApart", spec := "watchApart", inPlace := ["slices.overlaps[*horologe/index.item]", "slices.overlaps[*horologe/index.node]"], unfollowed := true, recurses := true, apart := false, narrowed := true }
def WatchApartUptoSaid : Prop := watchApartUptoRow.holds Try.pinned (OpenSpec.upto watchApartSpec)

/-- 'horologelaw13.WatchOver', WHERE WHAT IT READS IS OF BULK AT MOST 1048576: true; the input reads as it did. -/
def watchOverUptoRow : OpenClaim := { program := "ytaioncbpfckhaaa", sum := "b21ad8bfbf147a6d346e32e0efccc76c5ac8008684aa578a68c3e4c82bd8a320", func := "horologe/horologelaw13.WatchOver", spec := "watchOver", inPlace := ["slices.overlaps[*horologe/index.item]", "slices.overlaps[*horologe/index.node]"], unfollowed := true, recurses := true, apart := false, narrowed := true }
def WatchOverUptoSaid : Prop := watchOverUptoRow.holds Try.pinned (OpenSpec.upto watchOverSpec)

/-- 'horologelaw13.WatchBehind', WHERE WHAT IT READS IS OF BULK AT MOST 1048576: true; the input reads as it did. -/
def watchBehindUptoRow : OpenClaim := { program := "ytaioncbpfckhaaa", sum := "b21ad8bfbf147a6d346e32e0efccc76c5ac8008684aa578a68c3e4c82bd8a320", func := "horologe/horologelaw13.WatchBehind", spec := "watchBehind", inPlace := ["slices.overlaps[*horologe/index.item]", "slices.overlaps[*horologe/index.node]"], unfollowed := true, recurses := true, apart := false, narrowed := true }
def WatchBehindUptoSaid : Prop := watchBehindUptoRow.holds Try.pinned (OpenSpec.upto watchBehindSpec)

/-- 'horologelaw13.WatchFronts', WHERE WHAT IT READS IS OF BULK AT MOST 1048576: true; the input reads as it did. -/
def watchFrontsUptoRow : OpenClaim := { program := "ytaioncbpfckhaaa", sum := "b21ad8bfbf147a6d346e32e0efccc76c5ac8008684aa578a68c3e4c82bd8a320", func := "horologe/horologelaw13.WatchFronts", spec := "watchFronts", inPlace := ["slices.overlaps[*horologe/index.item]", "slices.overlaps[*horologe/index.node]"], unfollowed := true, recurses := true, apart := false, narrowed := true }
def WatchFrontsUptoSaid : Prop := watchFrontsUptoRow.holds Try.pinned (OpenSpec.upto watchFrontsSpec)

end Rows
end Go.Proofs.Ytaioncbpfckhaaa
