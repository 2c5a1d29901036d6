/-
  No cell of these rows narrows 'for every input' (looked for: loops, veiled, ifaces, maps, wideKeys, modest, calm, conditions, laid).
  DERIVED. THE GIVEN ROWS OF THIS SEAT. 6 by the template 'for every input the law returns true; each argument reads behind the call as it read before'; 0 by the template 'total and deterministic' (their statements: YtedfmdifokbilaaTotals.lean).
  GIVEN WITH THE SEED: the statements are not yours to turn. If you find one false, say at which input.
  Laid BY PROGRAM, IN A SANDBOX (cutbox-rows.mjs): the forced cells as the released guide's own fill.sh prints them over the translation 6ed7c2b32127381e… (all of the seat's roots in one cut). By AI agents, Wed Nov 11 2026. No macro, syntax, notation, axiom, sorry.
-/
import Derived.Test.YtedfmdifokbilaaChecked
import GoSem.Claim
import GoSem.ClaimJoined
import GoSem.ClaimMapViews
import Derived.JoinedTies
import Derived.KernelRfl
namespace Go.Proofs.Ytedfmdifokbilaa
/- THE CELL 'sum', in the pinned program and in every row, IS THE sha256 OF THE DUMP (.gsa) THAT YtedfmdifokbilaaProg.lean LOADS. Nothing in Lean hashes anything: it is a label: what it is worth is what the hold of that sum in a sandbox is worth. -/
noncomputable def Try.pinned : Pinned := { name := "ytedfmdifokbilaa", sum := "6ed7c2b32127381ea0e18201df5d8135d37d0e17094c0bb3ba3d1bd76b4ea33a", checked := Try.checked }
namespace Rows
def none {H : Type} : Left H := { results := [], args := [] }

/-- 'horologelaw1.PenJoins': WHATEVER THE INPUT: true; the input reads as it did. -/
def penJoinsSpec : ChangeSpec := { name := "penJoins", fn := fun _ => fun
  | [d1, d2] => { results := [.lit (.bool true)], args := [d1, d2] }
  | _ => none }
def penJoinsRow : OpenClaim := { program := "ytedfmdifokbilaa", sum := "6ed7c2b32127381ea0e18201df5d8135d37d0e17094c0bb3ba3d1bd76b4ea33a", func := "horologe/horologelaw1.PenJoins", spec := "penJoins", apart := false }
def PenJoinsSaid : Prop := penJoinsRow.holds Try.pinned (OpenSpec.ofChange penJoinsSpec)

/-- ITS FALSE NEIGHBOUR: 'it returns false'. Refute it at one input. -/
def penJoinsWrong : ChangeSpec := { name := "penJoins", fn := fun _ => fun
  | [d1, d2] => { results := [.lit (.bool false)], args := [d1, d2] }
  | _ => none }
def PenJoinsWrongFalsely : Prop := penJoinsRow.holds Try.pinned (OpenSpec.ofChange penJoinsWrong)

/-- 'horologelaw1.PenReads': WHATEVER THE INPUT: true; the input reads as it did. -/
def penReadsSpec : ChangeSpec := { name := "penReads", fn := fun _ => fun
  | [d1, d2] => { results := [.lit (.bool true)], args := [d1, d2] }
  | _ => none }
def penReadsRow : OpenClaim := { program := "ytedfmdifokbilaa", sum := "6ed7c2b32127381ea0e18201df5d8135d37d0e17094c0bb3ba3d1bd76b4ea33a", func := "horologe/horologelaw1.PenReads", spec := "penReads", apart := false }
def PenReadsSaid : Prop := penReadsRow.holds Try.pinned (OpenSpec.ofChange penReadsSpec)

/-- ITS FALSE NEIGHBOUR: 'it returns false'. Refute it at one input. -/
def penReadsWrong : ChangeSpec := { name := "penReads", fn := fun _ => fun
  | [d1, d2] => { results := [.lit (.bool false)], args := [d1, d2] }
  | _ => none }
def PenReadsWrongFalsely : Prop := penReadsRow.holds Try.pinned (OpenSpec.ofChange penReadsWrong)

/-- 'horologelaw1.PenKept': WHATEVER THE INPUT: true; the input reads as it did. -/
def penKeptSpec : ChangeSpec := { name := "penKept", fn := fun _ => fun
  | [d1, d2] => { results := [.lit (.bool true)], args := [d1, d2] }
  | _ => none }
def penKeptRow : OpenClaim := { program := "ytedfmdifokbilaa", sum := "6ed7c2b32127381ea0e18201df5d8135d37d0e17094c0bb3ba3d1bd76b4ea33a", func := "horologe/horologelaw1.PenKept", spec := "penKept", apart := false }
def PenKeptSaid : Prop := penKeptRow.holds Try.pinned (OpenSpec.ofChange penKeptSpec)

/-- ITS FALSE NEIGHBOUR: 'it returns false'. Refute it at one input. -/
def penKeptWrong : ChangeSpec := { name := "penKept", fn := fun _ => fun
  | [d1, d2] => { results := [.lit (.bool false)], args := [d1, d2] }
  | _ => none }
def PenKeptWrongFalsely : Prop := penKeptRow.holds Try.pinned (OpenSpec.ofChange penKeptWrong)

/-- 'horologelaw1.PenWrites': WHATEVER THE INPUT: true; the input reads as it did. -/
def penWritesSpec : ChangeSpec := { name := "penWrites", fn := fun _ => fun
  | [d] => { results := [.lit (.bool true)], args := [d] }
  | _ => none }
def penWritesRow : OpenClaim := { program := "ytedfmdifokbilaa", sum := "6ed7c2b32127381ea0e18201df5d8135d37d0e17094c0bb3ba3d1bd76b4ea33a", func := "horologe/horologelaw1.PenWrites", spec := "penWrites", apart := false }
def PenWritesSaid : Prop := penWritesRow.holds Try.pinned (OpenSpec.ofChange penWritesSpec)

/-- ITS FALSE NEIGHBOUR: 'it returns false'. Refute it at one input. -/
def penWritesWrong : ChangeSpec := { name := "penWrites", fn := fun _ => fun
  | [d] => { results := [.lit (.bool false)], args := [d] }
  | _ => none }
def PenWritesWrongFalsely : Prop := penWritesRow.holds Try.pinned (OpenSpec.ofChange penWritesWrong)

/-- 'horologelaw1.PenFrames': WHATEVER THE INPUT: true; the input reads as it did. -/
def penFramesSpec : ChangeSpec := { name := "penFrames", fn := fun _ => fun
  | [d1, d2, d3] => { results := [.lit (.bool true)], args := [d1, d2, d3] }
  | _ => none }
def penFramesRow : OpenClaim := { program := "ytedfmdifokbilaa", sum := "6ed7c2b32127381ea0e18201df5d8135d37d0e17094c0bb3ba3d1bd76b4ea33a", func := "horologe/horologelaw1.PenFrames", spec := "penFrames", apart := false }
def PenFramesSaid : Prop := penFramesRow.holds Try.pinned (OpenSpec.ofChange penFramesSpec)

/-- ITS FALSE NEIGHBOUR: 'it returns false'. Refute it at one input. -/
def penFramesWrong : ChangeSpec := { name := "penFrames", fn := fun _ => fun
  | [d1, d2, d3] => { results := [.lit (.bool false)], args := [d1, d2, d3] }
  | _ => none }
def PenFramesWrongFalsely : Prop := penFramesRow.holds Try.pinned (OpenSpec.ofChange penFramesWrong)

/-- 'horologelaw1.PenTurns': WHATEVER THE INPUT: true; the input reads as it did. -/
def penTurnsSpec : ChangeSpec := { name := "penTurns", fn := fun _ => fun
  | [d1, d2, d3] => { results := [.lit (.bool true)], args := [d1, d2, d3] }
  | _ => none }
def penTurnsRow : OpenClaim := { program := "ytedfmdifokbilaa", sum := "6ed7c2b32127381ea0e18201df5d8135d37d0e17094c0bb3ba3d1bd76b4ea33a", func := "horologe/horologelaw1.PenTurns", spec := "penTurns", apart := false }
def PenTurnsSaid : Prop := penTurnsRow.holds Try.pinned (OpenSpec.ofChange penTurnsSpec)

/-- ITS FALSE NEIGHBOUR: 'it returns false'. Refute it at one input. -/
def penTurnsWrong : ChangeSpec := { name := "penTurns", fn := fun _ => fun
  | [d1, d2, d3] => { results := [.lit (.bool false)], args := [d1, d2, d3] }
  | _ => none }
def PenTurnsWrongFalsely : Prop := penTurnsRow.holds Try.pinned (OpenSpec.ofChange penTurnsWrong)

/- THE SECOND FORM. 'bulk': how many values and letters a reading holds, each counted each time it is reached (what is shared counts as often as it is met; a slice's spare places count too). A statement '..UptoSaid' is the law's where the arguments, and the package variables that the reading takes, are together of bulk at most 1048576: NARROWER than '..Said'. Prove '..Said' where nothing that the law and all that it calls make is longer than what came in: it says more and counts as full. Else prove '..UptoSaid'. A law counts once. -/
mutual
def uptoBulk {H : Type} : DataW H → Nat
  | .lit (.string bytes) => bytes.length + 1
  | .lit _ => 1
  | .nil => 1
  | .ptr d => uptoBulk d + 1
  | .slice elems spare => uptoBulkAll elems + uptoBulkAll spare + 1
  | .agg parts => uptoBulkAll parts + 1
  | .iface _ d => uptoBulk d + 1
  | .map entries => uptoBulkEntries entries + 1
  | .held _ => 1
def uptoBulkAll {H : Type} : List (DataW H) → Nat
  | [] => 0
  | d :: r => uptoBulk d + uptoBulkAll r
def uptoBulkEntries {H : Type} : List (Lit × DataW H) → Nat
  | [] => 0
  | x :: r => uptoBulkEntry x + uptoBulkEntries r
def uptoBulkEntry {H : Type} : Lit × DataW H → Nat
  | (.string bytes, d) => bytes.length + uptoBulk d + 1
  | (_, d) => uptoBulk d + 1
 end
def uptoSmall : (H : Type) → List (DataW H) → Bool := fun _ ds => decide (uptoBulkAll ds ≤ 1048576)
def OpenSpec.upto (s : _root_.Go.ChangeSpec) : _root_.Go.OpenSpec := { _root_.Go.OpenSpec.ofChange s with cond := some uptoSmall }

/-- 'horologelaw1.PenJoins', WHERE WHAT IT READS IS OF BULK AT MOST 1048576: true; the input reads as it did. -/
def penJoinsUptoRow : OpenClaim := { program := "ytedfmdifokbilaa", sum := "6ed7c2b32127381ea0e18201df5d8135d37d0e17094c0bb3ba3d1bd76b4ea33a", func := "horologe/horologelaw1.PenJoins", spec := "penJoins", apart := false, narrowed := true }
def PenJoinsUptoSaid : Prop := penJoinsUptoRow.holds Try.pinned (OpenSpec.upto penJoinsSpec)

/-- 'horologelaw1.PenReads', WHERE WHAT IT READS IS OF BULK AT MOST 1048576: true; the input reads as it did. -/
def penReadsUptoRow : OpenClaim := { program := "ytedfmdifokbilaa", sum := "6ed7c2b32127381ea0e18201df5d8135d37d0e17094c0bb3ba3d1bd76b4ea33a", func := "horologe/horologelaw1.PenReads", spec := "penReads", apart := false, narrowed := true }
def PenReadsUptoSaid : Prop := penReadsUptoRow.holds Try.pinned (OpenSpec.upto penReadsSpec)

/-- 'horologelaw1.PenKept', WHERE WHAT IT READS IS OF BULK AT MOST 1048576: true; the input reads as it did. -/
def penKeptUptoRow : OpenClaim := { program := "ytedfmdifokbilaa", sum := "6ed7c2b32127381ea0e18201df5d8135d37d0e17094c0bb3ba3d1bd76b4ea33a", func := "horologe/horologelaw1.PenKept", spec := "penKept", apart := false, narrowed := true }
def PenKeptUptoSaid : Prop := penKeptUptoRow.holds Try.pinned (OpenSpec.upto penKeptSpec)

/-- 'horologelaw1.PenWrites', WHERE WHAT IT READS IS OF BULK AT MOST 1048576: true; the input reads as it did. -/
def penWritesUptoRow : OpenClaim := { program := "ytedfmdifokbilaa", sum := "6ed7c2b32127381ea0e18201df5d8135d37d0e17094c0bb3ba3d1bd76b4ea33a", func := "horologe/horologelaw1.PenWrites", spec := "penWrites", apart := false, narrowed := true }
def PenWritesUptoSaid : Prop := penWritesUptoRow.holds Try.pinned (OpenSpec.upto penWritesSpec)

/-- 'horologelaw1.PenFrames', WHERE WHAT IT READS IS OF BULK AT MOST 1048576: true; the input reads as it did. -/
def penFramesUptoRow : OpenClaim := { program := "ytedfmdifokbilaa", sum := "6ed7c2b32127381ea0e18201df5d8135d37d0e17094c0bb3ba3d1bd76b4ea33a", func := "horologe/horologelaw1.PenFrames", spec := "penFrames", apart := false, narrowed := true }
def PenFramesUptoSaid : Prop := penFramesUptoRow.holds Try.pinned (OpenSpec.upto penFramesSpec)

/-- 'horologelaw1.PenTurns', WHERE WHAT IT READS IS OF BULK AT MOST 1048576: true; the input reads as it did. -/
def penTurnsUptoRow : OpenClaim := { program := "ytedfmdifokbilaa", sum := "6ed7c2b32127381ea0e18201df5d8135d37d0e17094c0bb3ba3d1bd76b4ea33a", func := "horologe/horologelaw1.PenTurns", spec := "penTurns", apart := false, narrowed := true }
def PenTurnsUptoSaid : Prop := penTurnsUptoRow.holds Try.pinned (OpenSpec.upto penTurnsSpec)

end Rows
end Go.Proofs.Ytedfmdifokbilaa
