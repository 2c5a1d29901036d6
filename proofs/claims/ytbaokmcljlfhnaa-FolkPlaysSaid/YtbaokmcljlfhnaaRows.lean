/-
  No cell of these rows narrows 'for every input' (looked for: loops, veiled, ifaces, maps, wideKeys, modest, calm, conditions, laid).
  DERIVED. THE GIVEN ROWS OF THIS SEAT. 3 by the template 'for every input the law returns true; each argument reads behind the call as it read before'; 0 by the template 'total and deterministic' (their statements: YtbaokmcljlfhnaaTotals.lean).
  GIVEN WITH THE SEED: the statements are not yours to turn. If you find one false, say at which input.
  Laid BY PROGRAM, IN A SANDBOX (cutbox-rows.mjs): the forced cells as the released guide's own fill.sh prints them over the translation db2458eaf80c5586… (all of the seat's roots in one cut). By AI agents, Wed Nov 11 2026. No macro, syntax, notation, axiom, sorry.
-/
import Derived.Test.YtbaokmcljlfhnaaChecked
import GoSem.Claim
import GoSem.ClaimJoined
import GoSem.ClaimMapViews
import Derived.JoinedTies
import Derived.KernelRfl
namespace Go.Proofs.Ytbaokmcljlfhnaa
/- THE CELL 'sum', in the pinned program and in every row, IS THE sha256 OF THE DUMP (.gsa) THAT YtbaokmcljlfhnaaProg.lean LOADS. Nothing in Lean hashes anything: it is a label: what it is worth is what the hold of that sum in a sandbox is worth. -/
noncomputable def Try.pinned : Pinned := { name := "ytbaokmcljlfhnaa", sum := "db2458eaf80c55864bf7697891863c69830921ded99c99ef5f2d95b8a35743e2", checked := Try.checked }
namespace Rows
def none {H : Type} : Left H := { results := [], args := [] }

/-- 'horologelaw11.FolkPlays': WHATEVER THE INPUT: true; the input reads as it did. -/
def folkPlaysSpec : ChangeSpec := { name := "folkPlays", fn := fun _ => fun
  | [d] => { results := [.lit (.bool true)], args := [d] }
  | _ => none }
def folkPlaysRow : OpenClaim := { program := "ytbaokmcljlfhnaa", sum := "db2458eaf80c55864bf7697891863c69830921ded99c99ef5f2d95b8a35743e2", func := "horologe/horologelaw11.FolkPlays", spec := "folkPlays", unfollowed := true, recurses := true, apart := false }
def FolkPlaysSaid : Prop := folkPlaysRow.holds Try.pinned (OpenSpec.ofChange folkPlaysSpec)

/-- ITS FALSE NEIGHBOUR: 'it returns false'. Refute it at one input. -/
def folkPlaysWrong : ChangeSpec := { name := "folkPlays", fn := fun _ => fun
  | [d] => { results := [.lit (.bool false)], args := [d] }
  | _ => none }
def FolkPlaysWrongFalsely : Prop := folkPlaysRow.holds Try.pinned (OpenSpec.ofChange folkPlaysWrong)

/-- 'horologelaw11.FolkMany': WHATEVER THE INPUT: true; the input reads as it did. -/
def folkManySpec : ChangeSpec := { name := "folkMany", fn := fun _ => fun
  | [d] => { results := [.lit (.bool true)], args := [d] }
  | _ => none }
def folkManyRow : OpenClaim := { program := "ytbaokmcljlfhnaa", sum := "db2458eaf80c55864bf7697891863c69830921ded99c99ef5f2d95b8a35743e2", func := "horologe/horologelaw11.FolkMany", spec := "folkMany", unfollowed := true, recurses := true, apart := false }
def FolkManySaid : Prop := folkManyRow.holds Try.pinned (OpenSpec.ofChange folkManySpec)

/-- ITS FALSE NEIGHBOUR: 'it returns false'. Refute it at one input. -/
def folkManyWrong : ChangeSpec := { name := "folkMany", fn := fun _ => fun
  | [d] => { results := [.lit (.bool false)], args := [d] }
  | _ => none }
def FolkManyWrongFalsely : Prop := folkManyRow.holds Try.pinned (OpenSpec.ofChange folkManyWrong)

/-- 'horologelaw11.FolkGaps': WHATEVER THE INPUT: true; the input reads as it did. -/
def folkGapsSpec : ChangeSpec := { name := "folkGaps", fn := fun _ => fun
  | [d1, d2] => { results := [.lit (.bool true)], args := [d1, d2] }
  | _ => none }
def folkGapsRow : OpenClaim := { program := "ytbaokmcljlfhnaa", sum := "db2458eaf80c55864bf7697891863c69830921ded99c99ef5f2d95b8a35743e2", func := "horologe/horologelaw11.FolkGaps", spec := "folkGaps", unfollowed := true, recurses := true, apart := false }
def FolkGapsSaid : Prop := folkGapsRow.holds Try.pinned (OpenSpec.ofChange folkGapsSpec)

/-- ITS FALSE NEIGHBOUR: 'it returns false'. Refute it at one input. -/
def folkGapsWrong : ChangeSpec := { name := "folkGaps", fn := fun _ => fun
  | [d1, d2] => { results := [.lit (.bool false)], args := [d1, d2] }
  | _ => none }
def FolkGapsWrongFalsely : Prop := folkGapsRow.holds Try.pinned (OpenSpec.ofChange folkGapsWrong)

/- THE SECOND FORM. 'bulk': how many values and letters a reading holds, each counted each time it is reached (what is shared counts as often as it is met; a slice's spare places count too). A statement '..UptoSaid' is the law's where the arguments, and the package variables that the reading takes, are together of bulk at most 1048576: NARROWER than '..Said'. Prove '..Said' where nothing that the law and all that it calls make is longer than what came in: it says more and counts as full. Else prove '..UptoSaid'. A law counts once. -/
mutual
def uptoBulk {H : Type} : DataW H → Nat
  | .lit (.string bytes) => bytes.length + 1
  | .lit _ => 1
  | .nil => 1
  | .ptr d => uptoBulk d + 1
  | .slice elems spare => uptoBulkAll elems + uptoBulkAll spare + 1
  | .agg parts => uptoBulkAll parts + 1
  | .iface _ d => uptoBulk d + 1
  | .map entries => uptoBulkEntries entries + 1
  | .held _ => 1
def uptoBulkAll {H : Type} : List (DataW H) → Nat
  | [] => 0
  | d :: r => uptoBulk d + uptoBulkAll r
def uptoBulkEntries {H : Type} : List (Lit × DataW H) → Nat
  | [] => 0
  | x :: r => uptoBulkEntry x + uptoBulkEntries r
def uptoBulkEntry {H : Type} : Lit × DataW H → Nat
  | (.string bytes, d) => bytes.length + uptoBulk d + 1
  | (_, d) => uptoBulk d + 1
 end
def uptoSmall : (H : Type) → List (DataW H) → Bool := fun _ ds => decide (uptoBulkAll ds ≤ 1048576)
def OpenSpec.upto (s : _root_.Go.ChangeSpec) : _root_.Go.OpenSpec := { _root_.Go.OpenSpec.ofChange s with cond := some uptoSmall }

/-- 'horologelaw11.FolkPlays', WHERE WHAT IT READS IS OF BULK AT MOST 1048576: true; the input reads as it did. -/
def folkPlaysUptoRow : OpenClaim := { program := "ytbaokmcljlfhnaa", sum := "db2458eaf80c55864bf7697891863c69830921ded99c99ef5f2d95b8a35743e2", func := "horologe/horologelaw11.FolkPlays", spec := "folkPlays", unfollowed := true, recurses := true, apart := false, narrowed := true }
def FolkPlaysUptoSaid : Prop := folkPlaysUptoRow.holds Try.pinned (OpenSpec.upto folkPlaysSpec)

/-- 'horologelaw11.FolkMany', WHERE WHAT IT READS IS OF BULK AT MOST 1048576: true; the input reads as it did. -/
def folkManyUptoRow : OpenClaim := { program := "ytbaokmcljlfhnaa", sum := "db2458eaf80c55864bf7697891863c69830921ded99c99ef5f2d95b8a35743e2", func := "horologe/horologelaw11.FolkMany", spec := "folkMany", unfollowed := true, recurses := true, apart := false, narrowed := true }
def FolkManyUptoSaid : Prop := folkManyUptoRow.holds Try.pinned (OpenSpec.upto folkManySpec)

/-- 'horologelaw11.FolkGaps', WHERE WHAT IT READS IS OF BULK AT MOST 1048576: true; the input reads as it did. -/
def folkGapsUptoRow : OpenClaim := { program := "ytbaokmcljlfhnaa", sum := "db2458eaf80c55864bf7697891863c69830921ded99c99ef5f2d95b8a35743e2", func := "horologe/horologelaw11.FolkGaps", spec := "folkGaps", unfollowed := true, recurses := true, apart := false, narrowed := true }
def FolkGapsUptoSaid : Prop := folkGapsUptoRow.holds Try.pinned (OpenSpec.upto folkGapsSpec)

end Rows
end Go.Proofs.Ytbaokmcljlfhnaa
