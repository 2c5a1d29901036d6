/-
  No cell of these rows narrows 'for every input' (looked for: loops, veiled, ifaces, maps, wideKeys, modest, calm, conditions, laid).
  DERIVED. THE GIVEN ROWS OF THIS SEAT. 5 by the template 'for every input the law returns true; each argument reads behind the call as it read before'; 0 by the template 'total and deterministic' (their statements: YthdlaodfdabjlaaTotals.lean).
  GIVEN WITH THE SEED: the statements are not yours to turn. If you find one false, say at which input.
  Laid BY PROGRAM, IN A SANDBOX (cutbox-rows.mjs): the forced cells as the released guide's own fill.sh prints them over the translation 6f02d94f1163df3f… (all of the seat's roots in one cut). By AI agents, Wed Nov 11 2026. No macro, syntax, notation, axiom, sorry.
-/
import Derived.Test.YthdlaodfdabjlaaChecked
import GoSem.Claim
import GoSem.ClaimJoined
import GoSem.ClaimMapViews
import Derived.JoinedTies
import Derived.KernelRfl
namespace Go.Proofs.Ythdlaodfdabjlaa
/- THE CELL 'sum', in the pinned program and in every row, IS THE sha256 OF THE DUMP (.gsa) THAT YthdlaodfdabjlaaProg.lean LOADS. Nothing in Lean hashes anything: it is a label: what it is worth is what the hold of that sum in a sandbox is worth. -/
noncomputable def Try.pinned : Pinned := { name := "ythdlaodfdabjlaa", sum := "6f02d94f1163df3f77ea235279cb8ed2fa064db4aeca516ed1f53d17f4c6af63", checked := Try.checked }
namespace Rows
def none {H : Type} : Left H := { results := [], args := [] }

/-- 'horologelaw9.TxnGuards': WHATEVER THE INPUT: true; the input reads as it did. -/
def txnGuardsSpec : ChangeSpec := { name := "txnGuards", fn := fun _ => fun
  | [d1, d2] => { results := [.lit (.bool true)], args := [d1, d2] }
  | _ => none }
def txnGuardsRow : OpenClaim := { program := "ythdlaodfdabjlaa", sum := "6f02d94f1163df3f77ea235279cb8ed2fa064db4aeca516ed1f53d17f4c6af63", func := "horologe/horologelaw9.TxnGuards", spec := "txnGuards", inPlace := ["slices.overlaps[*horologe/index.item]", "slices.overlaps[*horologe/index.node]"], unfollowed := true, recurses := true, apart := false }
def TxnGuardsSaid : Prop := txnGuardsRow.holds Try.pinned (OpenSpec.ofChange txnGuardsSpec)

/-- ITS FALSE NEIGHBOUR: 'it returns false'. Refute it at one input. -/
def txnGuardsWrong : ChangeSpec := { name := "txnGuards", fn := fun _ => fun
  | [d1, d2] => { results := [.lit (.bool false)], args := [d1, d2] }
  | _ => none }
def TxnGuardsWrongFalsely : Prop := txnGuardsRow.holds Try.pinned (OpenSpec.ofChange txnGuardsWrong)

/-- 'horologelaw9.TxnSigns': WHATEVER THE INPUT: true; the input reads as it did. -/
def txnSignsSpec : ChangeSpec := { name := "txnSigns", fn := fun _ => fun
  | [d1, d2, d3] => { results := [.lit (.bool true)], args := [d1, d2, d3] }
  | _ => none }
def txnSignsRow : OpenClaim := { program := "ythdlaodfdabjlaa", sum := "6f02d94f1163df3f77ea235279cb8ed2fa064db4aeca516ed1f53d17f4c6af63", func := "horologe/horologelaw9.TxnSigns", spec := "txnSigns", inPlace := ["slices.overlaps[*horologe/index.item]", "slices.overlaps[*horologe/index.node]"], unfollowed := true, recurses := true, apart := false }
def TxnSignsSaid : Prop := txnSignsRow.holds Try.pinned (OpenSpec.ofChange txnSignsSpec)

/-- ITS FALSE NEIGHBOUR: 'it returns false'. Refute it at one input. -/
def txnSignsWrong : ChangeSpec := { name := "txnSigns", fn := fun _ => fun
  | [d1, d2, d3] => { results := [.lit (.bool false)], args := [d1, d2, d3] }
  | _ => none }
def TxnSignsWrongFalsely : Prop := txnSignsRow.holds Try.pinned (OpenSpec.ofChange txnSignsWrong)

/-- 'horologelaw9.TxnSees': WHATEVER THE INPUT: true; the input reads as it did. -/
def txnSeesSpec : ChangeSpec := { name := "txnSees", fn := fun _ => fun
  | [d] => { results := [.lit (.bool true)], args := [d] }
  | _ => none }
def txnSeesRow : OpenClaim := { program := "ythdlaodfdabjlaa", sum := "6f02d94f1163df3f77ea235279cb8ed2fa064db4aeca516ed1f53d17f4c6af63", func := "horologe/horologelaw9.TxnSees", spec := "txnSees", inPlace := ["slices.overlaps[*horologe/index.item]", "slices.overlaps[*horologe/index.node]"], unfollowed := true, recurses := true, apart := false }
def TxnSeesSaid : Prop := txnSeesRow.holds Try.pinned (OpenSpec.ofChange txnSeesSpec)

/-- ITS FALSE NEIGHBOUR: 'it returns false'. Refute it at one input. -/
def txnSeesWrong : ChangeSpec := { name := "txnSees", fn := fun _ => fun
  | [d] => { results := [.lit (.bool false)], args := [d] }
  | _ => none }
def TxnSeesWrongFalsely : Prop := txnSeesRow.holds Try.pinned (OpenSpec.ofChange txnSeesWrong)

/-- 'horologelaw9.TxnRefuses': WHATEVER THE INPUT: true; the input reads as it did. -/
def txnRefusesSpec : ChangeSpec := { name := "txnRefuses", fn := fun _ => fun
  | [d] => { results := [.lit (.bool true)], args := [d] }
  | _ => none }
def txnRefusesRow : OpenClaim := { program := "ythdlaodfdabjlaa", sum := "6f02d94f1163df3f77ea235279cb8ed2fa064db4aeca516ed1f53d17f4c6af63", func := "horologe/horologelaw9.TxnRefuses", spec := "txnRefuses", inPlace := ["slices.overlaps[*horologe/index.item]", "slices.overlaps[*horologe/index.node]"], unfollowed := true, recurses := true, apart := false }
def TxnRefusesSaid : Prop := txnRefusesRow.holds Try.pinned (OpenSpec.ofChange txnRefusesSpec)

/-- ITS FALSE NEIGHBOUR: 'it returns false'. Refute it at one input. -/
def txnRefusesWrong : ChangeSpec := { name := "txnRefuses", fn := fun _ => fun
  | [d] => { results := [.lit (.bool false)], args := [d] }
  | _ => none }
def TxnRefusesWrongFalsely : Prop := txnRefusesRow.holds Try.pinned (OpenSpec.ofChange txnRefusesWrong)

/-- 'horologelaw9.TxnLong': WHATEVER THE INPUT: true; the input reads as it did. -/
def txnLongSpec : ChangeSpec := { name := "txnLong", fn := fun _ => fun
  | [d] => { results := [.lit (.bool true)], args := [d] }
  | _ => none }
def txnLongRow : OpenClaim := { program := "ythdlaodfdabjlaa", sum := "6f02d94f1163df3f77ea235279cb8ed2fa064db4aeca516ed1f53d17f4c6af63", func := "horologe/horologelaw9.TxnLong", spec := "txnLong", inPlace := ["slices.overlaps[*horologe/index.item]", "slices.overlaps[*horologe/index.node]"], unfollowed := true, recurses := true, apart := false }
def TxnLongSaid : Prop := txnLongRow.holds Try.pinned (OpenSpec.ofChange txnLongSpec)

/-- ITS FALSE NEIGHBOUR: 'it returns false'. Refute it at one input. -/
def txnLongWrong : ChangeSpec := { name := "txnLong", fn := fun _ => fun
  | [d] => { results := [.lit (.bool false)], args := [d] }
  | _ => none }
def TxnLongWrongFalsely : Prop := txnLongRow.holds Try.pinned (OpenSpec.ofChange txnLongWrong)

/- THE SECOND FORM. 'bulk': how many values and letters a reading holds, each counted each time it is reached (what is shared counts as often as it is met; a slice's spare places count too). A statement '..UptoSaid' is the law's where the arguments, and the package variables that the reading takes, are together of bulk at most 1048576: NARROWER than '..Said'. Prove '..Said' where nothing that the law and all that it calls make is longer than what came in: it says more and counts as full. Else prove '..UptoSaid'. A law counts once. -/
mutual
def uptoBulk {H : Type} : DataW H → Nat
  | .lit (.string bytes) => bytes.length + 1
  | .lit _ => 1
  | .nil => 1
  | .ptr d => uptoBulk d + 1
  | .slice elems spare => uptoBulkAll elems + uptoBulkAll spare + 1
  | .agg parts => uptoBulkAll parts + 1
  | .iface _ d => uptoBulk d + 1
  | .map entries => uptoBulkEntries entries + 1
  | .held _ => 1
def uptoBulkAll {H : Type} : List (DataW H) → Nat
  | [] => 0
  | d :: r => uptoBulk d + uptoBulkAll r
def uptoBulkEntries {H : Type} : List (Lit × DataW H) → Nat
  | [] => 0
  | x :: r => uptoBulkEntry x + uptoBulkEntries r
def uptoBulkEntry {H : Type} : Lit × DataW H → Nat
  | (.string bytes, d) => bytes.length + uptoBulk d + 1
  | (_, d) => uptoBulk d + 1
 end
def uptoSmall : (H : Type) → List (DataW H) → Bool := fun _ ds => decide (uptoBulkAll ds ≤ 1048576)
def OpenSpec.upto (s : _root_.Go.ChangeSpec) : _root_.Go.OpenSpec := { _root_.Go.OpenSpec.ofChange s with cond := some uptoSmall }

/-- 'horologelaw9.TxnGuards', WHERE WHAT IT READS IS OF BULK AT MOST 1048576: true; the input reads as it did. -/
def txnGuardsUptoRow : OpenClaim := { program := "ythdlaodfdabjlaa", sum := "6f02d94f1163df3f77ea235279cb8ed2fa064db4aeca516ed1f53d17f4c6af63", func := "horologe/horologelaw9.TxnGuards", spec := "txnGuards", inPlace := ["slices.overlaps[*horologe/index.item]", "slices.overlaps[*horologe/index.node]"], unfollowed := true, recurses := true, apart := false, narrowed := true }
def TxnGuardsUptoSaid : Prop := txnGuardsUptoRow.holds Try.pinned (OpenSpec.upto txnGuardsSpec)

/-- 'horologelaw9.TxnSigns', WHERE WHAT IT READS IS OF BULK AT MOST 1048576: true; the input reads as it did. -/
def txnSignsUptoRow : OpenClaim := { program := "ythdlaodfdabjlaa", sum := "6f02d94f1163df3f77ea235279cb8ed2fa064db4aeca516ed1f53d17f4c6af63", func := "horologe/horologelaw9.TxnSigns", spec := "txnSigns", inPlace := ["slices.overlaps[*horologe/index.item]", "slices.overlaps[*horologe/index.node]"], unfollowed := true, recurses := true, apart := false, narrowed := true }
def TxnSignsUptoSaid : Prop := txnSignsUptoRow.holds Try.pinned (OpenSpec.upto txnSignsSpec)

/-- 'horologelaw9.TxnSees', WHERE WHAT IT READS IS OF BULK AT MOST 1048576: true; the input reads as it did. -/
def txnSeesUptoRow : OpenClaim := { program := "ythdlaodfdabjlaa", sum := "6f02d94f1163df3f77ea235279cb8ed2fa064db4aeca516ed1f53d17f4c6af63", func := "horologe/horologelaw9.TxnSees", spec := "txnSees", inPlace := ["slices.overlaps[*horologe/index.item]", "slices.overlaps[*horologe/index.node]"], unfollowed := true, recurses := true, apart := false, narrowed := true }
def TxnSeesUptoSaid : Prop := txnSeesUptoRow.holds Try.pinned (OpenSpec.upto txnSeesSpec)

/-- 'horologelaw9.TxnRefuses', WHERE WHAT IT READS IS OF BULK AT MOST 1048576: true; the input reads as it did. -/
def txnRefusesUptoRow : OpenClaim := { program := "ythdlaodfdabjlaa", sum := "6f02d94f1163df3f77ea235279cb8ed2fa064db4aeca516ed1f53d17f4c6af63", func := "horologe/horologelaw9.TxnRefuses", spec := "txnRefuses", inPlace := ["slices.overlaps[*horologe/index.item]", "slices.overlaps[*horologe/index.node]"], unfollowed := true, recurses := true, apart := false, narrowed := true }
def TxnRefusesUptoSaid : Prop := txnRefusesUptoRow.holds Try.pinned (OpenSpec.upto txnRefusesSpec)

/-- 'horologelaw9.TxnLong', WHERE WHAT IT READS IS OF BULK AT MOST 1048576: true; the input reads as it did. -/
def txnLongUptoRow : OpenClaim := { program := "ythdlaodfdabjlaa", sum := "6f02d94f1163df3f77ea235279cb8ed2fa064db4aeca516ed1f53d17f4c6af63", func := "horologe/horologelaw9.TxnLong", spec := "txnLong", inPlace := ["slices.overlaps[*horologe/index.item]", "slices.overlaps[*horologe/index.node]"], unfollowed := true, recurses := true, apart := false, narrowed := true }
def TxnLongUptoSaid : Prop := txnLongUptoRow.holds Try.pinned (OpenSpec.upto txnLongSpec)

end Rows
end Go.Proofs.Ythdlaodfdabjlaa
