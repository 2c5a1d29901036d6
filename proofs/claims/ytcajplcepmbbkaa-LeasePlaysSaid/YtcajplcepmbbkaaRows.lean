/-
  No cell of these rows narrows 'for every input' (looked for: loops, veiled, ifaces, maps, wideKeys, modest, calm, conditions, laid).
  DERIVED. THE GIVEN ROWS OF THIS SEAT. 4 by the template 'for every input the law returns true; each argument reads behind the call as it read before'; 0 by the template 'total and deterministic' (their statements: YtcajplcepmbbkaaTotals.lean).
  GIVEN WITH THE SEED: the statements are not yours to turn. If you find one false, say at which input.
  Laid BY PROGRAM, IN A SANDBOX (cutbox-rows.mjs): the forced cells as the released guide's own fill.sh prints them over the translation e6967972c5468df4… (all of the seat's roots in one cut). By AI agents, Wed Nov 11 2026. No macro, syntax, notation, axiom, sorry.
-/
import Derived.Test.YtcajplcepmbbkaaChecked
import GoSem.Claim
import GoSem.ClaimJoined
import GoSem.ClaimMapViews
import Derived.JoinedTies
import Derived.KernelRfl
namespace Go.Proofs.Ytcajplcepmbbkaa
/- THE CELL 'sum', in the pinned program and in every row, IS THE sha256 OF THE DUMP (.gsa) THAT YtcajplcepmbbkaaProg.lean LOADS. Nothing in Lean hashes anything: it is a label: what it is worth is what the hold of that sum in a sandbox is worth. -/
noncomputable def Try.pinned : Pinned := { name := "ytcajplcepmbbkaa", sum := "e6967972c5468df41a0cf059f362bc62e02a92ab3c87a462622bb8b1592c24b4", checked := Try.checked }
namespace Rows
def none {H : Type} : Left H := { results := [], args := [] }

/-- 'horologelaw10.LeaseMany': WHATEVER THE INPUT: true; the input reads as it did. -/
def leaseManySpec : ChangeSpec := { name := "leaseMany", fn := fun _ => fun
  | [d1, d2] => { results := [.lit (.bool true)], args := [d1, d2] }
  | _ => none }
def leaseManyRow : OpenClaim := { program := "ytcajplcepmbbkaa", sum := "e6967972c5468df41a0cf059f362bc62e02a92ab3c87a462622bb8b1592c24b4", func := "horologe/horologelaw10.LeaseMany", spec := "leaseMany", unfollowed := true, recurses := true, apart := false }
def LeaseManySaid : Prop := leaseManyRow.holds Try.pinned (OpenSpec.ofChange leaseManySpec)

/-- ITS FALSE NEIGHBOUR: 'it returns false'. Refute it at one input. -/
def leaseManyWrong : ChangeSpec := { name := "leaseMany", fn := fun _ => fun
  | [d1, d2] => { results := [.lit (.bool false)], args := [d1, d2] }
  | _ => none }
def LeaseManyWrongFalsely : Prop := leaseManyRow.holds Try.pinned (OpenSpec.ofChange leaseManyWrong)

/-- 'horologelaw10.LeaseOver': WHATEVER THE INPUT: true; the input reads as it did. -/
def leaseOverSpec : ChangeSpec := { name := "leaseOver", fn := fun _ => fun
  | [d1, d2] => { results := [.lit (.bool true)], args := [d1, d2] }
  | _ => none }
def leaseOverRow : OpenClaim := { program := "ytcajplcepmbbkaa", sum := "e6967972c5468df41a0cf059f362bc62e02a92ab3c87a462622bb8b1592c24b4", func := "horologe/horologelaw10.LeaseOver", spec := "leaseOver", unfollowed := true, recurses := true, apart := false }
def LeaseOverSaid : Prop := leaseOverRow.holds Try.pinned (OpenSpec.ofChange leaseOverSpec)

/-- ITS FALSE NEIGHBOUR: 'it returns false'. Refute it at one input. -/
def leaseOverWrong : ChangeSpec := { name := "leaseOver", fn := fun _ => fun
  | [d1, d2] => { results := [.lit (.bool false)], args := [d1, d2] }
  | _ => none }
def LeaseOverWrongFalsely : Prop := leaseOverRow.holds Try.pinned (OpenSpec.ofChange leaseOverWrong)

/-- 'horologelaw10.LeaseLives': WHATEVER THE INPUT: true; the input reads as it did. -/
def leaseLivesSpec : ChangeSpec := { name := "leaseLives", fn := fun _ => fun
  | [d1, d2] => { results := [.lit (.bool true)], args := [d1, d2] }
  | _ => none }
def leaseLivesRow : OpenClaim := { program := "ytcajplcepmbbkaa", sum := "e6967972c5468df41a0cf059f362bc62e02a92ab3c87a462622bb8b1592c24b4", func := "horologe/horologelaw10.LeaseLives", spec := "leaseLives", unfollowed := true, recurses := true, apart := false }
def LeaseLivesSaid : Prop := leaseLivesRow.holds Try.pinned (OpenSpec.ofChange leaseLivesSpec)

/-- ITS FALSE NEIGHBOUR: 'it returns false'. Refute it at one input. -/
def leaseLivesWrong : ChangeSpec := { name := "leaseLives", fn := fun _ => fun
  | [d1, d2] => { results := [.lit (.bool false)], args := [d1, d2] }
  | _ => none }
def LeaseLivesWrongFalsely : Prop := leaseLivesRow.holds Try.pinned (OpenSpec.ofChange leaseLivesWrong)

/-- 'horologelaw10.LeasePlays': WHATEVER THE INPUT: true; the input reads as it did. -/
def leasePlaysSpec : ChangeSpec := { name := "leasePlays", fn := fun _ => fun
  | [d] => { results := [.lit (.bool true)], args := [d] }
  | _ => none }
def leasePlaysRow : OpenClaim := { program := "ytcajplcepmbbkaa", sum := "e6967972c5468df41a0cf059f362bc62e02a92ab3c87a462622bb8b1592c24b4", func := "horologe/horologelaw10.LeasePlays", spec := "leasePlays", unfollowed := true, recurses := true, apart := false }
def LeasePlaysSaid : Prop := leasePlaysRow.holds Try.pinned (OpenSpec.ofChange leasePlaysSpec)

/-- ITS FALSE NEIGHBOUR: 'it returns false'. Refute it at one input. -/
def leasePlaysWrong : ChangeSpec := { name := "leasePlays", fn := fun _ => fun
  | [d] => { results := [.lit (.bool false)], args := [d] }
  | _ => none }
def LeasePlaysWrongFalsely : Prop := leasePlaysRow.holds Try.pinned (OpenSpec.ofChange leasePlaysWrong)

/- THE SECOND FORM. 'bulk': how many values and letters a reading holds, each counted each time it is reached (what is shared counts as often as it is met; a slice's spare places count too). A statement '..UptoSaid' is the law's where the arguments, and the package variables that the reading takes, are together of bulk at most 1048576: NARROWER than '..Said'. Prove '..Said' where nothing that the law and all that it calls make is longer than what came in: it says more and counts as full. Else prove '..UptoSaid'. A law counts once. -/
mutual
def uptoBulk {H : Type} : DataW H → Nat
  | .lit (.string bytes) => bytes.length + 1
  | .lit _ => 1
  | .nil => 1
  | .ptr d => uptoBulk d + 1
  | .slice elems spare => uptoBulkAll elems + uptoBulkAll spare + 1
  | .agg parts => uptoBulkAll parts + 1
  | .iface _ d => uptoBulk d + 1
  | .map entries => uptoBulkEntries entries + 1
  | .held _ => 1
def uptoBulkAll {H : Type} : List (DataW H) → Nat
  | [] => 0
  | d :: r => uptoBulk d + uptoBulkAll r
def uptoBulkEntries {H : Type} : List (Lit × DataW H) → Nat
  | [] => 0
  | x :: r => uptoBulkEntry x + uptoBulkEntries r
def uptoBulkEntry {H : Type} : Lit × DataW H → Nat
  | (.string bytes, d) => bytes.length + uptoBulk d + 1
  | (_, d) => uptoBulk d + 1
 end
def uptoSmall : (H : Type) → List (DataW H) → Bool := fun _ ds => decide (uptoBulkAll ds ≤ 1048576)
def OpenSpec.upto (s : _root_.Go.ChangeSpec) : _root_.Go.OpenSpec := { _root_.Go.OpenSpec.ofChange s with cond := some uptoSmall }

/-- 'horologelaw10.LeaseMany', WHERE WHAT IT READS IS OF BULK AT MOST 1048576: true; the input reads as it did. -/
def leaseManyUptoRow : OpenClaim := { program := "ytcajplcepmbbkaa", sum := "e6967972c5468df41a0cf059f362bc62e02a92ab3c87a462622bb8b1592c24b4", func := "horologe/horologelaw10.LeaseMany", spec := "leaseMany", unfollowed := true, recurses := true, apart := false, narrowed := true }
def LeaseManyUptoSaid : Prop := leaseManyUptoRow.holds Try.pinned (OpenSpec.upto leaseManySpec)

/-- 'horologelaw10.LeaseOver', WHERE WHAT IT READS IS OF BULK AT MOST 1048576: true; the input reads as it did. -/
def leaseOverUptoRow : OpenClaim := { program := "ytcajplcepmbbkaa", sum := "e6967972c5468df41a0cf059f362bc62e02a92ab3c87a462622bb8b1592c24b4", func := "horologe/horologelaw10.LeaseOver", spec := "leaseOver", unfollowed := true, recurses := true, apart := false, narrowed := true }
def LeaseOverUptoSaid : Prop := leaseOverUptoRow.holds Try.pinned (OpenSpec.upto leaseOverSpec)

/-- 'horologelaw10.LeaseLives', WHERE WHAT IT READS IS OF BULK AT MOST 1048576: true; the input reads as it did. -/
def leaseLivesUptoRow : OpenClaim := { program := "ytcajplcepmbbkaa", sum := "e6967972c5468df41a0cf059f362bc62e02a92ab3c87a462622bb8b1592c24b4", func := "horologe/horologelaw10.LeaseLives", spec := "leaseLives", unfollowed := true, recurses := true, apart := false, narrowed := true }
def LeaseLivesUptoSaid : Prop := leaseLivesUptoRow.holds Try.pinned (OpenSpec.upto leaseLivesSpec)

/-- 'horologelaw10.LeasePlays', WHERE WHAT IT READS IS OF BULK AT MOST 1048576: true; the input reads as it did. -/
def leasePlaysUptoRow : OpenClaim := { program := "ytcajplcepmbbkaa", sum := "e6967972c5468df41a0cf059f362bc62e02a92ab3c87a462622bb8b1592c24b4", func := "horologe/horologelaw10.LeasePlays", spec := "leasePlays", unfollowed := true, recurses := true, apart := false, narrowed := true }
def LeasePlaysUptoSaid : Prop := leasePlaysUptoRow.holds Try.pinned (OpenSpec.upto leasePlaysSpec)

end Rows
end Go.Proofs.Ytcajplcepmbbkaa
