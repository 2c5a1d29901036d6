/-
  No cell of these rows narrows 'for every input' (looked for: loops, veiled, ifaces, maps, wideKeys, modest, calm, conditions, laid).
  DERIVED. THE GIVEN ROWS OF THIS SEAT. 8 by the template 'for every input the law returns true; each argument reads behind the call as it read before'; 0 by the template 'total and deterministic' (their statements: YtmhbnkjajkcmkaaGreatTotals.lean).
  GIVEN WITH THE SEED: the statements are not yours to turn. If you find one false, say at which input.
  Laid BY PROGRAM, IN A SANDBOX (cutbox-rows.mjs): the forced cells as the released guide's own fill.sh prints them over the translation 83c38d38d42a7629… (all of the seat's roots in one cut). By AI agents, Wed Nov 11 2026. No macro, syntax, notation, axiom, sorry.
-/
import Derived.Test.YtmhbnkjajkcmkaaGreatChecked
import GoSem.Claim
import GoSem.ClaimJoined
import GoSem.ClaimMapViews
import Derived.JoinedTies
import Derived.KernelRfl
namespace Go.Proofs.YtmhbnkjajkcmkaaGreat
/- THE CELL 'sum', in the pinned program and in every row, IS THE sha256 OF THE DUMP (.gsa) THAT YtmhbnkjajkcmkaaGreatProg.lean LOADS. Nothing in Lean hashes anything: it is a label: what it is worth is what the hold of that sum in a sandbox is worth. -/
noncomputable def Tryz.pinned : Pinned := { name := "ytmhbnkjajkcmkaagreat", sum := "83c38d38d42a76295a350aadc25db71c63a736292ee3b81200a211ac7bf20743", checked := Tryz.checked }
namespace Rows
def none {H : Type} : Left H := { results := [], args := [] }

/-- 'horologelaw12.MachineNobody': WHATEVER THE INPUT: true; the input reads as it did. -/
def machineNobodySpec : ChangeSpec := { name := "machineNobody", fn := fun _ => fun
  | [d1, d2] => { results := [.lit (.bool true)], args := [d1, d2] }
  | _ => none }
def machineNobodyRow : OpenClaim := { program := "ytmhbnkjajkcmkaagreat", sum := "83c38d38d42a76295a350aadc25db71c63a736292ee3b81200a211ac7bf20743", func := "horologe/horologelaw12.MachineNobody", spec := "machineNobody", inPlace := ["slices.overlaps[*horologe/index.item]", "slices.overlaps[*horologe/index.node]"], unfollowed := true, recurses := true, apart := false }
def MachineNobodySaid : Prop := machineNobodyRow.holds Tryz.pinned (OpenSpec.ofChange machineNobodySpec)

/-- ITS FALSE NEIGHBOUR: 'it returns false'. Refute it at one input. -/
def machineNobodyWrong : ChangeSpec := { name := "machineNobody", fn := fun _ => fun
  | [d1, d2] => { results := [.lit (.bool false)], args := [d1, d2] }
  | _ => none }
def MachineNobodyWrongFalsely : Prop := machineNobodyRow.holds Tryz.pinned (OpenSpec.ofChange machineNobodyWrong)

/-- 'horologelaw12.MachineOnce': WHATEVER THE INPUT: true; the input reads as it did. -/
def machineOnceSpec : ChangeSpec := { name := "machineOnce", fn := fun _ => fun
  | [d1, d2] => { results := [.lit (.bool true)], args := [d1, d2] }
  | _ => none }
def machineOnceRow : OpenClaim := { program := "ytmhbnkjajkcmkaagreat", sum := "83c38d38d42a76295a350aadc25db71c63a736292ee3b81200a211ac7bf20743", func := "horologe/horologelaw12.MachineOnce", spec := "machineOnce", inPlace := ["slices.overlaps[*horologe/index.item]", "slices.overlaps[*horologe/index.node]"], unfollowed := true, recurses := true, apart := false }
def MachineOnceSaid : Prop := machineOnceRow.holds Tryz.pinned (OpenSpec.ofChange machineOnceSpec)

/-- ITS FALSE NEIGHBOUR: 'it returns false'. Refute it at one input. -/
def machineOnceWrong : ChangeSpec := { name := "machineOnce", fn := fun _ => fun
  | [d1, d2] => { results := [.lit (.bool false)], args := [d1, d2] }
  | _ => none }
def MachineOnceWrongFalsely : Prop := machineOnceRow.holds Tryz.pinned (OpenSpec.ofChange machineOnceWrong)

/-- 'horologelaw12.MachineLeases': WHATEVER THE INPUT: true; the input reads as it did. -/
def machineLeasesSpec : ChangeSpec := { name := "machineLeases", fn := fun _ => fun
  | [d1, d2, d3, d4] => { results := [.lit (.bool true)], args := [d1, d2, d3, d4] }
  | _ => none }
def machineLeasesRow : OpenClaim := { program := "ytmhbnkjajkcmkaagreat", sum := "83c38d38d42a76295a350aadc25db71c63a736292ee3b81200a211ac7bf20743", func := "horologe/horologelaw12.MachineLeases", spec := "machineLeases", inPlace := ["slices.overlaps[*horologe/index.item]", "slices.overlaps[*horologe/index.node]"], unfollowed := true, recurses := true, apart := false }
def MachineLeasesSaid : Prop := machineLeasesRow.holds Tryz.pinned (OpenSpec.ofChange machineLeasesSpec)

/-- ITS FALSE NEIGHBOUR: 'it returns false'. Refute it at one input. -/
def machineLeasesWrong : ChangeSpec := { name := "machineLeases", fn := fun _ => fun
  | [d1, d2, d3, d4] => { results := [.lit (.bool false)], args := [d1, d2, d3, d4] }
  | _ => none }
def MachineLeasesWrongFalsely : Prop := machineLeasesRow.holds Tryz.pinned (OpenSpec.ofChange machineLeasesWrong)

/-- 'horologelaw12.MachineClock': WHATEVER THE INPUT: true; the input reads as it did. -/
def machineClockSpec : ChangeSpec := { name := "machineClock", fn := fun _ => fun
  | [d] => { results := [.lit (.bool true)], args := [d] }
  | _ => none }
def machineClockRow : OpenClaim := { program := "ytmhbnkjajkcmkaagreat", sum := "83c38d38d42a76295a350aadc25db71c63a736292ee3b81200a211ac7bf20743", func := "horologe/horologelaw12.MachineClock", spec := "machineClock", inPlace := ["slices.overlaps[*horologe/index.item]", "slices.overlaps[*horologe/index.node]"], unfollowed := true, recurses := true, apart := false }
def MachineClockSaid : Prop := machineClockRow.holds Tryz.pinned (OpenSpec.ofChange machineClockSpec)

/-- ITS FALSE NEIGHBOUR: 'it returns false'. Refute it at one input. -/
def machineClockWrong : ChangeSpec := { name := "machineClock", fn := fun _ => fun
  | [d] => { results := [.lit (.bool false)], args := [d] }
  | _ => none }
def MachineClockWrongFalsely : Prop := machineClockRow.holds Tryz.pinned (OpenSpec.ofChange machineClockWrong)

/-- 'horologelaw12.MachineTurns': WHATEVER THE INPUT: true; the input reads as it did. -/
def machineTurnsSpec : ChangeSpec := { name := "machineTurns", fn := fun _ => fun
  | [d1, d2, d3, d4, d5] => { results := [.lit (.bool true)], args := [d1, d2, d3, d4, d5] }
  | _ => none }
def machineTurnsRow : OpenClaim := { program := "ytmhbnkjajkcmkaagreat", sum := "83c38d38d42a76295a350aadc25db71c63a736292ee3b81200a211ac7bf20743", func := "horologe/horologelaw12.MachineTurns", spec := "machineTurns", inPlace := ["slices.overlaps[*horologe/index.item]", "slices.overlaps[*horologe/index.node]"], unfollowed := true, recurses := true, apart := false }
def MachineTurnsSaid : Prop := machineTurnsRow.holds Tryz.pinned (OpenSpec.ofChange machineTurnsSpec)

/-- ITS FALSE NEIGHBOUR: 'it returns false'. Refute it at one input. -/
def machineTurnsWrong : ChangeSpec := { name := "machineTurns", fn := fun _ => fun
  | [d1, d2, d3, d4, d5] => { results := [.lit (.bool false)], args := [d1, d2, d3, d4, d5] }
  | _ => none }
def MachineTurnsWrongFalsely : Prop := machineTurnsRow.holds Tryz.pinned (OpenSpec.ofChange machineTurnsWrong)

/-- 'horologelaw12.MachineTwins': WHATEVER THE INPUT: true; the input reads as it did. -/
def machineTwinsSpec : ChangeSpec := { name := "machineTwins", fn := fun _ => fun
  | [d1, d2] => { results := [.lit (.bool true)], args := [d1, d2] }
  | _ => none }
def machineTwinsRow : OpenClaim := { program := "ytmhbnkjajkcmkaagreat", sum := "83c38d38d42a76295a350aadc25db71c63a736292ee3b81200a211ac7bf20743", func := "horologe/horologelaw12.MachineTwins", spec := "machineTwins", inPlace := ["slices.overlaps[*horologe/index.item]", "slices.overlaps[*horologe/index.node]"], unfollowed := true, recurses := true, apart := false }
def MachineTwinsSaid : Prop := machineTwinsRow.holds Tryz.pinned (OpenSpec.ofChange machineTwinsSpec)

/-- ITS FALSE NEIGHBOUR: 'it returns false'. Refute it at one input. -/
def machineTwinsWrong : ChangeSpec := { name := "machineTwins", fn := fun _ => fun
  | [d1, d2] => { results := [.lit (.bool false)], args := [d1, d2] }
  | _ => none }
def MachineTwinsWrongFalsely : Prop := machineTwinsRow.holds Tryz.pinned (OpenSpec.ofChange machineTwinsWrong)

/-- 'horologelaw12.MachineLoad': WHATEVER THE INPUT: true; the input reads as it did. -/
def machineLoadSpec : ChangeSpec := { name := "machineLoad", fn := fun _ => fun
  | [d1, d2, d3] => { results := [.lit (.bool true)], args := [d1, d2, d3] }
  | _ => none }
def machineLoadRow : OpenClaim := { program := "ytmhbnkjajkcmkaagreat", sum := "83c38d38d42a76295a350aadc25db71c63a736292ee3b81200a211ac7bf20743", func := "horologe/horologelaw12.MachineLoad", spec := "machineLoad", inPlace := ["slices.overlaps[*horologe/index.item]", "slices.overlaps[*horologe/index.node]"], unfollowed := true, recurses := true, apart := false }
def MachineLoadSaid : Prop := machineLoadRow.holds Tryz.pinned (OpenSpec.ofChange machineLoadSpec)

/-- ITS FALSE NEIGHBOUR: 'it returns false'. Refute it at one input. -/
def machineLoadWrong : ChangeSpec := { name := "machineLoad", fn := fun _ => fun
  | [d1, d2, d3] => { results := [.lit (.bool false)], args := [d1, d2, d3] }
  | _ => none }
def MachineLoadWrongFalsely : Prop := machineLoadRow.holds Tryz.pinned (OpenSpec.ofChange machineLoadWrong)

/-- 'horologelaw12.MachinePlays': WHATEVER THE INPUT: true; the input reads as it did. -/
def machinePlaysSpec : ChangeSpec := { name := "machinePlays", fn := fun _ => fun
  | [d1, d2] => { results := [.lit (.bool true)], args := [d1, d2] }
  | _ => none }
def machinePlaysRow : OpenClaim := { program := "ytmhbnkjajkcmkaagreat", sum := "83c38d38d42a76295a350aadc25db71c63a736292ee3b81200a211ac7bf20743", func := "horologe/horologelaw12.MachinePlays", spec := "machinePlays", inPlace := ["slices.overlaps[*horologe/index.item]", "slices.overlaps[*horologe/index.node]"], unfollowed := true, recurses := true, apart := false }
def MachinePlaysSaid : Prop := machinePlaysRow.holds Tryz.pinned (OpenSpec.ofChange machinePlaysSpec)

/-- ITS FALSE NEIGHBOUR: 'it returns false'. Refute it at one input. -/
def machinePlaysWrong : ChangeSpec := { name := "machinePlays", fn := fun _ => fun
  | [d1, d2] => { results := [.lit (.bool false)], args := [d1, d2] }
  | _ => none }
def MachinePlaysWrongFalsely : Prop := machinePlaysRow.holds Tryz.pinned (OpenSpec.ofChange machinePlaysWrong)

/- THE SECOND FORM. 'bulk': how many values and letters a reading holds, each counted each time it is reached (what is shared counts as often as it is met; a slice's spare places count too). A statement '..UptoSaid' is the law's where the arguments, and the package variables that the reading takes, are together of bulk at most 1048576: NARROWER than '..Said'. Prove '..Said' where nothing that the law and all that it calls make is longer than what came in: it says more and counts as full. Else prove '..UptoSaid'. A law counts once. -/
mutual
def uptoBulk {H : Type} : DataW H → Nat
  | .lit (.string bytes) => bytes.length + 1
  | .lit _ => 1
  | .nil => 1
  | .ptr d => uptoBulk d + 1
  | .slice elems spare => uptoBulkAll elems + uptoBulkAll spare + 1
  | .agg parts => uptoBulkAll parts + 1
  | .iface _ d => uptoBulk d + 1
  | .map entries => uptoBulkEntries entries + 1
  | .held _ => 1
def uptoBulkAll {H : Type} : List (DataW H) → Nat
  | [] => 0
  | d :: r => uptoBulk d + uptoBulkAll r
def uptoBulkEntries {H : Type} : List (Lit × DataW H) → Nat
  | [] => 0
  | x :: r => uptoBulkEntry x + uptoBulkEntries r
def uptoBulkEntry {H : Type} : Lit × DataW H → Nat
  | (.string bytes, d) => bytes.length + uptoBulk d + 1
  | (_, d) => uptoBulk d + 1
 end
def uptoSmall : (H : Type) → List (DataW H) → Bool := fun _ ds => decide (uptoBulkAll ds ≤ 1048576)
def OpenSpec.upto (s : _root_.Go.ChangeSpec) : _root_.Go.OpenSpec := { _root_.Go.OpenSpec.ofChange s with cond := some uptoSmall }

/-- 'horologelaw12.MachineNobody', WHERE WHAT IT READS IS OF BULK AT MOST 1048576: true; the input reads as it did. -/
def machineNobodyUptoRow : OpenClaim := { program := "ytmhbnkjajkcmkaagreat", sum := "83c38d38d42a76295a350aadc25db71c63a736292ee3b81200a211ac7bf20743", func := "horologe/horologelaw12.MachineNobody", spec := "machineNobody", inPlace := ["slices.overlaps[*horologe/index.item]", "slices.overlaps[*horologe/index.node]"], unfollowed := true, recurses := true, apart := false, narrowed := true }
def MachineNobodyUptoSaid : Prop := machineNobodyUptoRow.holds Tryz.pinned (OpenSpec.upto machineNobodySpec)

/-- 'horologelaw12.MachineOnce', WHERE WHAT IT READS IS OF BULK AT MOST 1048576: true; the input reads as it did. -/
def machineOnceUptoRow : OpenClaim := { program := "ytmhbnkjajkcmkaagreat", sum := "83c38d38d42a76295a350aadc25db71c63a736292ee3b81200a211ac7bf20743", func := "horologe/horologelaw12.MachineOnce", spec := "machineOnce", inPlace := ["slices.overlaps[*horologe/index.item]", "slices.overlaps[*horologe/index.node]"], unfollowed := true, recurses := true, apart := false, narrowed := true }
def MachineOnceUptoSaid : Prop := machineOnceUptoRow.holds Tryz.pinned (OpenSpec.upto machineOnceSpec)

/-- 'horologelaw12.MachineLeases', WHERE WHAT IT READS IS OF BULK AT MOST 1048576: true; the input reads as it did. -/
def machineLeasesUptoRow : OpenClaim := { program := "ytmhbnkjajkcmkaagreat", sum := "83c38d38d42a76295a350aadc25db71c63a736292ee3b81200a211ac7bf20743", func := "horologe/horologelaw12.MachineLeases", spec := "machineLeases", inPlace := ["slices.overlaps[*horologe/index.item]", "slices.overlaps[*horologe/index.node]"], unfollowed := true, recurses := true, apart := false, narrowed := true }
def MachineLeasesUptoSaid : Prop := machineLeasesUptoRow.holds Tryz.pinned (OpenSpec.upto machineLeasesSpec)

/-- 'horologelaw12.MachineClock', WHERE WHAT IT READS IS OF BULK AT MOST 1048576: true; the input reads as it did. -/
def machineClockUptoRow : OpenClaim := { program := "ytmhbnkjajkcmkaagreat", sum := "83c38d38d42a76295a350aadc25db71c63a736292ee3b81200a211ac7bf20743", func := "horologe/horologelaw12.MachineClock", spec := "machineClock", inPlace := ["slices.overlaps[*horologe/index.item]", "slices.overlaps[*horologe/index.node]"], unfollowed := true, recurses := true, apart := false, narrowed := true }
def MachineClockUptoSaid : Prop := machineClockUptoRow.holds Tryz.pinned (OpenSpec.upto machineClockSpec)

/-- 'horologelaw12.MachineTurns', WHERE WHAT IT READS IS OF BULK AT MOST 1048576: true; the input reads as it did. -/
def machineTurnsUptoRow : OpenClaim := { program := "ytmhbnkjajkcmkaagreat", sum := "83c38d38d42a76295a350aadc25db71c63a736292ee3b81200a211ac7bf20743", func := "horologe/horologelaw12.MachineTurns", spec := "machineTurns", inPlace := ["slices.overlaps[*horologe/index.item]", "slices.overlaps[*horologe/index.node]"], unfollowed := true, recurses := true, apart := false, narrowed := true }
def MachineTurnsUptoSaid : Prop := machineTurnsUptoRow.holds Tryz.pinned (OpenSpec.upto machineTurnsSpec)

/-- 'horologelaw12.MachineTwins', WHERE WHAT IT READS IS OF BULK AT MOST 1048576: true; the input reads as it did. -/
def machineTwinsUptoRow : OpenClaim := { program := "ytmhbnkjajkcmkaagreat", sum := "83c38d38d42a76295a350aadc25db71c63a736292ee3b81200a211ac7bf20743", func := "horologe/horologelaw12.MachineTwins", spec := "machineTwins", inPlace := ["slices.overlaps[*horologe/index.item]", "slices.overlaps[*horologe/index.node]"], unfollowed := true, recurses := true, apart := false, narrowed := true }
def MachineTwinsUptoSaid : Prop := machineTwinsUptoRow.holds Tryz.pinned (OpenSpec.upto machineTwinsSpec)

/-- 'horologelaw12.MachineLoad', WHERE WHAT IT READS IS OF BULK AT MOST 1048576: true; the input reads as it did. -/
def machineLoadUptoRow : OpenClaim := { program := "ytmhbnkjajkcmkaagreat", sum := "83c38d38d42a76295a350aadc25db71c63a736292ee3b81200a211ac7bf20743", func := "horologe/horologelaw12.MachineLoad", spec := "machineLoad", inPlace := ["slices.overlaps[*horologe/index.item]", "slices.overlaps[*horologe/index.node]"], unfollowed := true, recurses := true, apart := false, narrowed := true }
def MachineLoadUptoSaid : Prop := machineLoadUptoRow.holds Tryz.pinned (OpenSpec.upto machineLoadSpec)

/-- 'horologelaw12.MachinePlays', WHERE WHAT IT READS IS OF BULK AT MOST 1048576: true; the input reads as it did. -/
def machinePlaysUptoRow : OpenClaim := { program := "ytmhbnkjajkcmkaagreat", sum := "83c38d38d42a76295a350aadc25db71c63a736292ee3b81200a211ac7bf20743", func := "horologe/horologelaw12.MachinePlays", spec := "machinePlays", inPlace := ["slices.overlaps[*horologe/index.item]", "slices.overlaps[*horologe/index.node]"], unfollowed := true, recurses := true, apart := false, narrowed := true }
def MachinePlaysUptoSaid : Prop := machinePlaysUptoRow.holds Tryz.pinned (OpenSpec.upto machinePlaysSpec)

end Rows
end Go.Proofs.YtmhbnkjajkcmkaaGreat
