/- What is looked up of the law MachineOnce in the program. -/
import Derived.Test.YtmhbnkjajkcmkaaGreatR70MachineOnceLawPC
import Derived.Test.YtmhbnkjajkcmkaaGreatRows
import Derived.JoinedCond
set_option linter.unusedSimpArgs false
set_option linter.unusedVariables false
set_option linter.unusedSectionVars false
namespace Go.Proofs.YtmhbnkjajkcmkaaGreat
open Go.ChangeShapes Go.WideShapes Go.ChangeAt
theorem closedMachineOnce : joinedFacts Tryz.prog 4 Tryz.f4 (Rows.OpenSpec.upto Rows.machineOnceSpec).bare Rows.machineOnceUptoRow = true:=by kernel_rfl
end Go.Proofs.YtmhbnkjajkcmkaaGreat
