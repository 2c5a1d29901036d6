/- The law MachineLeases holds for every input: it answers true and leaves its arguments as they were. No condition. -/
import Derived.Test.YtmhbnkjajkcmkaaGreatR70MachineLeasesLawPF
import Derived.Test.YtmhbnkjajkcmkaaGreatRows
import Derived.JoinedCond
set_option linter.unusedSimpArgs false
set_option linter.unusedVariables false
set_option linter.unusedSectionVars false
set_option linter.unusedSimpArgs false
set_option linter.unusedVariables false
namespace Go.Proofs.YtmhbnkjajkcmkaaGreat
open Go.Hz
open Go.ChangeShapes Go.WideShapes Go.ChangeAt Go.RowKit
theorem ownMachineLeases : ownKnob Tryz.prog.godebug = none := by kernel_rfl
theorem laidOutMachineLeases : laidOutB Tryz.prog = true := by kernel_rfl
theorem oneMachineLeases {H : Type} (d : DataW H) : 1 ≤ Rows.uptoBulk d := by
  cases d with
  | lit l => cases l <;> simp [Rows.uptoBulk]
  | nil => simp [Rows.uptoBulk]
  | ptr d => simp [Rows.uptoBulk]
  | slice elems spare => simp [Rows.uptoBulk]
  | agg parts => simp [Rows.uptoBulk]
  | iface t d => simp [Rows.uptoBulk]
  | map entries => simp [Rows.uptoBulk]
  | held h => simp [Rows.uptoBulk]
/-- How much is read. -/
def bulkMachineLeases (H : Type) : Bulk H :=
  ⟨Rows.uptoBulk, Rows.uptoBulkAll, oneMachineLeases, fun l => by simp [Rows.uptoBulk], fun l r => by simp only [Rows.uptoBulk]; omega, fun l => by simp only [Rows.uptoBulk]; omega, fun d l => by simp only [Rows.uptoBulkAll]; omega⟩
set_option maxRecDepth 100000 in
theorem liftedMachineLeases (os : Os) (started : os.Started) (H : Type) (enc : TypeId × Value → H) :
    ReturnsInHanded {} Tryz.checked os 5 .any (Rows.machineLeasesSpec.pre6 enc Tryz.prog Tryz.f5 Rows.machineLeasesRow.domain false) (Rows.machineLeasesSpec.post enc Tryz.prog Tryz.f5 false true false false) := by
  refine returnsInHanded_of_change (C := Tryz.checked) ownMachineLeases started (by kernel_rfl) Tryz.func5
    (ChangeSpec.witness6 (enc := enc) (C := Tryz.checked) false ⟨#[], #[.int .i64 0, .slice none 0 0, .int .i64 0, .bool false], []⟩ 8 (by kernel_rfl) (by kernel_rfl) (by kernel_rfl) (by kernel_rfl)) ?_
  intro W base args ds gs before hval hW hcnd _
  refine law_contract (P := Tryz.prog) (ts := [3, 44, 3, 4]) (bulkMachineLeases H) [(.int .i64), (.sl (.int .i64)), (.int .i64), .bool] rfl (by rw [Tryz.params5]) rfl rfl Tryz.underlying4 (by kernel_rfl) laidOutMachineLeases (by kernel_rfl) (fun ds hds => ?_) hval hW (Nat.le_refl _) (fun vs h _ => machineLeases_law vs h)
  match ds, hds with
  | [d0, d1, d2, d3], _ => rfl
theorem machineLeases_holds : Rows.MachineLeasesSaid :=
  OpenClaim.holds_of_wide 5 Tryz.f5 rfl rfl rfl rfl rfl rfl rfl ⟨rfl, rfl, rfl, rfl, rfl⟩ rfl rfl rfl rfl rfl (by kernel_rfl) Tryz.func5 (by kernel_rfl)
    (of_decide_eq_true (by kernel_rfl)) (by unfold Func.isWrapper; first | (rw [if_pos (by decide +kernel)]; kernel_rfl) | (rw [if_neg (by decide +kernel)]; exact ⟨rfl, rfl⟩))
    (fun os started H enc _ => liftedMachineLeases os started H enc)
#print axioms machineLeases_holds
end Go.Proofs.YtmhbnkjajkcmkaaGreat
