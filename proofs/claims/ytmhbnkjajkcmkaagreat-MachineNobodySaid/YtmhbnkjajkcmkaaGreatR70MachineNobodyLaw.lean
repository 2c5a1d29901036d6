/- The law MachineNobody holds for every input: it answers true and leaves its arguments as they were. No condition. -/
import Derived.Test.YtmhbnkjajkcmkaaGreatR70MachineNobodyLawPE
import Derived.Test.YtmhbnkjajkcmkaaGreatRows
import Derived.JoinedCond
set_option linter.unusedSimpArgs false
set_option linter.unusedVariables false
namespace Go.Proofs.YtmhbnkjajkcmkaaGreat
open Go.Hz
open Go.ChangeShapes Go.WideShapes Go.ChangeAt Go.RowKit

theorem ownMachineNobody : ownKnob Tryz.prog.godebug = none := by kernel_rfl
theorem laidOutMachineNobody : laidOutB Tryz.prog = true := by kernel_rfl
theorem oneMachineNobody {H : Type} (d : DataW H) : 1 ≤ Rows.uptoBulk d := by
  cases d with
  | lit l => cases l <;> simp [Rows.uptoBulk]
  | nil => simp [Rows.uptoBulk]
  | ptr d => simp [Rows.uptoBulk]
  | slice elems spare => simp [Rows.uptoBulk]
  | agg parts => simp [Rows.uptoBulk]
  | iface t d => simp [Rows.uptoBulk]
  | map entries => simp [Rows.uptoBulk]
  | held h => simp [Rows.uptoBulk]
/-- How much is read. -/
def bulkMachineNobody (H : Type) : Bulk H :=
  ⟨Rows.uptoBulk, Rows.uptoBulkAll, oneMachineNobody, fun l => by simp [Rows.uptoBulk], fun l r => by simp only [Rows.uptoBulk]; omega, fun l => by simp only [Rows.uptoBulk]; omega, fun d l => by simp only [Rows.uptoBulkAll]; omega⟩

set_option maxRecDepth 100000 in
theorem liftedMachineNobody (os : Os) (started : os.Started) (H : Type) (enc : TypeId × Value → H) :
    ReturnsInHanded {} Tryz.checked os 3 .any (Rows.machineNobodySpec.pre6 enc Tryz.prog Tryz.f3 Rows.machineNobodyRow.domain false) (Rows.machineNobodySpec.post enc Tryz.prog Tryz.f3 false true false false) := by
  refine returnsInHanded_of_change (C := Tryz.checked) ownMachineNobody started (by kernel_rfl) Tryz.func3
    (ChangeSpec.witness6 (enc := enc) (C := Tryz.checked) false ⟨#[], #[.int .i64 0, .int .i64 0], []⟩ 8 (by kernel_rfl) (by kernel_rfl) (by kernel_rfl) (by kernel_rfl)) ?_
  intro W base args ds gs before hval hW hcnd _
  refine law_contract (P := Tryz.prog) (ts := [3, 3]) (bulkMachineNobody H) [(.int .i64), (.int .i64)] rfl (by rw [Tryz.params3]) rfl rfl Tryz.underlying4 (by kernel_rfl) laidOutMachineNobody (by kernel_rfl) (fun ds hds => ?_) hval hW (Nat.le_refl _) (fun vs h _ => machineNobody_law vs h)
  match ds, hds with
  | [d0, d1], _ => rfl

theorem machineNobody_holds : Rows.MachineNobodySaid :=
  OpenClaim.holds_of_wide 3 Tryz.f3 rfl rfl rfl rfl rfl rfl rfl ⟨rfl, rfl, rfl, rfl, rfl⟩ rfl rfl rfl rfl rfl (by kernel_rfl) Tryz.func3 (by kernel_rfl)
    (of_decide_eq_true (by kernel_rfl)) (by unfold Func.isWrapper; first | (rw [if_pos (by decide +kernel)]; kernel_rfl) | (rw [if_neg (by decide +kernel)]; exact ⟨rfl, rfl⟩))
    (fun os started H enc _ => liftedMachineNobody os started H enc)
#print axioms machineNobody_holds
end Go.Proofs.YtmhbnkjajkcmkaaGreat
