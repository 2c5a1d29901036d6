/- The law MachineOnce holds where what it reads is of bulk at most 1048576: it answers true and leaves its arguments as they were. The bound is the one condition. -/
import Derived.Test.YtmhbnkjajkcmkaaGreatR70MachineOnceLawPG
import Derived.Test.YtmhbnkjajkcmkaaGreatRows
import Derived.JoinedCond
set_option linter.unusedSimpArgs false
set_option linter.unusedVariables false
set_option linter.unusedSectionVars false
set_option linter.unusedSimpArgs false
set_option linter.unusedVariables false
namespace Go.Proofs.YtmhbnkjajkcmkaaGreat
open Go.Hz
open Go.ChangeShapes Go.WideShapes Go.ChangeAt Go.RowKit
theorem ownMachineOnce : ownKnob Tryz.prog.godebug = none := by kernel_rfl
theorem laidOutMachineOnce : laidOutB Tryz.prog = true := by kernel_rfl
theorem oneMachineOnce {H : Type} (d : DataW H) : 1 ≤ Rows.uptoBulk d := by
  cases d with
  | lit l => cases l <;> simp [Rows.uptoBulk]
  | nil => simp [Rows.uptoBulk]
  | ptr d => simp [Rows.uptoBulk]
  | slice elems spare => simp [Rows.uptoBulk]
  | agg parts => simp [Rows.uptoBulk]
  | iface t d => simp [Rows.uptoBulk]
  | map entries => simp [Rows.uptoBulk]
  | held h => simp [Rows.uptoBulk]
/-- How much is read. -/
def bulkMachineOnce (H : Type) : Bulk H :=
  ⟨Rows.uptoBulk, Rows.uptoBulkAll, oneMachineOnce, fun l => by simp [Rows.uptoBulk], fun l r => by simp only [Rows.uptoBulk]; omega, fun l => by simp only [Rows.uptoBulk]; omega, fun d l => by simp only [Rows.uptoBulkAll]; omega⟩
set_option maxRecDepth 100000 in
theorem liftedMachineOnce (os : Os) (started : os.Started) (H : Type) (enc : TypeId × Value → H) (F : Stop.Interp) :
    ReturnsInHanded {} Tryz.checked os 4 .any ((Rows.OpenSpec.upto Rows.machineOnceSpec).pre6 enc Tryz.prog Tryz.f4 Rows.machineOnceUptoRow.domain false) (((Rows.OpenSpec.upto Rows.machineOnceSpec).at F).post enc Tryz.prog Tryz.f4 false true false false) := by
  refine returnsInHanded_of_cond (C := Tryz.checked) (s := Rows.OpenSpec.upto Rows.machineOnceSpec) (k := Rows.uptoSmall) rfl ownMachineOnce started (by kernel_rfl) Tryz.func4
    (OpenSpec.witness (enc := enc) (C := Tryz.checked) (s := Rows.OpenSpec.upto Rows.machineOnceSpec) (k := Rows.uptoSmall) rfl false ⟨#[], #[.slice none 0 0, .slice none 0 0], []⟩ 8 (by kernel_rfl) (by kernel_rfl) (by kernel_rfl)
      (x := ([.nil, .nil], [], [])) (by kernel_rfl) rfl (by kernel_rfl)) ?_
  intro W base args ds gs before hval hW _ hk _
  have hg : gs = [] := by
    obtain ⟨p, q, hA, hV, _⟩ := hW
    exact (trodVars_none hV).1
  subst hg
  rw [List.append_nil] at hk
  have hN : Rows.uptoBulkAll ds ≤ 1048576 := of_decide_eq_true hk
  change Calls Tryz.prog 4 args W fun e W' => ∃ v, e = .returned v ∧ Rows.machineOnceSpec.post enc Tryz.prog Tryz.f4 false true false false W args v W'
  refine law_contract (P := Tryz.prog) (ts := [43, 44]) (bulkMachineOnce H) [(.sl (.st (.fcons (.int .i64) (.fcons (.int .i64) (.fcons (.int .i64) (.fcons (.st (.fcons (.sl (.st (.fcons .str (.fcons (.int .i64) (.fcons (.int .i64) (.fcons (.int .i64) (.fcons .str .fnil))))))) (.fcons (.sl (.st (.fcons (.int .i64) (.fcons .str (.fcons .str (.fcons .str (.fcons (.int .i64) (.fcons (.int .i64) .fnil)))))))) (.fcons (.sl (.st (.fcons (.int .i64) (.fcons .str (.fcons .str (.fcons .str (.fcons (.int .i64) (.fcons (.int .i64) .fnil)))))))) .fnil)))) (.fcons (.int .i64) (.fcons (.int .i64) (.fcons (.int .i64) (.fcons (.int .i64) .fnil)))))))))), (.sl (.int .i64))] rfl (by rw [Tryz.params4]) rfl rfl Tryz.underlying4 (by kernel_rfl) laidOutMachineOnce (by kernel_rfl) (fun ds hds => ?_) hval hW hN machineOnce_law
  match ds, hds with
  | [d0, d1], _ => rfl
theorem machineOnceUpto_holds : Rows.MachineOnceUptoSaid :=
  OpenClaim.holds_of_cond 4 Tryz.f4 rfl rfl rfl rfl rfl rfl rfl ⟨rfl, rfl, rfl, rfl, rfl⟩ rfl rfl rfl rfl rfl (by kernel_rfl) Tryz.func4 closedMachineOnce
    (of_decide_eq_true (by kernel_rfl)) (by unfold Func.isWrapper; first | (rw [if_pos (by decide +kernel)]; kernel_rfl) | (rw [if_neg (by decide +kernel)]; exact ⟨rfl, rfl⟩))
    (fun os started H enc _ F => liftedMachineOnce os started H enc F)
#print axioms machineOnceUpto_holds
end Go.Proofs.YtmhbnkjajkcmkaaGreat
