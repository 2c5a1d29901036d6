/- The law MvccRanges holds for every input: it answers true and leaves its arguments as they were. No condition. -/
import Derived.Test.YtkclojjeepomfaaR5MvccRangesLawPF
import Derived.Test.YtkclojjeepomfaaRows
import Derived.JoinedCond
import Derived.SizedLaws
set_option linter.unusedSimpArgs false
set_option linter.unusedVariables false
namespace Go.Proofs.Ytkclojjeepomfaa
open Go.Hz
open Go.ChangeShapes Go.WideShapes Go.ChangeAt Go.RowKit

theorem ownMvccRanges : ownKnob Try.prog.godebug = none := by kernel_rfl
theorem laidOutMvccRanges : laidOutB Try.prog = true := by kernel_rfl
theorem oneMvccRanges {H : Type} (d : DataW H) : 1 ≤ Rows.uptoBulk d := by
  cases d with
  | lit l => cases l <;> simp [Rows.uptoBulk]
  | nil => simp [Rows.uptoBulk]
  | ptr d => simp [Rows.uptoBulk]
  | slice elems spare => simp [Rows.uptoBulk]
  | agg parts => simp [Rows.uptoBulk]
  | iface t d => simp [Rows.uptoBulk]
  | map entries => simp [Rows.uptoBulk]
  | held h => simp [Rows.uptoBulk]
/-- How much is read. -/
def bulkMvccRanges (H : Type) : Bulk H :=
  ⟨Rows.uptoBulk, Rows.uptoBulkAll, oneMvccRanges, fun l => by simp [Rows.uptoBulk], fun l r => by simp only [Rows.uptoBulk]; omega, fun l => by simp only [Rows.uptoBulk]; omega, fun d l => by simp only [Rows.uptoBulkAll]; omega⟩

set_option maxRecDepth 100000 in
theorem liftedMvccRanges (os : Os) (started : os.Started) (H : Type) (enc : TypeId × Value → H) :
    ReturnsInHanded {} Try.checked os 5 .any (Rows.mvccRangesSpec.pre6 enc Try.prog Try.f5 Rows.mvccRangesRow.domain false) (Rows.mvccRangesSpec.post enc Try.prog Try.f5 false true false false) := by
  refine returnsInHanded_of_change_sized (C := Try.checked) ownMvccRanges started (by kernel_rfl) Try.func5
    (ChangeSpec.witness6 (enc := enc) (C := Try.checked) false ⟨#[], #[.slice none 0 0, .string ⟨#[]⟩, .string ⟨#[]⟩, .int .i64 0], []⟩ 8 (by kernel_rfl) (by kernel_rfl) (by kernel_rfl) (by kernel_rfl)) ?_
  intro W base args ds gs before hval hW hcnd hsz _
  refine law_contract_sized (P := Try.prog) (ts := [41, 9, 9, 3]) (bulkMvccRanges H) [(.sl .str), .str, .str, (.int .i64)] rfl (by rw [Try.params5]) rfl rfl Try.underlying4 (by kernel_rfl) laidOutMvccRanges (by kernel_rfl) (fun ds hds => ?_) hval hW (Nat.le_refl _) (M := reachBytes) (fun n hn => by simpa using List.all_eq_true.1 hsz n hn) (fun vs h _ hm => mvccRanges_law vs h hm)
  match ds, hds with
  | [d0, d1, d2, d3], _ => rfl

theorem mvccRanges_holds : Rows.MvccRangesSaid :=
  OpenClaim.holds_of_wide 5 Try.f5 rfl rfl rfl rfl rfl rfl rfl ⟨rfl, rfl, rfl, rfl, rfl⟩ rfl rfl rfl rfl rfl (by kernel_rfl) Try.func5 (by kernel_rfl)
    (of_decide_eq_true (by kernel_rfl)) (by unfold Func.isWrapper; first | (rw [if_pos (by decide +kernel)]; kernel_rfl) | (rw [if_neg (by decide +kernel)]; exact ⟨rfl, rfl⟩))
    (fun os started H enc _ => liftedMvccRanges os started H enc)
#print axioms mvccRanges_holds
end Go.Proofs.Ytkclojjeepomfaa
