/- The law TxnRefuses holds for every input: it answers true and leaves its arguments as they were. No condition. -/
import Derived.Test.YthdlaodfdabjlaaR6TxnRefusesLawPE
import Derived.Test.YthdlaodfdabjlaaRows
import Derived.JoinedCond
set_option linter.unusedSimpArgs false
set_option linter.unusedVariables false
namespace Go.Proofs.Ythdlaodfdabjlaa
open Go.Hz
open Go.ChangeShapes Go.WideShapes Go.ChangeAt Go.RowKit

theorem ownTxnRefuses : ownKnob Try.prog.godebug = none := by kernel_rfl
theorem laidOutTxnRefuses : laidOutB Try.prog = true := by kernel_rfl
theorem oneTxnRefuses {H : Type} (d : DataW H) : 1 ≤ Rows.uptoBulk d := by
  cases d with
  | lit l => cases l <;> simp [Rows.uptoBulk]
  | nil => simp [Rows.uptoBulk]
  | ptr d => simp [Rows.uptoBulk]
  | slice elems spare => simp [Rows.uptoBulk]
  | agg parts => simp [Rows.uptoBulk]
  | iface t d => simp [Rows.uptoBulk]
  | map entries => simp [Rows.uptoBulk]
  | held h => simp [Rows.uptoBulk]
/-- How much is read. -/
def bulkTxnRefuses (H : Type) : Bulk H :=
  ⟨Rows.uptoBulk, Rows.uptoBulkAll, oneTxnRefuses, fun l => by simp [Rows.uptoBulk], fun l r => by simp only [Rows.uptoBulk]; omega, fun l => by simp only [Rows.uptoBulk]; omega, fun d l => by simp only [Rows.uptoBulkAll]; omega⟩

set_option maxRecDepth 100000 in
theorem liftedTxnRefuses (os : Os) (started : os.Started) (H : Type) (enc : TypeId × Value → H) :
    ReturnsInHanded {} Try.checked os 6 .any (Rows.txnRefusesSpec.pre6 enc Try.prog Try.f6 Rows.txnRefusesRow.domain false) (Rows.txnRefusesSpec.post enc Try.prog Try.f6 false true false false) := by
  refine returnsInHanded_of_change (C := Try.checked) ownTxnRefuses started (by kernel_rfl) Try.func6
    (ChangeSpec.witness6 (enc := enc) (C := Try.checked) false ⟨#[], #[.int .i64 0], []⟩ 8 (by kernel_rfl) (by kernel_rfl) (by kernel_rfl) (by kernel_rfl)) ?_
  intro W base args ds gs before hval hW hcnd _
  refine law_contract (P := Try.prog) (ts := [3]) (bulkTxnRefuses H) [(.int .i64)] rfl (by rw [Try.params6]) rfl rfl Try.underlying4 (by kernel_rfl) laidOutTxnRefuses (by kernel_rfl) (fun ds hds => ?_) hval hW (Nat.le_refl _) (fun vs h _ => txnRefuses_law vs h)
  match ds, hds with
  | [d0], _ => rfl

theorem txnRefuses_holds : Rows.TxnRefusesSaid :=
  OpenClaim.holds_of_wide 6 Try.f6 rfl rfl rfl rfl rfl rfl rfl ⟨rfl, rfl, rfl, rfl, rfl⟩ rfl rfl rfl rfl rfl (by kernel_rfl) Try.func6 (by kernel_rfl)
    (of_decide_eq_true (by kernel_rfl)) (by unfold Func.isWrapper; first | (rw [if_pos (by decide +kernel)]; kernel_rfl) | (rw [if_neg (by decide +kernel)]; exact ⟨rfl, rfl⟩))
    (fun os started H enc _ => liftedTxnRefuses os started H enc)
#print axioms txnRefuses_holds
end Go.Proofs.Ythdlaodfdabjlaa
