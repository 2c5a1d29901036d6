/- The law TxnLong holds for every input: it answers true and leaves its arguments as they were. No condition. -/
import Derived.Test.YthdlaodfdabjlaaR6TxnLongLawPE
import Derived.Test.YthdlaodfdabjlaaRows
import Derived.JoinedCond
set_option linter.unusedSimpArgs false
set_option linter.unusedVariables false
namespace Go.Proofs.Ythdlaodfdabjlaa
open Go.Hz
open Go.ChangeShapes Go.WideShapes Go.ChangeAt Go.RowKit

theorem ownTxnLong : ownKnob Try.prog.godebug = none := by kernel_rfl
theorem laidOutTxnLong : laidOutB Try.prog = true := by kernel_rfl
theorem oneTxnLong {H : Type} (d : DataW H) : 1 ≤ Rows.uptoBulk d := by
  cases d with
  | lit l => cases l <;> simp [Rows.uptoBulk]
  | nil => simp [Rows.uptoBulk]
  | ptr d => simp [Rows.uptoBulk]
  | slice elems spare => simp [Rows.uptoBulk]
  | agg parts => simp [Rows.uptoBulk]
  | iface t d => simp [Rows.uptoBulk]
  | map entries => simp [Rows.uptoBulk]
  | held h => simp [Rows.uptoBulk]
/-- How much is read. -/
def bulkTxnLong (H : Type) : Bulk H :=
  ⟨Rows.uptoBulk, Rows.uptoBulkAll, oneTxnLong, fun l => by simp [Rows.uptoBulk], fun l r => by simp only [Rows.uptoBulk]; omega, fun l => by simp only [Rows.uptoBulk]; omega, fun d l => by simp only [Rows.uptoBulkAll]; omega⟩

set_option maxRecDepth 100000 in
theorem liftedTxnLong (os : Os) (started : os.Started) (H : Type) (enc : TypeId × Value → H) :
    ReturnsInHanded {} Try.checked os 7 .any (Rows.txnLongSpec.pre6 enc Try.prog Try.f7 Rows.txnLongRow.domain false) (Rows.txnLongSpec.post enc Try.prog Try.f7 false true false false) := by
  refine returnsInHanded_of_change (C := Try.checked) ownTxnLong started (by kernel_rfl) Try.func7
    (ChangeSpec.witness6 (enc := enc) (C := Try.checked) false ⟨#[], #[.int .i64 0], []⟩ 8 (by kernel_rfl) (by kernel_rfl) (by kernel_rfl) (by kernel_rfl)) ?_
  intro W base args ds gs before hval hW hcnd _
  refine law_contract (P := Try.prog) (ts := [3]) (bulkTxnLong H) [(.int .i64)] rfl (by rw [Try.params7]) rfl rfl Try.underlying4 (by kernel_rfl) laidOutTxnLong (by kernel_rfl) (fun ds hds => ?_) hval hW (Nat.le_refl _) (fun vs h _ => txnLong_law vs h)
  match ds, hds with
  | [d0], _ => rfl

theorem txnLong_holds : Rows.TxnLongSaid :=
  OpenClaim.holds_of_wide 7 Try.f7 rfl rfl rfl rfl rfl rfl rfl ⟨rfl, rfl, rfl, rfl, rfl⟩ rfl rfl rfl rfl rfl (by kernel_rfl) Try.func7 (by kernel_rfl)
    (of_decide_eq_true (by kernel_rfl)) (by unfold Func.isWrapper; first | (rw [if_pos (by decide +kernel)]; kernel_rfl) | (rw [if_neg (by decide +kernel)]; exact ⟨rfl, rfl⟩))
    (fun os started H enc _ => liftedTxnLong os started H enc)
#print axioms txnLong_holds
end Go.Proofs.Ythdlaodfdabjlaa
