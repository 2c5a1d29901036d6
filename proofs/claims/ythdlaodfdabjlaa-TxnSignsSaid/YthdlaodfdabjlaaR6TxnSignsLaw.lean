/- The law TxnSigns holds for every input: it answers true and leaves its arguments as they were. No condition. -/
import Derived.Test.YthdlaodfdabjlaaR6TxnSignsLawPE
import Derived.Test.YthdlaodfdabjlaaRows
import Derived.JoinedCond
import Derived.SizedLaws
set_option linter.unusedSimpArgs false
set_option linter.unusedVariables false
namespace Go.Proofs.Ythdlaodfdabjlaa
open Go.Hz
open Go.ChangeShapes Go.WideShapes Go.ChangeAt Go.RowKit

theorem ownTxnSigns : ownKnob Try.prog.godebug = none := by kernel_rfl
theorem laidOutTxnSigns : laidOutB Try.prog = true := by kernel_rfl
theorem oneTxnSigns {H : Type} (d : DataW H) : 1 ≤ Rows.uptoBulk d := by
  cases d with
  | lit l => cases l <;> simp [Rows.uptoBulk]
  | nil => simp [Rows.uptoBulk]
  | ptr d => simp [Rows.uptoBulk]
  | slice elems spare => simp [Rows.uptoBulk]
  | agg parts => simp [Rows.uptoBulk]
  | iface t d => simp [Rows.uptoBulk]
  | map entries => simp [Rows.uptoBulk]
  | held h => simp [Rows.uptoBulk]
/-- How much is read. -/
def bulkTxnSigns (H : Type) : Bulk H :=
  ⟨Rows.uptoBulk, Rows.uptoBulkAll, oneTxnSigns, fun l => by simp [Rows.uptoBulk], fun l r => by simp only [Rows.uptoBulk]; omega, fun l => by simp only [Rows.uptoBulk]; omega, fun d l => by simp only [Rows.uptoBulkAll]; omega⟩

set_option maxRecDepth 100000 in
theorem liftedTxnSigns (os : Os) (started : os.Started) (H : Type) (enc : TypeId × Value → H) :
    ReturnsInHanded {} Try.checked os 4 .any (Rows.txnSignsSpec.pre6 enc Try.prog Try.f4 Rows.txnSignsRow.domain false) (Rows.txnSignsSpec.post enc Try.prog Try.f4 false true false false) := by
  refine returnsInHanded_of_change_sized (C := Try.checked) ownTxnSigns started (by kernel_rfl) Try.func4
    (ChangeSpec.witness6 (enc := enc) (C := Try.checked) false ⟨#[], #[.string ⟨#[]⟩, .string ⟨#[]⟩, .int .i64 0], []⟩ 8 (by kernel_rfl) (by kernel_rfl) (by kernel_rfl) (by kernel_rfl)) ?_
  intro W base args ds gs before hval hW hcnd hsz _
  refine law_contract_sized (P := Try.prog) (ts := [9, 9, 3]) (bulkTxnSigns H) [.str, .str, (.int .i64)] rfl (by rw [Try.params4]) rfl rfl Try.underlying4 (by kernel_rfl) laidOutTxnSigns (by kernel_rfl) (fun ds hds => ?_) hval hW (Nat.le_refl _) (M := reachBytes) (fun n hn => by simpa using List.all_eq_true.1 hsz n hn) (fun vs h _ hm => txnSigns_law vs h hm)
  match ds, hds with
  | [d0, d1, d2], _ => rfl

theorem txnSigns_holds : Rows.TxnSignsSaid :=
  OpenClaim.holds_of_wide 4 Try.f4 rfl rfl rfl rfl rfl rfl rfl ⟨rfl, rfl, rfl, rfl, rfl⟩ rfl rfl rfl rfl rfl (by kernel_rfl) Try.func4 (by kernel_rfl)
    (of_decide_eq_true (by kernel_rfl)) (by unfold Func.isWrapper; first | (rw [if_pos (by decide +kernel)]; kernel_rfl) | (rw [if_neg (by decide +kernel)]; exact ⟨rfl, rfl⟩))
    (fun os started H enc _ => liftedTxnSigns os started H enc)
#print axioms txnSigns_holds
end Go.Proofs.Ythdlaodfdabjlaa
