/- The law FolkPlays holds for every input: it answers true and leaves its arguments as they were. No condition. -/
import Derived.Test.YtbaokmcljlfhnaaR31FolkPlaysLawPE
import Derived.Test.YtbaokmcljlfhnaaRows
import Derived.JoinedCond
import Derived.SizedLaws
set_option linter.unusedSimpArgs false
set_option linter.unusedVariables false
namespace Go.Proofs.Ytbaokmcljlfhnaa
open Go.Hz
open Go.ChangeShapes Go.WideShapes Go.ChangeAt Go.RowKit

theorem ownFolkPlays : ownKnob Try.prog.godebug = none := by kernel_rfl
theorem laidOutFolkPlays : laidOutB Try.prog = true := by kernel_rfl
theorem oneFolkPlays {H : Type} (d : DataW H) : 1 ≤ Rows.uptoBulk d := by
  cases d with
  | lit l => cases l <;> simp [Rows.uptoBulk]
  | nil => simp [Rows.uptoBulk]
  | ptr d => simp [Rows.uptoBulk]
  | slice elems spare => simp [Rows.uptoBulk]
  | agg parts => simp [Rows.uptoBulk]
  | iface t d => simp [Rows.uptoBulk]
  | map entries => simp [Rows.uptoBulk]
  | held h => simp [Rows.uptoBulk]
/-- How much is read. -/
def bulkFolkPlays (H : Type) : Bulk H :=
  ⟨Rows.uptoBulk, Rows.uptoBulkAll, oneFolkPlays, fun l => by simp [Rows.uptoBulk], fun l r => by simp only [Rows.uptoBulk]; omega, fun l => by simp only [Rows.uptoBulk]; omega, fun d l => by simp only [Rows.uptoBulkAll]; omega⟩

set_option maxRecDepth 100000 in
theorem liftedFolkPlays (os : Os) (started : os.Started) (H : Type) (enc : TypeId × Value → H) :
    ReturnsInHanded {} Try.checked os 3 .any (Rows.folkPlaysSpec.pre6 enc Try.prog Try.f3 Rows.folkPlaysRow.domain false) (Rows.folkPlaysSpec.post enc Try.prog Try.f3 false true false false) := by
  refine returnsInHanded_of_change_sized (C := Try.checked) ownFolkPlays started (by kernel_rfl) Try.func3
    (ChangeSpec.witness6 (enc := enc) (C := Try.checked) false ⟨#[], #[.slice none 0 0], []⟩ 8 (by kernel_rfl) (by kernel_rfl) (by kernel_rfl) (by kernel_rfl)) ?_
  intro W base args ds gs before hval hW hcnd hsz _
  refine law_contract_sized (P := Try.prog) (ts := [22]) (bulkFolkPlays H) [(.sl (.st (.fcons (.int .i64) (.fcons (.int .i64) (.fcons .bool (.fcons (.st (.fcons (.int .i64) (.fcons (.int .i64) (.fcons .bool (.fcons (.sl (.st (.fcons (.int .i64) (.fcons (.sl (.st (.fcons .str (.fcons .str (.fcons (.int .i64) (.fcons (.int .i64) (.fcons (.int .i64) (.fcons (.int .i64) .fnil)))))))) .fnil)))) (.fcons (.int .i64) .fnil)))))) .fnil))))))] rfl (by rw [Try.params3]) rfl rfl Try.underlying4 (by kernel_rfl) laidOutFolkPlays (by kernel_rfl) (fun ds hds => ?_) hval hW (Nat.le_refl _) (M := reachBytes) (fun n hn => by simpa using List.all_eq_true.1 hsz n hn) (fun vs h _ hm => folkPlays_law vs h hm)
  match ds, hds with
  | [d0], _ => rfl

theorem folkPlays_holds : Rows.FolkPlaysSaid :=
  OpenClaim.holds_of_wide 3 Try.f3 rfl rfl rfl rfl rfl rfl rfl ⟨rfl, rfl, rfl, rfl, rfl⟩ rfl rfl rfl rfl rfl (by kernel_rfl) Try.func3 (by kernel_rfl)
    (of_decide_eq_true (by kernel_rfl)) (by unfold Func.isWrapper; first | (rw [if_pos (by decide +kernel)]; kernel_rfl) | (rw [if_neg (by decide +kernel)]; exact ⟨rfl, rfl⟩))
    (fun os started H enc _ => liftedFolkPlays os started H enc)
#print axioms folkPlays_holds
end Go.Proofs.Ytbaokmcljlfhnaa
