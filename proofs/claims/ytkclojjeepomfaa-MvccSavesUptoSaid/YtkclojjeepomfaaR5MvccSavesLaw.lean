/- The law MvccSaves holds where what it reads is of bulk at most 1048576: it answers true and leaves its arguments as they were. The bound is the one condition. -/
import Derived.Test.YtkclojjeepomfaaR5MvccSavesLawPE
import Derived.Test.YtkclojjeepomfaaRows
import Derived.JoinedCond
set_option linter.unusedSimpArgs false
set_option linter.unusedVariables false
namespace Go.Proofs.Ytkclojjeepomfaa
open Go.Hz
open Go.ChangeShapes Go.WideShapes Go.ChangeAt Go.RowKit

theorem ownMvccSaves : ownKnob Try.prog.godebug = none := by kernel_rfl
theorem laidOutMvccSaves : laidOutB Try.prog = true := by kernel_rfl
theorem oneMvccSaves {H : Type} (d : DataW H) : 1 ≤ Rows.uptoBulk d := by
  cases d with
  | lit l => cases l <;> simp [Rows.uptoBulk]
  | nil => simp [Rows.uptoBulk]
  | ptr d => simp [Rows.uptoBulk]
  | slice elems spare => simp [Rows.uptoBulk]
  | agg parts => simp [Rows.uptoBulk]
  | iface t d => simp [Rows.uptoBulk]
  | map entries => simp [Rows.uptoBulk]
  | held h => simp [Rows.uptoBulk]
/-- How much is read. -/
def bulkMvccSaves (H : Type) : Bulk H :=
  ⟨Rows.uptoBulk, Rows.uptoBulkAll, oneMvccSaves, fun l => by simp [Rows.uptoBulk], fun l r => by simp only [Rows.uptoBulk]; omega, fun l => by simp only [Rows.uptoBulk]; omega, fun d l => by simp only [Rows.uptoBulkAll]; omega⟩

set_option maxRecDepth 100000 in
theorem liftedMvccSaves (os : Os) (started : os.Started) (H : Type) (enc : TypeId × Value → H) (F : Stop.Interp) :
    ReturnsInHanded {} Try.checked os 9 .any ((Rows.OpenSpec.upto Rows.mvccSavesSpec).pre6 enc Try.prog Try.f9 Rows.mvccSavesUptoRow.domain false) (((Rows.OpenSpec.upto Rows.mvccSavesSpec).at F).post enc Try.prog Try.f9 false true false false) := by
  refine returnsInHanded_of_cond (C := Try.checked) (s := Rows.OpenSpec.upto Rows.mvccSavesSpec) (k := Rows.uptoSmall) rfl ownMvccSaves started (by kernel_rfl) Try.func9
    (OpenSpec.witness (enc := enc) (C := Try.checked) (s := Rows.OpenSpec.upto Rows.mvccSavesSpec) (k := Rows.uptoSmall) rfl false ⟨#[], #[.slice none 0 0, .int .i64 0, .slice none 0 0], []⟩ 8 (by kernel_rfl) (by kernel_rfl) (by kernel_rfl)
      (x := ([.nil, .lit (.int .i64 0), .nil], [], [])) (by kernel_rfl) rfl (by kernel_rfl)) ?_
  intro W base args ds gs before hval hW _ hk _
  have hg : gs = [] := by
    obtain ⟨p, q, hA, hV, _⟩ := hW
    exact (trodVars_none hV).1
  subst hg
  rw [List.append_nil] at hk
  have hN : Rows.uptoBulkAll ds ≤ 1048576 := of_decide_eq_true hk
  change Calls Try.prog 9 args W fun e W' => ∃ v, e = .returned v ∧ Rows.mvccSavesSpec.post enc Try.prog Try.f9 false true false false W args v W'
  refine law_contract (P := Try.prog) (ts := [43, 3, 28]) (bulkMvccSaves H) [(.sl (.st (.fcons (.int .i64) (.fcons (.int .i64) (.fcons (.int .i64) (.fcons .str (.fcons .str (.fcons (.sl (.st (.fcons (.int .i64) (.fcons (.int .i64) (.fcons .str (.fcons .str (.fcons .str .fnil))))))) .fnil)))))))), (.int .i64), (.sl (.int .u8))] rfl (by rw [Try.params9]) rfl rfl Try.underlying4 (by kernel_rfl) laidOutMvccSaves (by kernel_rfl) (fun ds hds => ?_) hval hW hN mvccSaves_law
  match ds, hds with
  | [d0, d1, d2], _ => rfl

theorem mvccSavesUpto_holds : Rows.MvccSavesUptoSaid :=
  OpenClaim.holds_of_cond 9 Try.f9 rfl rfl rfl rfl rfl rfl rfl ⟨rfl, rfl, rfl, rfl, rfl⟩ rfl rfl rfl rfl rfl (by kernel_rfl) Try.func9 (by kernel_rfl)
    (of_decide_eq_true (by kernel_rfl)) (by unfold Func.isWrapper; first | (rw [if_pos (by decide +kernel)]; kernel_rfl) | (rw [if_neg (by decide +kernel)]; exact ⟨rfl, rfl⟩))
    (fun os started H enc _ F => liftedMvccSaves os started H enc F)
#print axioms mvccSavesUpto_holds
end Go.Proofs.Ytkclojjeepomfaa
