/- The law WatchFronts holds where what it reads is of bulk at most 1048576: it answers true and leaves its arguments as they were. The bound is the one condition. -/
import Derived.Test.YtaioncbpfckhaaaR4WatchFrontsLawPE
import Derived.Test.YtaioncbpfckhaaaRows
import Derived.JoinedCond
set_option linter.unusedSimpArgs false
set_option linter.unusedVariables false
namespace Go.Proofs.Ytaioncbpfckhaaa
open Go.Hz
open Go.ChangeShapes Go.WideShapes Go.ChangeAt Go.RowKit

theorem ownWatchFronts : ownKnob Try.prog.godebug = none := by kernel_rfl
theorem laidOutWatchFronts : laidOutB Try.prog = true := by kernel_rfl
theorem oneWatchFronts {H : Type} (d : DataW H) : 1 ≤ Rows.uptoBulk d := by
  cases d with
  | lit l => cases l <;> simp [Rows.uptoBulk]
  | nil => simp [Rows.uptoBulk]
  | ptr d => simp [Rows.uptoBulk]
  | slice elems spare => simp [Rows.uptoBulk]
  | agg parts => simp [Rows.uptoBulk]
  | iface t d => simp [Rows.uptoBulk]
  | map entries => simp [Rows.uptoBulk]
  | held h => simp [Rows.uptoBulk]
/-- How much is read. -/
def bulkWatchFronts (H : Type) : Bulk H :=
  ⟨Rows.uptoBulk, Rows.uptoBulkAll, oneWatchFronts, fun l => by simp [Rows.uptoBulk], fun l r => by simp only [Rows.uptoBulk]; omega, fun l => by simp only [Rows.uptoBulk]; omega, fun d l => by simp only [Rows.uptoBulkAll]; omega⟩

set_option maxRecDepth 100000 in
theorem liftedWatchFronts (os : Os) (started : os.Started) (H : Type) (enc : TypeId × Value → H) (F : Stop.Interp) :
    ReturnsInHanded {} Try.checked os 6 .any ((Rows.OpenSpec.upto Rows.watchFrontsSpec).pre6 enc Try.prog Try.f6 Rows.watchFrontsUptoRow.domain false) (((Rows.OpenSpec.upto Rows.watchFrontsSpec).at F).post enc Try.prog Try.f6 false true false false) := by
  refine returnsInHanded_of_cond (C := Try.checked) (s := Rows.OpenSpec.upto Rows.watchFrontsSpec) (k := Rows.uptoSmall) rfl ownWatchFronts started (by kernel_rfl) Try.func6
    (OpenSpec.witness (enc := enc) (C := Try.checked) (s := Rows.OpenSpec.upto Rows.watchFrontsSpec) (k := Rows.uptoSmall) rfl false ⟨#[], #[.slice none 0 0, .string ⟨#[]⟩, .string ⟨#[]⟩, .int .i64 0], []⟩ 8 (by kernel_rfl) (by kernel_rfl) (by kernel_rfl)
      (x := ([.nil, .lit (.string []), .lit (.string []), .lit (.int .i64 0)], [], [])) (by kernel_rfl) rfl (by kernel_rfl)) ?_
  intro W base args ds gs before hval hW _ hk _
  have hg : gs = [] := by
    obtain ⟨p, q, hA, hV, _⟩ := hW
    exact (trodVars_none hV).1
  subst hg
  rw [List.append_nil] at hk
  have hN : Rows.uptoBulkAll ds ≤ 1048576 := of_decide_eq_true hk
  change Calls Try.prog 6 args W fun e W' => ∃ v, e = .returned v ∧ Rows.watchFrontsSpec.post enc Try.prog Try.f6 false true false false W args v W'
  refine law_contract (P := Try.prog) (ts := [46, 9, 9, 3]) (bulkWatchFronts H) [(.sl (.st (.fcons (.int .i64) (.fcons (.int .i64) (.fcons (.int .i64) (.fcons .str (.fcons .str (.fcons (.sl .str) .fnil)))))))), .str, .str, (.int .i64)] rfl (by rw [Try.params6]) rfl rfl Try.underlying4 (by kernel_rfl) laidOutWatchFronts (by kernel_rfl) (fun ds hds => ?_) hval hW hN watchFronts_law
  match ds, hds with
  | [d0, d1, d2, d3], _ => rfl

theorem watchFrontsUpto_holds : Rows.WatchFrontsUptoSaid :=
  OpenClaim.holds_of_cond 6 Try.f6 rfl rfl rfl rfl rfl rfl rfl ⟨rfl, rfl, rfl, rfl, rfl⟩ rfl rfl rfl rfl rfl (by kernel_rfl) Try.func6 (by kernel_rfl)
    (of_decide_eq_true (by kernel_rfl)) (by unfold Func.isWrapper; first | (rw [if_pos (by decide +kernel)]; kernel_rfl) | (rw [if_neg (by decide +kernel)]; exact ⟨rfl, rfl⟩))
    (fun os started H enc _ F => liftedWatchFronts os started H enc F)
#print axioms watchFrontsUpto_holds
end Go.Proofs.Ytaioncbpfckhaaa
