/- The law NetCuts holds where what it reads is of bulk at most 1048576: it answers true and leaves its arguments as they were. The bound is the one condition. -/
import Derived.Test.YtfbflmiipepmiaaRows
import Derived.Test.YtfbflmiipepmiaaHzLaw
import Derived.JoinedCond
import Derived.Test.YtfbflmiipepmiaaR2NetCuts
set_option linter.unusedSimpArgs false
set_option linter.unusedVariables false
namespace Go.Proofs.Ytfbflmiipepmiaa
open Go.Hz
open Go.ChangeShapes Go.WideShapes Go.ChangeAt Go.RowKit

theorem ownNetCuts : ownKnob Try.prog.godebug = none := by kernel_rfl
theorem laidOutNetCuts : laidOutB Try.prog = true := by kernel_rfl
theorem oneNetCuts {H : Type} (d : DataW H) : 1 ≤ Rows.uptoBulk d := by
  cases d with
  | lit l => cases l <;> simp [Rows.uptoBulk]
  | nil => simp [Rows.uptoBulk]
  | ptr d => simp [Rows.uptoBulk]
  | slice elems spare => simp [Rows.uptoBulk]
  | agg parts => simp [Rows.uptoBulk]
  | iface t d => simp [Rows.uptoBulk]
  | map entries => simp [Rows.uptoBulk]
  | held h => simp [Rows.uptoBulk]
/-- How much is read. -/
def bulkNetCuts (H : Type) : Bulk H :=
  ⟨Rows.uptoBulk, Rows.uptoBulkAll, oneNetCuts, fun l => by simp [Rows.uptoBulk], fun l r => by simp only [Rows.uptoBulk]; omega, fun l => by simp only [Rows.uptoBulk]; omega, fun d l => by simp only [Rows.uptoBulkAll]; omega⟩

set_option maxRecDepth 100000 in
theorem liftedNetCuts (os : Os) (started : os.Started) (H : Type) (enc : TypeId × Value → H) (F : Stop.Interp) :
    ReturnsInHanded {} Try.checked os 4 .any ((Rows.OpenSpec.upto Rows.netCutsSpec).pre6 enc Try.prog Try.f4 Rows.netCutsUptoRow.domain false) (((Rows.OpenSpec.upto Rows.netCutsSpec).at F).post enc Try.prog Try.f4 false true false false) := by
  refine returnsInHanded_of_cond (C := Try.checked) (s := Rows.OpenSpec.upto Rows.netCutsSpec) (k := Rows.uptoSmall) rfl ownNetCuts started (by kernel_rfl) Try.func4
    (OpenSpec.witness (enc := enc) (C := Try.checked) (s := Rows.OpenSpec.upto Rows.netCutsSpec) (k := Rows.uptoSmall) rfl false ⟨#[], #[.agg #[.int .i64 0, .int .i64 0, .int .i64 0, .int .i64 0, .int .i64 0, .int .i64 0, .slice none 0 0, .int .i64 0, .int .i64 0, .bool false, .int .i64 0, .int .i64 0, .int .i64 0, .slice none 0 0, .slice none 0 0], .int .i64 0, .int .i64 0, .int .u8 0], []⟩ 8 (by kernel_rfl) (by kernel_rfl) (by kernel_rfl)
      (x := ([.agg [.lit (.int .i64 0), .lit (.int .i64 0), .lit (.int .i64 0), .lit (.int .i64 0), .lit (.int .i64 0), .lit (.int .i64 0), .nil, .lit (.int .i64 0), .lit (.int .i64 0), .lit (.bool false), .lit (.int .i64 0), .agg [.lit (.int .i64 0), .lit (.int .i64 0), .nil], .nil], .lit (.int .i64 0), .lit (.int .i64 0), .lit (.int .u8 0)], [], [])) (by kernel_rfl) rfl (by kernel_rfl)) ?_
  intro W base args ds gs before hval hW _ hk _
  have hg : gs = [] := by
    obtain ⟨p, q, hA, hV, _⟩ := hW
    exact (trodVars_none hV).1
  subst hg
  rw [List.append_nil] at hk
  have hN : Rows.uptoBulkAll ds ≤ 1048576 := of_decide_eq_true hk
  change Calls Try.prog 4 args W fun e W' => ∃ v, e = .returned v ∧ Rows.netCutsSpec.post enc Try.prog Try.f4 false true false false W args v W'
  refine law_contract (P := Try.prog) (ts := [28, 3, 3, 5]) (bulkNetCuts H) [(.st (.fcons (.int .i64) (.fcons (.int .i64) (.fcons (.int .i64) (.fcons (.int .i64) (.fcons (.int .i64) (.fcons (.int .i64) (.fcons (.sl (.st (.fcons (.int .i64) (.fcons (.int .i64) (.fcons (.int .i64) (.fcons (.sl (.int .u8)) .fnil)))))) (.fcons (.int .i64) (.fcons (.int .i64) (.fcons .bool (.fcons (.int .i64) (.fcons (.st (.fcons (.int .i64) (.fcons (.int .i64) (.fcons (.sl (.int .i64)) .fnil)))) (.fcons (.sl (.int .u8)) .fnil)))))))))))))), (.int .i64), (.int .i64), (.int .u8)] rfl (by rw [Try.params4]) rfl rfl Try.underlying4 (by kernel_rfl) laidOutNetCuts (by kernel_rfl) (fun ds hds => ?_) hval hW hN netCuts_law
  match ds, hds with
  | [d0, d1, d2, d3], _ => rfl

theorem netCutsUpto_holds : Rows.NetCutsUptoSaid :=
  OpenClaim.holds_of_cond 4 Try.f4 rfl rfl rfl rfl rfl rfl rfl ⟨rfl, rfl, rfl, rfl, rfl⟩ rfl rfl rfl rfl rfl (by kernel_rfl) Try.func4 (by kernel_rfl)
    (of_decide_eq_true (by kernel_rfl)) (by unfold Func.isWrapper; first | (rw [if_pos (by decide +kernel)]; kernel_rfl) | (rw [if_neg (by decide +kernel)]; exact ⟨rfl, rfl⟩))
    (fun os started H enc _ F => liftedNetCuts os started H enc F)
#print axioms netCutsUpto_holds
end Go.Proofs.Ytfbflmiipepmiaa
