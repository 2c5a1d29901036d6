/- The law PenJoins holds for every input: it answers true and leaves its arguments as they were. No condition. -/
import Derived.Test.YtedfmdifokbilaaRows
import Derived.Test.YtedfmdifokbilaaHzLaw
import Derived.Test.YtedfmdifokbilaaPenJoins
namespace Go.Proofs.Ytedfmdifokbilaa
open Go.Hz
open Go.ChangeShapes Go.WideShapes Go.ChangeAt Go.RowKit

theorem ownPenJoins : ownKnob Try.prog.godebug = none := by kernel_rfl
theorem laidOutPenJoins : laidOutB Try.prog = true := by kernel_rfl

set_option maxRecDepth 100000 in
theorem liftedPenJoins (os : Os) (started : os.Started) (H : Type) (enc : TypeId × Value → H) :
    ReturnsInHanded {} Try.checked os 3 .any (Rows.penJoinsSpec.pre6 enc Try.prog Try.f3 Rows.penJoinsRow.domain false) (Rows.penJoinsSpec.post enc Try.prog Try.f3 false true false false) := by
  refine returnsInHanded_of_change (C := Try.checked) ownPenJoins started (by kernel_rfl) Try.func3
    (ChangeSpec.witness6 (enc := enc) (C := Try.checked) false ⟨#[], #[.slice none 0 0, .slice none 0 0], []⟩ 8 (by kernel_rfl) (by kernel_rfl) (by kernel_rfl) (by kernel_rfl)) ?_
  intro W base args ds gs before hval hW hcnd _
  refine law_contract (P := Try.prog) (ts := [22, 22]) [(.sl (.st (.fcons (.int .i64) (.fcons (.int .i64) (.fcons .str .fnil))))), (.sl (.st (.fcons (.int .i64) (.fcons (.int .i64) (.fcons .str .fnil)))))] rfl (by rw [Try.params3]) rfl rfl Try.underlying4 (by kernel_rfl) laidOutPenJoins (by kernel_rfl) (fun ds hds => ?_) hval hW joins_law
  match ds, hds with
  | [d0, d1], _ => rfl

theorem penJoins_holds : Rows.PenJoinsSaid :=
  OpenClaim.holds_of_wide 3 Try.f3 rfl rfl rfl rfl rfl rfl rfl ⟨rfl, rfl, rfl, rfl, rfl⟩ rfl rfl rfl rfl rfl (by kernel_rfl) Try.func3 (by kernel_rfl)
    (of_decide_eq_true (by kernel_rfl)) (by unfold Func.isWrapper; first | (rw [if_pos (by decide +kernel)]; kernel_rfl) | (rw [if_neg (by decide +kernel)]; exact ⟨rfl, rfl⟩))
    (fun os started H enc _ => liftedPenJoins os started H enc)
#print axioms penJoins_holds
end Go.Proofs.Ytedfmdifokbilaa
