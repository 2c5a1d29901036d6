/- The law PenWrites holds for every input: it answers true and leaves its arguments as they were. No condition. -/
import Derived.Test.YtedfmdifokbilaaRows
import Derived.Test.YtedfmdifokbilaaHzLaw
import Derived.Test.YtedfmdifokbilaaPenWrites
namespace Go.Proofs.Ytedfmdifokbilaa
open Go.Hz
open Go.ChangeShapes Go.WideShapes Go.ChangeAt Go.RowKit

theorem ownPenWrites : ownKnob Try.prog.godebug = none := by kernel_rfl
theorem laidOutPenWrites : laidOutB Try.prog = true := by kernel_rfl

set_option maxRecDepth 100000 in
theorem liftedPenWrites (os : Os) (started : os.Started) (H : Type) (enc : TypeId × Value → H) :
    ReturnsInHanded {} Try.checked os 6 .any (Rows.penWritesSpec.pre6 enc Try.prog Try.f6 Rows.penWritesRow.domain false) (Rows.penWritesSpec.post enc Try.prog Try.f6 false true false false) := by
  refine returnsInHanded_of_change (C := Try.checked) ownPenWrites started (by kernel_rfl) Try.func6
    (ChangeSpec.witness6 (enc := enc) (C := Try.checked) false ⟨#[], #[.slice none 0 0], []⟩ 8 (by kernel_rfl) (by kernel_rfl) (by kernel_rfl) (by kernel_rfl)) ?_
  intro W base args ds gs before hval hW hcnd _
  refine law_contract (P := Try.prog) (ts := [22]) [(.sl (.st (.fcons (.int .i64) (.fcons (.int .i64) (.fcons .str .fnil)))))] rfl (by rw [Try.params6]) rfl rfl Try.underlying4 (by kernel_rfl) laidOutPenWrites (by kernel_rfl) (fun ds hds => ?_) hval hW writes_law
  match ds, hds with
  | [d0], _ => rfl

theorem penWrites_holds : Rows.PenWritesSaid :=
  OpenClaim.holds_of_wide 6 Try.f6 rfl rfl rfl rfl rfl rfl rfl ⟨rfl, rfl, rfl, rfl, rfl⟩ rfl rfl rfl rfl rfl (by kernel_rfl) Try.func6 (by kernel_rfl)
    (of_decide_eq_true (by kernel_rfl)) (by unfold Func.isWrapper; first | (rw [if_pos (by decide +kernel)]; kernel_rfl) | (rw [if_neg (by decide +kernel)]; exact ⟨rfl, rfl⟩))
    (fun os started H enc _ => liftedPenWrites os started H enc)
#print axioms penWrites_holds
end Go.Proofs.Ytedfmdifokbilaa
