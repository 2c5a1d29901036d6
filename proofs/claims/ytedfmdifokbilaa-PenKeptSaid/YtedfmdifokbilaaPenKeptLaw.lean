/- The law PenKept holds for every input: it answers true and leaves its arguments as they were. No condition. -/
import Derived.Test.YtedfmdifokbilaaRows
import Derived.Test.YtedfmdifokbilaaHzLaw
import Derived.Test.YtedfmdifokbilaaPenKept
namespace Go.Proofs.Ytedfmdifokbilaa
open Go.Hz
open Go.ChangeShapes Go.WideShapes Go.ChangeAt Go.RowKit

theorem ownPenKept : ownKnob Try.prog.godebug = none := by kernel_rfl
theorem laidOutPenKept : laidOutB Try.prog = true := by kernel_rfl

set_option maxRecDepth 100000 in
theorem liftedPenKept (os : Os) (started : os.Started) (H : Type) (enc : TypeId × Value → H) :
    ReturnsInHanded {} Try.checked os 5 .any (Rows.penKeptSpec.pre6 enc Try.prog Try.f5 Rows.penKeptRow.domain false) (Rows.penKeptSpec.post enc Try.prog Try.f5 false true false false) := by
  refine returnsInHanded_of_change (C := Try.checked) ownPenKept started (by kernel_rfl) Try.func5
    (ChangeSpec.witness6 (enc := enc) (C := Try.checked) false ⟨#[], #[.slice none 0 0, .slice none 0 0], []⟩ 8 (by kernel_rfl) (by kernel_rfl) (by kernel_rfl) (by kernel_rfl)) ?_
  intro W base args ds gs before hval hW hcnd _
  refine law_contract (P := Try.prog) (ts := [28, 31]) [(.sl (.int .u8)), (.sl (.int .i64))] rfl (by rw [Try.params5]) rfl rfl Try.underlying4 (by kernel_rfl) laidOutPenKept (by kernel_rfl) (fun ds hds => ?_) hval hW kept_law
  match ds, hds with
  | [d0, d1], _ => rfl

theorem penKept_holds : Rows.PenKeptSaid :=
  OpenClaim.holds_of_wide 5 Try.f5 rfl rfl rfl rfl rfl rfl rfl ⟨rfl, rfl, rfl, rfl, rfl⟩ rfl rfl rfl rfl rfl (by kernel_rfl) Try.func5 (by kernel_rfl)
    (of_decide_eq_true (by kernel_rfl)) (by unfold Func.isWrapper; first | (rw [if_pos (by decide +kernel)]; kernel_rfl) | (rw [if_neg (by decide +kernel)]; exact ⟨rfl, rfl⟩))
    (fun os started H enc _ => liftedPenKept os started H enc)
#print axioms penKept_holds
end Go.Proofs.Ytedfmdifokbilaa
