/- The law PenFrames holds for every input: it answers true and leaves its arguments as they were. No condition. -/
import Derived.Test.YtedfmdifokbilaaRows
import Derived.Test.YtedfmdifokbilaaHzLaw
import Derived.Test.YtedfmdifokbilaaPenFrames
namespace Go.Proofs.Ytedfmdifokbilaa
open Go.Hz
open Go.ChangeShapes Go.WideShapes Go.ChangeAt Go.RowKit

theorem ownPenFrames : ownKnob Try.prog.godebug = none := by kernel_rfl
theorem laidOutPenFrames : laidOutB Try.prog = true := by kernel_rfl

set_option maxRecDepth 100000 in
theorem liftedPenFrames (os : Os) (started : os.Started) (H : Type) (enc : TypeId × Value → H) :
    ReturnsInHanded {} Try.checked os 7 .any (Rows.penFramesSpec.pre6 enc Try.prog Try.f7 Rows.penFramesRow.domain false) (Rows.penFramesSpec.post enc Try.prog Try.f7 false true false false) := by
  refine returnsInHanded_of_change (C := Try.checked) ownPenFrames started (by kernel_rfl) Try.func7
    (ChangeSpec.witness6 (enc := enc) (C := Try.checked) false ⟨#[], #[.slice none 0 0, .slice none 0 0, .int .i64 0], []⟩ 8 (by kernel_rfl) (by kernel_rfl) (by kernel_rfl) (by kernel_rfl)) ?_
  intro W base args ds gs before hval hW hcnd _
  refine law_contract (P := Try.prog) (ts := [48, 28, 3]) [(.sl (.sl (.int .u8))), (.sl (.int .u8)), (.int .i64)] rfl (by rw [Try.params7]) rfl rfl Try.underlying4 (by kernel_rfl) laidOutPenFrames (by kernel_rfl) (fun ds hds => ?_) hval hW frames_law
  match ds, hds with
  | [d0, d1, d2], _ => rfl

theorem penFrames_holds : Rows.PenFramesSaid :=
  OpenClaim.holds_of_wide 7 Try.f7 rfl rfl rfl rfl rfl rfl rfl ⟨rfl, rfl, rfl, rfl, rfl⟩ rfl rfl rfl rfl rfl (by kernel_rfl) Try.func7 (by kernel_rfl)
    (of_decide_eq_true (by kernel_rfl)) (by unfold Func.isWrapper; first | (rw [if_pos (by decide +kernel)]; kernel_rfl) | (rw [if_neg (by decide +kernel)]; exact ⟨rfl, rfl⟩))
    (fun os started H enc _ => liftedPenFrames os started H enc)
#print axioms penFrames_holds
end Go.Proofs.Ytedfmdifokbilaa
