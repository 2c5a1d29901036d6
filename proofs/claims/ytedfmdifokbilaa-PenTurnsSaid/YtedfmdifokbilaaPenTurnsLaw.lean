/- The law PenTurns holds for every input: it answers true and leaves its arguments as they were. No condition. -/
import Derived.Test.YtedfmdifokbilaaRows
import Derived.Test.YtedfmdifokbilaaHzLaw
import Derived.Test.YtedfmdifokbilaaPenTurns
namespace Go.Proofs.Ytedfmdifokbilaa
open Go.Hz
open Go.ChangeShapes Go.WideShapes Go.ChangeAt Go.RowKit

theorem ownPenTurns : ownKnob Try.prog.godebug = none := by kernel_rfl
theorem laidOutPenTurns : laidOutB Try.prog = true := by kernel_rfl

set_option maxRecDepth 100000 in
theorem liftedPenTurns (os : Os) (started : os.Started) (H : Type) (enc : TypeId × Value → H) :
    ReturnsInHanded {} Try.checked os 8 .any (Rows.penTurnsSpec.pre6 enc Try.prog Try.f8 Rows.penTurnsRow.domain false) (Rows.penTurnsSpec.post enc Try.prog Try.f8 false true false false) := by
  refine returnsInHanded_of_change (C := Try.checked) ownPenTurns started (by kernel_rfl) Try.func8
    (ChangeSpec.witness6 (enc := enc) (C := Try.checked) false ⟨#[], #[.slice none 0 0, .slice none 0 0, .slice none 0 0], []⟩ 8 (by kernel_rfl) (by kernel_rfl) (by kernel_rfl) (by kernel_rfl)) ?_
  intro W base args ds gs before hval hW hcnd _
  refine law_contract (P := Try.prog) (ts := [28, 31, 28]) [(.sl (.int .u8)), (.sl (.int .i64)), (.sl (.int .u8))] rfl (by rw [Try.params8]) rfl rfl Try.underlying4 (by kernel_rfl) laidOutPenTurns (by kernel_rfl) (fun ds hds => ?_) hval hW turns_law
  match ds, hds with
  | [d0, d1, d2], _ => rfl

theorem penTurns_holds : Rows.PenTurnsSaid :=
  OpenClaim.holds_of_wide 8 Try.f8 rfl rfl rfl rfl rfl rfl rfl ⟨rfl, rfl, rfl, rfl, rfl⟩ rfl rfl rfl rfl rfl (by kernel_rfl) Try.func8 (by kernel_rfl)
    (of_decide_eq_true (by kernel_rfl)) (by unfold Func.isWrapper; first | (rw [if_pos (by decide +kernel)]; kernel_rfl) | (rw [if_neg (by decide +kernel)]; exact ⟨rfl, rfl⟩))
    (fun os started H enc _ => liftedPenTurns os started H enc)
#print axioms penTurns_holds
end Go.Proofs.Ytedfmdifokbilaa
