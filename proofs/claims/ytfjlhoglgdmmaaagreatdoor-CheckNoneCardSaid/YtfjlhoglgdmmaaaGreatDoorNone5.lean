/- CheckNone: the row's statement. -/
import Derived.Test.YtfjlhoglgdmmaaaGreatDoorNone4
import Derived.Test.YtfjlhoglgdmmaaaGreatDoorNoneJ
set_option autoImplicit false
set_option linter.unusedVariables false
namespace Go.Proofs.YtfjlhoglgdmmaaaGreatDoor
open Go.ChangeMaps (open_string)
open Go Go.AM Go.ChangeShapes Go.WideShapes Go.ChangeAt Go.WideMaps Go.WideElems Go.RowKit
theorem checkNone_holds : Rows.CheckNoneSaid :=
  OpenClaim.holds_of_wide 3 Tryz.f3 rfl rfl rfl rfl rfl rfl rfl ⟨rfl, rfl, rfl, rfl, rfl⟩ rfl rfl rfl rfl rfl (by kernel_rfl) Tryz.func3 facts
    (of_decide_eq_true (by kernel_rfl)) (by unfold Func.isWrapper; first | (rw [if_pos (by decide +kernel)]; kernel_rfl) | (rw [if_neg (by decide +kernel)]; exact ⟨rfl, rfl⟩))
    (fun os started H enc _ => checkNone_lifted os started H enc)
end Go.Proofs.YtfjlhoglgdmmaaaGreatDoor
