/- CheckNone: whatever text a nil checker is handed, the law comes to true: the tied card. -/
import Derived.Test.YtfjlhoglgdmmaaaGreatDoorNone5
import Derived.Test.YtfjlhoglgdmmaaaGreatDoorCards
import Derived.Test.YtfjlhoglgdmmaaaGreatDoorTie
import Derived.SevenTiedAt
set_option autoImplicit false
set_option linter.unusedVariables false
namespace Go.Proofs.YtfjlhoglgdmmaaaGreatDoor
open Go.ChangeMaps (open_string)
open Go Go.AM Go.ChangeShapes Go.WideShapes Go.ChangeAt Go.WideMaps Go.WideElems Go.RowKit
theorem c_wf : Rows.checkNoneRow.wfByText (OpenSpec.ofChange Rows.checkNoneSpec) = true := by kernel_rfl
theorem c_main : Tryz.pinned.checked.prog.mainIs = some (((true, "646fc57523e380f88d4c84e960542e91077372fbce1c9fbff633294d69ca636f") : Bool × String).1, ((true, "646fc57523e380f88d4c84e960542e91077372fbce1c9fbff633294d69ca636f") : Bool × String).2.toList) := by kernel_rfl
theorem c_looks : false = Tryz.prog.looks [] := by kernel_rfl
theorem c_wants : ([9].all fun u => !Tryz.prog.wantsStandIn u) = true := by kernel_rfl
theorem c_goes : false = Rows.checkNoneRow.goesBy Tryz.pinned.checked.prog := by kernel_rfl
theorem c_named : Tryz.prog.funcNamed "cincture/cincturelaw25.CheckNone" = some 3 := by kernel_rfl
theorem checkNone_card : Rows.CheckNoneCardSaid :=
  Claim7.holds_tied_plain_at .later [] [.data, .data] true (true, "646fc57523e380f88d4c84e960542e91077372fbce1c9fbff633294d69ca636f") false
    checkNone_holds (fun _ h => by cases h) c_wf (fun _ h => by cases h) checkNone_row_tie rfl ⟨rfl, rfl⟩ c_main rfl
    (fun f fn hf hfn => by
      obtain rfl : f = 3 := Option.some.inj (c_named.symm.trans hf) |>.symm
      obtain rfl : fn = Tryz.f3 := (Option.some.inj (Tryz.func3.symm.trans hfn)).symm
      exact ⟨c_looks, fun j t ht => by
        rw [Tryz.params3] at ht
        have hm : t ∈ [9] := by simpa using Array.mem_of_getElem? ht
        exact (show Tryz.prog.wantsStandIn t = false by simpa using List.all_eq_true.1 c_wants t hm)⟩)
    c_goes
#print axioms checkNone_card
end Go.Proofs.YtfjlhoglgdmmaaaGreatDoor
