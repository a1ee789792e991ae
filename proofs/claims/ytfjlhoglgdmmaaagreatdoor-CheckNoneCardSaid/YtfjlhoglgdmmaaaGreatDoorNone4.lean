/- CheckNone: the call keeps the row's contract. -/
import Derived.Test.YtfjlhoglgdmmaaaGreatDoorNone3
import Derived.Stop.Joined
set_option autoImplicit false
set_option linter.unusedVariables false
namespace Go.Proofs.YtfjlhoglgdmmaaaGreatDoor
open Go.ChangeMaps (open_string)
open Go Go.AM Go.ChangeShapes Go.WideShapes Go.ChangeAt Go.WideMaps Go.WideElems Go.RowKit
theorem door_met (os : Os) (args : Array Value) : laidMetH Tryz.prog laidC ((World.doorLaid Tryz.prog 400 os).forCall (fun _ _ => 0) ⟨#[], args, []⟩).memory :=
  laidMetH_of_parts3 (fuel := 8) (laidMet_of_run' 8 (by kernel_rfl) (by kernel_rfl)) (by kernel_rfl) (by kernel_rfl)
set_option maxRecDepth 100000 in
theorem checkNone_lifted (os : Os) (started : os.Started) (H : Type) (enc : TypeId × Value → H) :
    ReturnsInHanded {} Tryz.checked os 3 .any (fun w args => (Rows.checkNoneSpec.pre enc Tryz.prog Tryz.f3 [] false w args ∧ laidMetH Tryz.prog laidC w) ∧ sizedMet enc Tryz.prog Tryz.f3 (OpenSpec.ofChange Rows.checkNoneSpec) false w args)
      (Rows.checkNoneSpec.post enc Tryz.prog Tryz.f3 false true false false) := by
  refine returnsInHanded_of_change_and (C := Tryz.checked) (X := fun w _ => laidMetH Tryz.prog laidC w) (fun _ _ _ hh h => h.of_heap hh) own started (by kernel_rfl) Tryz.func3
    (ChangeSpec.witness_shaped (enc := enc) (C := Tryz.checked) (os := os) (X := fun w _ => laidMetH Tryz.prog laidC w) false (World.doorLaid Tryz.prog 400 os) #[.string ⟨#[]⟩] 8 rfl (World.shaped_of_RefB (by kernel_rfl) (by kernel_rfl)) (by kernel_rfl) (by kernel_rfl) (by kernel_rfl) (door_met os _)) ?_
  intro W base args ds gs before hval0 hW _ _ hL _
  have hval : ∀ (j : Nat) t v, Tryz.f3.params[j]? = some t → args[j]? = some v → Value.okWide Tryz.prog W .any base t v := hval0
  refine law_contract (P := Tryz.prog) laidOut (fun t ht => ?_) (tb := 4) (by kernel_rfl) Tryz.underlying4 rfl (fun ds hds => ?_) hW ?_
  · have hp : t = 9 := by simpa [Tryz.params3] using ht
    subst hp
    exact ⟨by kernel_rfl, Nat.le_of_ble_eq_true (by kernel_rfl)⟩
  · match ds, hds with
    | [d], _ => rfl
  · obtain ⟨p, q, hA0, _⟩ := hW
    have hA : DataW.TrodAll enc Tryz.prog W 0 (fun _ => true) true Tryz.f3.params.toList args.toList ds p := hA0
    rw [Tryz.params3] at hA hval
    obtain ⟨v0, d0, rfl, rfl, h0⟩ := trodAll_one hA
    obtain ⟨s, rfl, rfl, _, _⟩ := open_string Tryz.underlying9 (hval 0 9 v0 rfl rfl) h0
    have hc := checkNone_ok.ok W (fun _ => True) [.one (.c .str s.data.toList)] [.string s] true (glob_of_laid hL) ⟨(rfl : Value.string s = .string ⟨s.data.toList.toArray⟩), trivial⟩ (congrArg some (checkNone_true s.data.toList))
    exact hc
end Go.Proofs.YtfjlhoglgdmmaaaGreatDoor
