/- CheckNone: the row. -/
import Derived.Test.YtfjlhoglgdmmaaaGreatDoorNone2
import Derived.Test.YtfjlhoglgdmmaaaGreatDoorRows
import Derived.Stop.Joined
set_option autoImplicit false
set_option linter.unusedVariables false
namespace Go.Proofs.YtfjlhoglgdmmaaaGreatDoor
open Go Go.AM Go.ChangeShapes Go.WideShapes Go.ChangeAt Go.WideMaps Go.WideElems Go.RowKit
theorem own : ownKnob Tryz.prog.godebug = none := by kernel_rfl
theorem laidOut : laidOutB Tryz.prog = true := by kernel_rfl
theorem gRounds : Tryz.prog.globalNamed "cincture/sha.rounds" = some 1 := by kernel_rfl
theorem tRounds : (Tryz.prog.globals[1]?).map (·.type) = some 269 := by kernel_rfl
abbrev laidC : List (String × DataW Unit) := [("math/bits.deBruijn32tab", Rows.laid_math_bits_deBruijn32tab), ("cincture/sha.rounds", Rows.laid_cincture_sha_rounds)]
theorem glob_of_laid {W : World} (h : laidMetH Tryz.prog laidC W) : GlobOK GL W (fun _ => True) := by
  rw [MakeChecks.laidMetH_plain _ _ _ (by kernel_rfl)] at h
  obtain ⟨ps, ⟨g0, t0, cs0, f0, p0, q0, hg0, ht0, hv0, hd0, ⟨g1, t1, cs1, f1, p1, q1, hg1, ht1, hv1, hd1, _, _⟩, _⟩, _, _⟩ := h
  obtain rfl := Option.some.inj (gRounds.symm.trans hg1)
  obtain rfl := Option.some.inj (tRounds.symm.trans ht1)
  have hcells := array_cells (l := rounds) Tryz.underlying269 Tryz.underlying143 (by kernel_rfl) (by kernel_rfl) (show DataW.trod _ Tryz.prog W _ _ _ _ _ _ = some (.agg (rounds.map fun x => .lit (.int .u32 x)), p1) from hd1)
  intro g r x hg
  unfold GL at hg
  cases hb : Nat.beq g 1 with
  | false => rw [hb] at hg; cases hg
  | true =>
    rw [hb, cond_true] at hg
    have := Nat.eq_of_beq_eq_true hb
    subst this
    cases hg
    refine ⟨intRow_flat _ _, trivial, intVals_rep .u32 63 rounds 0 fun j hj => ?_⟩
    have h1 := World.var?_cell hg1 hv1 j
    rw [Nat.zero_add, h1]
    exact (by simpa using hcells j (by omega))
end Go.Proofs.YtfjlhoglgdmmaaaGreatDoor
