/- CheckNone: what its function comes to. -/
import Derived.Test.YtfjlhoglgdmmaaaGreatDoorShaE
import Derived.Test.YtfjlhoglgdmmaaaGreatDoorShaS
set_option autoImplicit false
set_option linter.unusedVariables false
set_option maxRecDepth 100000
namespace Go.AM
open Go.Proofs
theorem none_run (d b : List UInt8) : (c3 (some d)).f b = some true := by kernel_rfl
def w4 (x : Int) : List Int := [IntKind.u8.wrap (x.fdiv ((2 ^ (min (24 : Int).toNat 32) : Nat) : Int)), IntKind.u8.wrap (x.fdiv ((2 ^ (min (16 : Int).toNat 32) : Nat) : Int)), IntKind.u8.wrap (x.fdiv ((2 ^ (min (8 : Int).toNat 32) : Nat) : Int)), IntKind.u8.wrap x]
def outB (s : (u32s 7).I) : List UInt8 := (([] ++ w4 (nthF 7 s 0)) ++ w4 (nthF 7 s 1) ++ w4 (nthF 7 s 2) ++ w4 (nthF 7 s 3) ++ w4 (nthF 7 s 4) ++ w4 (nthF 7 s 5) ++ w4 (nthF 7 s 6) ++ w4 (nthF 7 s 7)).map fun (n : Int) => UInt8.ofNat n.toNat
def blk0 : List UInt8 := [67,78,67,49,128,0,0,0,0,0,0,0,0,0,0,0,0,0,0,0,0,0,0,0,0,0,0,0,0,0,0,0,0,0,0,0,0,0,0,0,0,0,0,0,0,0,0,0,0,0,0,0,0,0,0,0,0,0,0,0,0,0,0,32]
def iv : (u32s 7).I := ((1779033703 : Int), (3144134277 : Int), (1013904242 : Int), (2773480762 : Int), (1359893119 : Int), (2600822924 : Int), (528734635 : Int), (1541459225 : Int))
theorem sum_run (mix : (u32s 7).I → List UInt8 → Option (u32s 7).I) : (c75 mix).f [[67,78,67,49]] = (mix iv blk0).bind fun s => some (outB s) := by kernel_rfl
/-- sha.mixed, as its code runs with sha.schedule's. -/
noncomputable def mixC : (u32s 7).I → List UInt8 → Option (u32s 7).I := (Callee.of TY (FM c161.f) 70 hM 20 Tryz.f112 [.agg (u32s 7), .one .str] [.agg (u32s 7)]).f
theorem mixC_ok : FunOK Tryz.prog GL 112 (c112 mixC) := funOK_of (F := FM c161.f) mixed tok (fok_funs ⟨c161_ok, cRot_ok, trivial⟩ trivial) Tryz.func112 (by kernel_rfl) (by kernel_rfl) 70 hM 20 [.agg (u32s 7), .one .str] [.agg (u32s 7)] (by decide +kernel)
theorem mixC_some : (mixC iv blk0).isSome = true := mixed_some c161.f _ _ _ _ _ _ _ _ (sched_some _ _ _ _ _ _ _ _ _ _ _ _ _ _ _ _ _ _ _ _ _ _ _ _ _ _ _ _ _ _ _ _ _ _ _ _ _ _ _ _ _ _ _ _ _ _ _ _ _ _ _ _ _ _ _ _ _ _ _ _ _ _ _ _)
noncomputable def beginC : Callee := Callee.of TY (funs [(75, c75 mixC)] [] GL) 70 [] 20 Tryz.f68 [] [.one .str]
theorem beginC_ok : FunOK Tryz.prog GL 68 beginC := funOK_of (F := funs [(75, c75 mixC)] [] GL) mixed tok (fok_funs ⟨c75_ok mixC_ok, trivial⟩ trivial) Tryz.func68 (by kernel_rfl) (by kernel_rfl) 70 [] 20 [] [.one .str] (by decide +kernel)
theorem begin_run (sum : List (List UInt8) → Option (List UInt8)) : run TY (funs [(75, ⟨[.one (.sl (.one .str))], [.one .str], sum⟩)] [] GL) 70 [] 20 Tryz.f68 [.one .str] [] = (sum [[67,78,67,49]]).bind fun d => some d := by kernel_rfl
theorem begin_some : ∃ d : List UInt8, beginC.f = some d := by
  have h : beginC.f = ((c75 mixC).f [[67,78,67,49]]).bind fun d => some d := begin_run (c75 mixC).f
  rw [h, sum_run]
  have := mixC_some
  cases hm : mixC iv blk0 with
  | none => rw [hm] at this; cases this
  | some s => exact ⟨outB s, rfl⟩
/-- CheckNone comes to true. -/
theorem checkNone_comes (b : List UInt8) : ∀ bg : Option (List UInt8), (∃ d, bg = some d) → (c3 bg).f b = some true
  | _, ⟨d, rfl⟩ => none_run d b
theorem checkNone_true (b : List UInt8) : (c3 beginC.f).f b = some true := checkNone_comes b _ begin_some
theorem checkNone_ok : FunOK Tryz.prog GL 3 (c3 beginC.f) := c3_ok beginC_ok
end Go.AM
