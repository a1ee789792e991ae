/- sha.mixed: rounds, each alone. -/
import Derived.Test.YtfjlhoglgdmmaaaGreatDoorShaA
set_option autoImplicit false
set_option linter.unusedVariables false
set_option maxRecDepth 100000
namespace Go.AM
open Go.Proofs
section
variable {R : Type} (sched : List UInt8 → Option (u32s 63).I) (s : List Cell) (w : Nat → Int) (K : Exit → St → Option R) (self : St → Option R) (a b c d e f g h : Int)
theorem r32 : LM sched K self (SM s w 32 (v8 a b c d e f g h)) = rnd 666307205 (w 32) a b c d e f g h fun a b c d e f g h => self (SM s w 33 (v8 a b c d e f g h)) := by kernel_rfl
theorem r33 : LM sched K self (SM s w 33 (v8 a b c d e f g h)) = rnd 773529912 (w 33) a b c d e f g h fun a b c d e f g h => self (SM s w 34 (v8 a b c d e f g h)) := by kernel_rfl
theorem r34 : LM sched K self (SM s w 34 (v8 a b c d e f g h)) = rnd 1294757372 (w 34) a b c d e f g h fun a b c d e f g h => self (SM s w 35 (v8 a b c d e f g h)) := by kernel_rfl
theorem r35 : LM sched K self (SM s w 35 (v8 a b c d e f g h)) = rnd 1396182291 (w 35) a b c d e f g h fun a b c d e f g h => self (SM s w 36 (v8 a b c d e f g h)) := by kernel_rfl
theorem r36 : LM sched K self (SM s w 36 (v8 a b c d e f g h)) = rnd 1695183700 (w 36) a b c d e f g h fun a b c d e f g h => self (SM s w 37 (v8 a b c d e f g h)) := by kernel_rfl
theorem r37 : LM sched K self (SM s w 37 (v8 a b c d e f g h)) = rnd 1986661051 (w 37) a b c d e f g h fun a b c d e f g h => self (SM s w 38 (v8 a b c d e f g h)) := by kernel_rfl
theorem r38 : LM sched K self (SM s w 38 (v8 a b c d e f g h)) = rnd 2177026350 (w 38) a b c d e f g h fun a b c d e f g h => self (SM s w 39 (v8 a b c d e f g h)) := by kernel_rfl
theorem r39 : LM sched K self (SM s w 39 (v8 a b c d e f g h)) = rnd 2456956037 (w 39) a b c d e f g h fun a b c d e f g h => self (SM s w 40 (v8 a b c d e f g h)) := by kernel_rfl
theorem r40 : LM sched K self (SM s w 40 (v8 a b c d e f g h)) = rnd 2730485921 (w 40) a b c d e f g h fun a b c d e f g h => self (SM s w 41 (v8 a b c d e f g h)) := by kernel_rfl
theorem r41 : LM sched K self (SM s w 41 (v8 a b c d e f g h)) = rnd 2820302411 (w 41) a b c d e f g h fun a b c d e f g h => self (SM s w 42 (v8 a b c d e f g h)) := by kernel_rfl
theorem r42 : LM sched K self (SM s w 42 (v8 a b c d e f g h)) = rnd 3259730800 (w 42) a b c d e f g h fun a b c d e f g h => self (SM s w 43 (v8 a b c d e f g h)) := by kernel_rfl
theorem r43 : LM sched K self (SM s w 43 (v8 a b c d e f g h)) = rnd 3345764771 (w 43) a b c d e f g h fun a b c d e f g h => self (SM s w 44 (v8 a b c d e f g h)) := by kernel_rfl
theorem r44 : LM sched K self (SM s w 44 (v8 a b c d e f g h)) = rnd 3516065817 (w 44) a b c d e f g h fun a b c d e f g h => self (SM s w 45 (v8 a b c d e f g h)) := by kernel_rfl
theorem r45 : LM sched K self (SM s w 45 (v8 a b c d e f g h)) = rnd 3600352804 (w 45) a b c d e f g h fun a b c d e f g h => self (SM s w 46 (v8 a b c d e f g h)) := by kernel_rfl
theorem r46 : LM sched K self (SM s w 46 (v8 a b c d e f g h)) = rnd 4094571909 (w 46) a b c d e f g h fun a b c d e f g h => self (SM s w 47 (v8 a b c d e f g h)) := by kernel_rfl
theorem r47 : LM sched K self (SM s w 47 (v8 a b c d e f g h)) = rnd 275423344 (w 47) a b c d e f g h fun a b c d e f g h => self (SM s w 48 (v8 a b c d e f g h)) := by kernel_rfl
end
end Go.AM
