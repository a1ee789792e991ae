/- sha.mixed: rounds, each alone. -/
import Derived.Test.YtfjlhoglgdmmaaaGreatDoorShaA
set_option autoImplicit false
set_option linter.unusedVariables false
set_option maxRecDepth 100000
namespace Go.AM
open Go.Proofs
section
variable {R : Type} (sched : List UInt8 → Option (u32s 63).I) (s : List Cell) (w : Nat → Int) (K : Exit → St → Option R) (self : St → Option R) (a b c d e f g h : Int)
theorem r48 : LM sched K self (SM s w 48 (v8 a b c d e f g h)) = rnd 430227734 (w 48) a b c d e f g h fun a b c d e f g h => self (SM s w 49 (v8 a b c d e f g h)) := by kernel_rfl
theorem r49 : LM sched K self (SM s w 49 (v8 a b c d e f g h)) = rnd 506948616 (w 49) a b c d e f g h fun a b c d e f g h => self (SM s w 50 (v8 a b c d e f g h)) := by kernel_rfl
theorem r50 : LM sched K self (SM s w 50 (v8 a b c d e f g h)) = rnd 659060556 (w 50) a b c d e f g h fun a b c d e f g h => self (SM s w 51 (v8 a b c d e f g h)) := by kernel_rfl
theorem r51 : LM sched K self (SM s w 51 (v8 a b c d e f g h)) = rnd 883997877 (w 51) a b c d e f g h fun a b c d e f g h => self (SM s w 52 (v8 a b c d e f g h)) := by kernel_rfl
theorem r52 : LM sched K self (SM s w 52 (v8 a b c d e f g h)) = rnd 958139571 (w 52) a b c d e f g h fun a b c d e f g h => self (SM s w 53 (v8 a b c d e f g h)) := by kernel_rfl
theorem r53 : LM sched K self (SM s w 53 (v8 a b c d e f g h)) = rnd 1322822218 (w 53) a b c d e f g h fun a b c d e f g h => self (SM s w 54 (v8 a b c d e f g h)) := by kernel_rfl
theorem r54 : LM sched K self (SM s w 54 (v8 a b c d e f g h)) = rnd 1537002063 (w 54) a b c d e f g h fun a b c d e f g h => self (SM s w 55 (v8 a b c d e f g h)) := by kernel_rfl
theorem r55 : LM sched K self (SM s w 55 (v8 a b c d e f g h)) = rnd 1747873779 (w 55) a b c d e f g h fun a b c d e f g h => self (SM s w 56 (v8 a b c d e f g h)) := by kernel_rfl
theorem r56 : LM sched K self (SM s w 56 (v8 a b c d e f g h)) = rnd 1955562222 (w 56) a b c d e f g h fun a b c d e f g h => self (SM s w 57 (v8 a b c d e f g h)) := by kernel_rfl
theorem r57 : LM sched K self (SM s w 57 (v8 a b c d e f g h)) = rnd 2024104815 (w 57) a b c d e f g h fun a b c d e f g h => self (SM s w 58 (v8 a b c d e f g h)) := by kernel_rfl
theorem r58 : LM sched K self (SM s w 58 (v8 a b c d e f g h)) = rnd 2227730452 (w 58) a b c d e f g h fun a b c d e f g h => self (SM s w 59 (v8 a b c d e f g h)) := by kernel_rfl
theorem r59 : LM sched K self (SM s w 59 (v8 a b c d e f g h)) = rnd 2361852424 (w 59) a b c d e f g h fun a b c d e f g h => self (SM s w 60 (v8 a b c d e f g h)) := by kernel_rfl
theorem r60 : LM sched K self (SM s w 60 (v8 a b c d e f g h)) = rnd 2428436474 (w 60) a b c d e f g h fun a b c d e f g h => self (SM s w 61 (v8 a b c d e f g h)) := by kernel_rfl
theorem r61 : LM sched K self (SM s w 61 (v8 a b c d e f g h)) = rnd 2756734187 (w 61) a b c d e f g h fun a b c d e f g h => self (SM s w 62 (v8 a b c d e f g h)) := by kernel_rfl
theorem r62 : LM sched K self (SM s w 62 (v8 a b c d e f g h)) = rnd 3204031479 (w 62) a b c d e f g h fun a b c d e f g h => self (SM s w 63 (v8 a b c d e f g h)) := by kernel_rfl
theorem r63 : LM sched K self (SM s w 63 (v8 a b c d e f g h)) = rnd 3329325298 (w 63) a b c d e f g h fun a b c d e f g h => self (SM s w 64 (v8 a b c d e f g h)) := by kernel_rfl
end
end Go.AM
