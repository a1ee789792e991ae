/- sha.mixed: rounds, each alone. -/
import Derived.Test.YtfjlhoglgdmmaaaGreatDoorShaA
set_option autoImplicit false
set_option linter.unusedVariables false
set_option maxRecDepth 100000
namespace Go.AM
open Go.Proofs
section
variable {R : Type} (sched : List UInt8 → Option (u32s 63).I) (s : List Cell) (w : Nat → Int) (K : Exit → St → Option R) (self : St → Option R) (a b c d e f g h : Int)
theorem r16 : LM sched K self (SM s w 16 (v8 a b c d e f g h)) = rnd 3835390401 (w 16) a b c d e f g h fun a b c d e f g h => self (SM s w 17 (v8 a b c d e f g h)) := by kernel_rfl
theorem r17 : LM sched K self (SM s w 17 (v8 a b c d e f g h)) = rnd 4022224774 (w 17) a b c d e f g h fun a b c d e f g h => self (SM s w 18 (v8 a b c d e f g h)) := by kernel_rfl
theorem r18 : LM sched K self (SM s w 18 (v8 a b c d e f g h)) = rnd 264347078 (w 18) a b c d e f g h fun a b c d e f g h => self (SM s w 19 (v8 a b c d e f g h)) := by kernel_rfl
theorem r19 : LM sched K self (SM s w 19 (v8 a b c d e f g h)) = rnd 604807628 (w 19) a b c d e f g h fun a b c d e f g h => self (SM s w 20 (v8 a b c d e f g h)) := by kernel_rfl
theorem r20 : LM sched K self (SM s w 20 (v8 a b c d e f g h)) = rnd 770255983 (w 20) a b c d e f g h fun a b c d e f g h => self (SM s w 21 (v8 a b c d e f g h)) := by kernel_rfl
theorem r21 : LM sched K self (SM s w 21 (v8 a b c d e f g h)) = rnd 1249150122 (w 21) a b c d e f g h fun a b c d e f g h => self (SM s w 22 (v8 a b c d e f g h)) := by kernel_rfl
theorem r22 : LM sched K self (SM s w 22 (v8 a b c d e f g h)) = rnd 1555081692 (w 22) a b c d e f g h fun a b c d e f g h => self (SM s w 23 (v8 a b c d e f g h)) := by kernel_rfl
theorem r23 : LM sched K self (SM s w 23 (v8 a b c d e f g h)) = rnd 1996064986 (w 23) a b c d e f g h fun a b c d e f g h => self (SM s w 24 (v8 a b c d e f g h)) := by kernel_rfl
theorem r24 : LM sched K self (SM s w 24 (v8 a b c d e f g h)) = rnd 2554220882 (w 24) a b c d e f g h fun a b c d e f g h => self (SM s w 25 (v8 a b c d e f g h)) := by kernel_rfl
theorem r25 : LM sched K self (SM s w 25 (v8 a b c d e f g h)) = rnd 2821834349 (w 25) a b c d e f g h fun a b c d e f g h => self (SM s w 26 (v8 a b c d e f g h)) := by kernel_rfl
theorem r26 : LM sched K self (SM s w 26 (v8 a b c d e f g h)) = rnd 2952996808 (w 26) a b c d e f g h fun a b c d e f g h => self (SM s w 27 (v8 a b c d e f g h)) := by kernel_rfl
theorem r27 : LM sched K self (SM s w 27 (v8 a b c d e f g h)) = rnd 3210313671 (w 27) a b c d e f g h fun a b c d e f g h => self (SM s w 28 (v8 a b c d e f g h)) := by kernel_rfl
theorem r28 : LM sched K self (SM s w 28 (v8 a b c d e f g h)) = rnd 3336571891 (w 28) a b c d e f g h fun a b c d e f g h => self (SM s w 29 (v8 a b c d e f g h)) := by kernel_rfl
theorem r29 : LM sched K self (SM s w 29 (v8 a b c d e f g h)) = rnd 3584528711 (w 29) a b c d e f g h fun a b c d e f g h => self (SM s w 30 (v8 a b c d e f g h)) := by kernel_rfl
theorem r30 : LM sched K self (SM s w 30 (v8 a b c d e f g h)) = rnd 113926993 (w 30) a b c d e f g h fun a b c d e f g h => self (SM s w 31 (v8 a b c d e f g h)) := by kernel_rfl
theorem r31 : LM sched K self (SM s w 31 (v8 a b c d e f g h)) = rnd 338241895 (w 31) a b c d e f g h fun a b c d e f g h => self (SM s w 32 (v8 a b c d e f g h)) := by kernel_rfl
end
end Go.AM
