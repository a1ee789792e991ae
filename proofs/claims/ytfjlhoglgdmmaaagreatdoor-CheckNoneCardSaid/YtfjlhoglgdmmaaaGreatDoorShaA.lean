/- sha.mixed: each of its rounds. -/
import Derived.Test.YtfjlhoglgdmmaaaGreatDoorNone1
import Derived.Test.YtfjlhoglgdmmaaaGreatDoorAmLoop
set_option autoImplicit false
set_option linter.unusedVariables false
set_option maxRecDepth 100000
namespace Go.AM
open Go.Proofs
def rotS (k : Int) : Int := IntKind.u64.wrap ((BitVec.ofInt 64 (IntKind.u64.wrap k) &&& BitVec.ofInt 64 31).toNat : Int)
def rot (x k : Int) : Option Int :=
  shiftInt .shl .u32 x (rotS k) fun u => match u with
    | .one (.c (.int q) a) => shiftInt .shr .u32 x (IntKind.u64.wrap (32 - rotS k)) fun v => match v with
      | .one (.c (.int q') b) => some (IntKind.u32.wrap ((BitVec.ofInt 32 a ||| BitVec.ofInt 32 b).toNat))
      | _ => none
    | _ => none
theorem rot_run (x k : Int) : run TY F162 70 [] 20 Tryz.f162 [.one (.int .u32)] [.one (.c (.int .u32) x), .one (.c (.int .i64) k)] = rot x k := by kernel_rfl
noncomputable def cRot : Callee := ⟨[.one (.int .u32), .one (.int .i64)], [.one (.int .u32)], rot⟩
theorem cRot_ok : FunOK Tryz.prog GL 162 cRot :=
  fun_ok (F := F162) mixed tok (fok_funs trivial trivial) Tryz.func162 (by kernel_rfl) (by kernel_rfl) [] 20 (cal := cRot) (by decide +kernel) (fun x k y hy => ⟨70, (rot_run x k).trans hy⟩)
def rowF : (n : Nat) → (Nat → Int) → (u32s n).I
  | 0, f => f 0
  | n + 1, f => (f 0, rowF n fun i => f (i + 1))
def nthF : (n : Nat) → (u32s n).I → Nat → Int
  | 0, x, _ => x
  | n + 1, x, 0 => x.1
  | n + 1, x, i + 1 => nthF n x.2 i
noncomputable def FM (sched : List UInt8 → Option (u32s 63).I) : Funs := funs [(161, ⟨[.one .str], [.agg (u32s 63)], sched⟩), (162, cRot)] [] GL
def hM : List (Nat × Hint) := [(0, { dead := [0, 1, 3, 7, 8, 9, 10, 11, 12, 13, 14, 15, 16, 17, 18, 21, 22, 23, 24, 25, 26, 27, 28, 29, 30, 31, 32, 33, 34, 35, 36, 37, 38, 39, 40, 41, 42, 43, 44, 45, 46, 47, 48, 49, 50, 51, 52, 53, 54, 55, 56, 57, 58, 59, 60, 61, 62, 63, 64, 65, 66, 67, 68, 69, 70, 71, 72, 73, 74, 75, 76, 77, 78, 79, 80, 81, 82, 83, 84, 85, 86, 87, 88, 89, 90, 91, 92, 93, 94, 95, 96, 97, 98, 99, 100, 101, 102, 103, 104, 105, 106, 107, 108, 109, 110, 111, 112, 113] })]
def v8 (a b c d e f g h : Int) : List Cell := [.c (.int .u32) a, .c (.int .u32) b, .c (.int .u32) c, .c (.int .u32) d, .c (.int .u32) e, .c (.int .u32) f, .c (.int .u32) g, .c (.int .u32) h]
/-- The state at the head of the loop. -/
noncomputable def SM (s : List Cell) (w : Nat → Int) (i : Int) (v : List Cell) : St :=
  ⟨[.any, .any, .one (.ptr 2 0), .any, .one (.ptr 4 0), .one (.ptr 5 0), .one (.ptr 6 0)] ++ anys 12 ++ [.agg (rowCells (u32s 63) (u32row 63 rounds)), .one (.c (.int .i64) i)] ++ anys 93,
   [none, none, some (.row s), none, some (.row (v8 0 0 0 0 0 0 0 0)), some (.row (rowCells (u32s 63) (rowF 63 w))), some (.row v)] ++ nones 127⟩
noncomputable def LM {R : Type} (sched : List UInt8 → Option (u32s 63).I) (K : Exit → St → Option R) (self : St → Option R) (st : St) : Option R :=
  exec TY (FM sched) 70 hM 0 (loopIn (bodyOf Tryz.f112)) st (seqK (fun st => self (norm (hfind hM 0) st)) K)
def u32w (x : Int) : Int := IntKind.u32.wrap x
def bAnd (x y : Int) : Int := u32w ((BitVec.ofInt 32 x &&& BitVec.ofInt 32 y).toNat)
def bXor (x y : Int) : Int := u32w ((BitVec.ofInt 32 x ^^^ BitVec.ofInt 32 y).toNat)
def bNot (x : Int) : Int := u32w ((BitVec.ofInt 32 (if IntKind.u32.signed then -1 else IntKind.u32.max) ^^^ BitVec.ofInt 32 x).toNat)
def bAdd (x y : Int) : Int := u32w (x + y)
/-- A round. -/
def rnd {R : Type} (k wi a b c d e f g h : Int) (K : Int → Int → Int → Int → Int → Int → Int → Int → Option R) : Option R :=
  (rot e (-6)).bind fun x1 => (rot e (-11)).bind fun x2 => (rot e (-25)).bind fun x3 => (rot a (-2)).bind fun y1 => (rot a (-13)).bind fun y2 => (rot a (-22)).bind fun y3 =>
    K (bAdd (bAdd (bAdd (bAdd (bAdd h (bXor (bXor x1 x2) x3)) (bXor (bAnd e f) (bAnd (bNot e) g))) k) wi) (bAdd (bXor (bXor y1 y2) y3) (bXor (bXor (bAnd a b) (bAnd a c)) (bAnd b c))))
      a b c (bAdd d (bAdd (bAdd (bAdd (bAdd h (bXor (bXor x1 x2) x3)) (bXor (bAnd e f) (bAnd (bNot e) g))) k) wi)) e f g
section
variable {R : Type} (sched : List UInt8 → Option (u32s 63).I) (s : List Cell) (w : Nat → Int) (K : Exit → St → Option R) (self : St → Option R) (a b c d e f g h : Int)
theorem r0 : LM sched K self (SM s w 0 (v8 a b c d e f g h)) = rnd 1116352408 (w 0) a b c d e f g h fun a b c d e f g h => self (SM s w 1 (v8 a b c d e f g h)) := by kernel_rfl
theorem r1 : LM sched K self (SM s w 1 (v8 a b c d e f g h)) = rnd 1899447441 (w 1) a b c d e f g h fun a b c d e f g h => self (SM s w 2 (v8 a b c d e f g h)) := by kernel_rfl
theorem r2 : LM sched K self (SM s w 2 (v8 a b c d e f g h)) = rnd 3049323471 (w 2) a b c d e f g h fun a b c d e f g h => self (SM s w 3 (v8 a b c d e f g h)) := by kernel_rfl
theorem r3 : LM sched K self (SM s w 3 (v8 a b c d e f g h)) = rnd 3921009573 (w 3) a b c d e f g h fun a b c d e f g h => self (SM s w 4 (v8 a b c d e f g h)) := by kernel_rfl
theorem r4 : LM sched K self (SM s w 4 (v8 a b c d e f g h)) = rnd 961987163 (w 4) a b c d e f g h fun a b c d e f g h => self (SM s w 5 (v8 a b c d e f g h)) := by kernel_rfl
theorem r5 : LM sched K self (SM s w 5 (v8 a b c d e f g h)) = rnd 1508970993 (w 5) a b c d e f g h fun a b c d e f g h => self (SM s w 6 (v8 a b c d e f g h)) := by kernel_rfl
theorem r6 : LM sched K self (SM s w 6 (v8 a b c d e f g h)) = rnd 2453635748 (w 6) a b c d e f g h fun a b c d e f g h => self (SM s w 7 (v8 a b c d e f g h)) := by kernel_rfl
theorem r7 : LM sched K self (SM s w 7 (v8 a b c d e f g h)) = rnd 2870763221 (w 7) a b c d e f g h fun a b c d e f g h => self (SM s w 8 (v8 a b c d e f g h)) := by kernel_rfl
theorem r8 : LM sched K self (SM s w 8 (v8 a b c d e f g h)) = rnd 3624381080 (w 8) a b c d e f g h fun a b c d e f g h => self (SM s w 9 (v8 a b c d e f g h)) := by kernel_rfl
theorem r9 : LM sched K self (SM s w 9 (v8 a b c d e f g h)) = rnd 310598401 (w 9) a b c d e f g h fun a b c d e f g h => self (SM s w 10 (v8 a b c d e f g h)) := by kernel_rfl
theorem r10 : LM sched K self (SM s w 10 (v8 a b c d e f g h)) = rnd 607225278 (w 10) a b c d e f g h fun a b c d e f g h => self (SM s w 11 (v8 a b c d e f g h)) := by kernel_rfl
theorem r11 : LM sched K self (SM s w 11 (v8 a b c d e f g h)) = rnd 1426881987 (w 11) a b c d e f g h fun a b c d e f g h => self (SM s w 12 (v8 a b c d e f g h)) := by kernel_rfl
theorem r12 : LM sched K self (SM s w 12 (v8 a b c d e f g h)) = rnd 1925078388 (w 12) a b c d e f g h fun a b c d e f g h => self (SM s w 13 (v8 a b c d e f g h)) := by kernel_rfl
theorem r13 : LM sched K self (SM s w 13 (v8 a b c d e f g h)) = rnd 2162078206 (w 13) a b c d e f g h fun a b c d e f g h => self (SM s w 14 (v8 a b c d e f g h)) := by kernel_rfl
theorem r14 : LM sched K self (SM s w 14 (v8 a b c d e f g h)) = rnd 2614888103 (w 14) a b c d e f g h fun a b c d e f g h => self (SM s w 15 (v8 a b c d e f g h)) := by kernel_rfl
theorem r15 : LM sched K self (SM s w 15 (v8 a b c d e f g h)) = rnd 3248222580 (w 15) a b c d e f g h fun a b c d e f g h => self (SM s w 16 (v8 a b c d e f g h)) := by kernel_rfl
end
end Go.AM
