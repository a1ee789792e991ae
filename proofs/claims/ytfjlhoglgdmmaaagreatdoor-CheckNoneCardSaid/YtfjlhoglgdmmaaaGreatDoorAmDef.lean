/- An abstract machine over typed values: what a piece of a function's code comes to, as a plain Lean function that the kernel can reckon. Definitions alone. -/
import Derived.Orders
set_option autoImplicit false
namespace Go.AM

/-! ### Kinds of cells, and what they stand for -/
mutual
inductive CT where
  | int (k : IntKind)
  | bool
  | str
  | sl (r : RT)
  | nilp
  | ref (r : RT)                             -- the address of a row that does not turn, or nil
inductive RT where
  | one (c : CT)
  | cons (c : CT) (r : RT)
end
mutual
@[reducible] def CT.I : CT → Type
  | .int _ => Int
  | .bool => Bool
  | .str => List UInt8
  | .sl r => List (RT.I r)
  | .nilp => Unit
  | .ref r => Option (RT.I r)
@[reducible] def RT.I : RT → Type
  | .one c => CT.I c
  | .cons c r => CT.I c × RT.I r
end
def kindEq : IntKind → IntKind → Bool
  | .i8, .i8 | .i16, .i16 | .i32, .i32 | .i64, .i64 | .u8, .u8 | .u16, .u16 | .u32, .u32 | .u64, .u64 => true
  | _, _ => false
mutual
def CT.eq? : (a b : CT) → Option (PLift (a = b))
  | .int k, .int k' => if h : k = k' then some ⟨by rw [h]⟩ else none
  | .bool, .bool => some ⟨rfl⟩
  | .str, .str => some ⟨rfl⟩
  | .nilp, .nilp => some ⟨rfl⟩
  | .sl r, .sl r' => match RT.eq? r r' with
    | some h => some ⟨by rw [h.down]⟩
    | none => none
  | .ref r, .ref r' => match RT.eq? r r' with
    | some h => some ⟨by rw [h.down]⟩
    | none => none
  | _, _ => none
def RT.eq? : (a b : RT) → Option (PLift (a = b))
  | .one c, .one c' => match CT.eq? c c' with
    | some h => some ⟨by rw [h.down]⟩
    | none => none
  | .cons c r, .cons c' r' => match CT.eq? c c', RT.eq? r r' with
    | some h, some h' => some ⟨by rw [h.down, h'.down]⟩
    | _, _ => none
  | _, _ => none
end
def CT.zero : (c : CT) → c.I
  | .int _ => (0 : Int)
  | .bool => false
  | .str => ([] : List UInt8)
  | .sl r => ([] : List r.I)
  | .nilp => ()
  | .ref _ => none
def RT.zero : (r : RT) → r.I
  | .one c => c.zero
  | .cons c r => (c.zero, r.zero)
def RT.n : RT → Nat
  | .one _ => 1
  | .cons _ r => r.n + 1

/-- What a cell may be known to hold. -/
inductive Cell where
  | any                                      -- nothing is known
  | c (t : CT) (x : t.I)                     -- this value; what it leads to does not turn any more
  | nils                                     -- the nil slice, of whatever type
  | vec (s : Nat)                            -- the slice of all that the row of elements s has
  | sub (s lo n : Nat)                       -- a part of it
  | ptr (s off : Nat)                        -- the address of a cell of block s
  | eptr (s i off : Nat)                     -- the address of a cell of element i of the row of elements s
  | iptr (r : RT) (x : r.I) (off : Nat)      -- the address of a cell of an element that does not turn any more
inductive V where
  | any
  | skip
  | one (x : Cell)
  | agg (cs : List Cell)
  | tup (xs : List (Bool × List Cell))
inductive Blk where
  | row (cs : List Cell)
  | lst (r : RT) (xs : List r.I)
abbrev Heap := List (Option Blk)
structure St where
  env : List V
  heap : Heap

/-! ### Lists -/
section
variable {α β : Type}
def lget : List α → Nat → α → α
  | [], _, d => d
  | x :: _, 0, _ => x
  | _ :: l, n + 1, d => lget l n d
def lset : List α → Nat → α → List α
  | [], _, _ => []
  | _ :: l, 0, y => y :: l
  | x :: l, n + 1, y => x :: lset l n y
def ltake : List α → Nat → List α
  | _, 0 => []
  | [], _ => []
  | x :: l, n + 1 => x :: ltake l n
def ldrop : List α → Nat → List α
  | l, 0 => l
  | [], _ => []
  | _ :: l, n + 1 => ldrop l n
def llen : List α → Nat
  | [] => 0
  | _ :: l => Nat.succ (llen l)
def splice : List α → Nat → List α → List α
  | l, 0, ys => ys ++ ldrop l (llen ys)
  | [], _, _ => []
  | x :: l, n + 1, ys => x :: splice l n ys
def lmap (f : α → β) : List α → List β
  | [] => []
  | x :: l => f x :: lmap f l
end

/-! ### Types -/
inductive TD where
  | int (k : IntKind) | bool | str | ptr (e : Nat) | slice (e : Nat) | arr (n e : Nat) | struct (fs : List (Nat × Nat)) | other
structure TI where
  d : TD
  size : Nat
  bytes : Nat
  row : Option RT
  zero : List Cell
  eq : Bool := false                         -- an array or a struct that may be compared
def TI.agg (t : TI) : Bool := match t.d with
  | .arr _ _ => true
  | .struct _ => true
  | _ => false
def tfind : List (Nat × TI) → Nat → Option TI
  | [], _ => none
  | (k, x) :: l, t => bif Nat.beq k t then some x else tfind l t

/-! ### Cells and rows -/
def castCell (t : CT) : Cell → Option t.I
  | .c t' x => match CT.eq? t' t with
    | some h => some (h.down ▸ x)
    | none => match t', t with
      | .nilp, .ref _ => some none
      | _, _ => none
  | .iptr r x 0 => match t with
    | .ref r' => match RT.eq? r r' with
      | some h => some (some (h.down ▸ x))
      | none => none
    | _ => none
  | .nils => match t with
    | .sl _ => some []
    | _ => none
  | _ => none
def toRow : (r : RT) → List Cell → Option r.I
  | .one c, [x] => castCell c x
  | .cons c r, x :: xs => match castCell c x, toRow r xs with
    | some a, some b => some (a, b)
    | _, _ => none
  | _, _ => none
def rowCells : (r : RT) → r.I → List Cell
  | .one c, x => [.c c x]
  | .cons c r, x => .c c x.1 :: rowCells r x.2

def hget (h : Heap) (s : Nat) : Option Blk := lget h s none
def hset (h : Heap) (s : Nat) (b : Blk) : Heap := lset h s (some b)
/-- Is there room for the name s? -/
def room (h : Heap) (s : Nat) : Bool := Nat.ble (Nat.succ s) (llen h)
def inR (i : Int) (n : Nat) : Bool := decide (0 ≤ i) && decide (i < n)

def V.cells : V → Option (List Cell)
  | .one x => some [x]
  | .agg cs => some cs
  | _ => none
def mkV (agg : Bool) (cs : List Cell) : Option V :=
  bif agg then some (.agg cs) else match cs with
    | [x] => some (.one x)
    | _ => none
def ofConst : Value → V
  | .int k n => .one (.c (.int k) n)
  | .bool b => .one (.c .bool b)
  | .string s => .one (.c .str s.data.toList)
  | .slice none 0 0 => .one .nils
  | .pointer none => .one (.c .nilp ())
  | _ => .any
def ev (env : List V) : Operand → V
  | .tmp t => lget env t .any
  | .const v => ofConst v
  | _ => .any

def cellsAt (h : Heap) (n : Nat) : Cell → Option (List Cell)
  | .ptr s off => match hget h s with
    | some (.row cs) => some (ltake (ldrop cs off) n)
    | _ => none
  | .eptr s i off => match hget h s with
    | some (.lst r xs) => some (ltake (ldrop (rowCells r (xs.getD i r.zero)) off) n)
    | _ => none
  | .iptr r x off => some (ltake (ldrop (rowCells r x) off) n)
  | _ => none

def immCell (h : Heap) : Cell → Option Cell
  | .vec s => match hget h s with
    | some (.lst r xs) => some (.c (.sl r) xs)
    | _ => none
  | .sub s lo n => match hget h s with
    | some (.lst r xs) => some (.c (.sl r) ((xs.drop lo).take n))
    | _ => none
  | .c t x => some (.c t x)
  | .nils => some .nils
  | .iptr r x o => some (.iptr r x o)
  | _ => none
/-- What a cell holds while nothing turns: objects, too, can be read then. -/
def borRow (f : (c : CT) → Cell → Option c.I) : (r : RT) → List Cell → Option r.I
  | .one c, [x] => f c x
  | .cons c r, x :: xs => match f c x, borRow f r xs with
    | some a, some b => some (a, b)
    | _, _ => none
  | _, _ => none
def borImm (h : Heap) (c : CT) (x : Cell) : Option c.I := match immCell h x with
  | some y => castCell c y
  | none => none
def borC (h : Heap) : Nat → (c : CT) → Cell → Option c.I
  | 0, c, x => borImm h c x
  | n + 1, c, x => match c, x with
    | .ref r, .ptr s 0 => match hget h s with
      | some (.row cs) => match borRow (borC h n) r cs with
        | some y => some (some y)
        | none => none
      | _ => none
    | c, x => borImm h c x
def immCells (h : Heap) : List Cell → Option (List Cell)
  | [] => some []
  | x :: l => match immCell h x, immCells h l with
    | some a, some b => some (a :: b)
    | _, _ => none
def immV (h : Heap) : V → Option V
  | .one x => match immCell h x with
    | some a => some (.one a)
    | none => none
  | .agg cs => match immCells h cs with
    | some a => some (.agg a)
    | none => none
  | _ => none
def immVs (h : Heap) : List V → Option (List V)
  | [] => some []
  | x :: l => match immV h x, immVs h l with
    | some a, some b => some (a :: b)
    | _, _ => none

/-! ### Handles that are let go, rows of elements that do not turn any more -/
def killCell (s : Nat) : Cell → Cell
  | .vec t => bif Nat.beq s t then .any else .vec t
  | .sub t a b => bif Nat.beq s t then .any else .sub t a b
  | .ptr t a => bif Nat.beq s t then .any else .ptr t a
  | .eptr t a b => bif Nat.beq s t then .any else .eptr t a b
  | x => x
def frzCell (s : Nat) (r : RT) (xs : List r.I) : Cell → Cell
  | .vec t => bif Nat.beq s t then .c (.sl r) xs else .vec t
  | .sub t a b => bif Nat.beq s t then .c (.sl r) ((xs.drop a).take b) else .sub t a b
  | .eptr t a b => bif Nat.beq s t then .iptr r (xs.getD a r.zero) b else .eptr t a b
  | x => x
def mapV (f : Cell → Cell) : V → V
  | .one x => .one (f x)
  | .agg cs => .agg (lmap f cs)
  | .tup xs => .tup (lmap (fun x => (x.1, lmap f x.2)) xs)
  | x => x
def mapB (f : Cell → Cell) : Option Blk → Option Blk
  | some (.row cs) => some (.row (lmap f cs))
  | x => x
def mapSt (f : Cell → Cell) (st : St) : St := { env := lmap (mapV f) st.env, heap := lmap (mapB f) st.heap }
def kill (s : Nat) (st : St) : St := mapSt (killCell s) st
def freeze (s : Nat) (st : St) : St := match hget st.heap s with
  | some (.lst r xs) => mapSt (frzCell s r xs) { st with heap := lset st.heap s none }
  | _ => st
def cellNames : List Cell → List Nat
  | [] => []
  | .vec s :: l => s :: cellNames l
  | .sub s _ _ :: l => s :: cellNames l
  | _ :: l => cellNames l
def vNames : List V → List Nat
  | [] => []
  | .one x :: l => cellNames [x] ++ vNames l
  | .agg cs :: l => cellNames cs ++ vNames l
  | _ :: l => vNames l
def freezes : List Nat → St → St
  | [], st => st
  | s :: l, st => freezes l (freeze s st)

/-! ### Functions that are called -/
inductive AT where
  | one (c : CT)
  | agg (r : RT)
@[reducible] def AT.I : AT → Type
  | .one c => c.I
  | .agg r => r.I
def AT.dec : (t : AT) → V → Option t.I
  | .one c, .one x => castCell c x
  | .agg r, .agg cs => toRow r cs
  | _, _ => none
def AT.enc : (t : AT) → t.I → V
  | .one c, x => .one (.c c x)
  | .agg r, x => .agg (rowCells r x)
def AT.comp : (t : AT) → t.I → Bool × List Cell
  | .one c, x => (false, [.c c x])
  | .agg r, x => (true, rowCells r x)
@[reducible] def Res : List AT → Type
  | [] => Unit
  | [t] => t.I
  | t :: u :: ts => t.I × Res (u :: ts)
@[reducible] def Fn : List AT → Type → Type
  | [], ρ => Option ρ
  | t :: ts, ρ => t.I → Fn ts ρ
def comps : (rs : List AT) → Res rs → List (Bool × List Cell)
  | [], _ => []
  | [t], x => [t.comp x]
  | t :: u :: ts, x => t.comp x.1 :: comps (u :: ts) x.2
def encRes : (rs : List AT) → Res rs → V
  | [], _ => .tup []
  | [t], x => t.enc x
  | t :: u :: ts, x => .tup (comps (t :: u :: ts) x)
def app : (ts : List AT) → {ρ : Type} → Fn ts ρ → List V → Option (Option ρ)
  | [], _, f, [] => some f
  | t :: ts, _, f, v :: vs => match t.dec v with
    | some x => app ts (f x) vs
    | none => none
  | _, _, _, _ => none
structure Callee where
  ps : List AT
  rs : List AT
  f : Fn ps (Res rs)
def memL : Nat → List Nat → Bool
  | _, [] => false
  | x, y :: l => Nat.beq x y || memL x l
def nodupL : List Nat → Bool
  | [] => true
  | x :: l => !(memL x l) && nodupL l
/-! ### Objects: rows that turn, and what belongs to them alone -/
mutual
inductive OT where
  | c (t : CT)
  | own (r : RT)                             -- a slice that grows
  | obj (r : OR)                             -- the address of a row, or nil
inductive OR where
  | one (o : OT)
  | cons (o : OT) (r : OR)
end
mutual
@[reducible] def OT.I : OT → Type
  | .c t => t.I
  | .own r => List r.I
  | .obj r => Option (OR.I r)
@[reducible] def OR.I : OR → Type
  | .one o => OT.I o
  | .cons o r => OT.I o × OR.I r
end
inductive PT where
  | v (t : AT)
  | ref (r : OR)
@[reducible] def PT.I : PT → Type
  | .v t => t.I
  | .ref r => Option r.I
@[reducible] def FnR : List PT → Type → Type
  | [], ρ => Option ρ
  | t :: ts, ρ => t.I → FnR ts ρ
@[reducible] def ResP : List PT → Type
  | [] => Unit
  | [t] => t.I
  | t :: u :: ts => t.I × ResP (u :: ts)
@[reducible] def Outs : List PT → Type
  | [] => Unit
  | .v _ :: ts => Outs ts
  | .ref r :: ts => Option r.I × Outs ts
/-- A function that may turn the objects that it is handed: with its results it gives what they are then. -/
structure CalleeR where
  ps : List PT
  rs : List PT
  f : FnR ps (ResP rs × Outs ps)
structure Funs where
  v : Nat → Option Callee
  r : Nat → Option CalleeR
  g : Nat → Option (Σ r : RT, r.I) := fun _ => none
/-- An operand's value, where it may be the address of a package's variable. -/
def evG (G : Nat → Option (Σ r : RT, r.I)) (env : Operand → V) : Operand → V
  | .global g => match G g with
    | some ⟨r, x⟩ => .one (.iptr r x 0)
    | none => .any
  | x => env x
mutual
/-- An object out of memory, and the names that it is made of. -/
def readC (h : Heap) : (o : OT) → Cell → Option (o.I × List Nat)
  | .c t, x => match castCell t x with
    | some y => some (y, [])
    | none => none
  | .own r, x => match x with
    | .vec s => match hget h s with
      | some (.lst r' xs) => match RT.eq? r' r with
        | some q => some (q.down ▸ xs, [s])
        | none => none
      | _ => none
    | .sub s 0 n => match hget h s with
      | some (.lst r' xs) => match RT.eq? r' r with
        | some q => some ((q.down ▸ xs : List r.I).take n, [s])
        | none => none
      | _ => none
    | .nils => some ([], [])
    | _ => none
  | .obj r, x => match x with
    | .c .nilp _ => some (none, [])
    | .ptr s 0 => match hget h s with
      | some (.row cs) => match readR h r cs with
        | some (y, ns) => some (some y, s :: ns)
        | none => none
      | _ => none
    | _ => none
def readR (h : Heap) : (r : OR) → List Cell → Option (r.I × List Nat)
  | .one o, [x] => readC h o x
  | .cons o r, x :: xs => match readC h o x, readR h r xs with
    | some (a, ns), some (b, ms) => some ((a, b), ns ++ ms)
    | _, _ => none
  | _, _ => none
end
mutual
/-- The rows of elements in it that do not turn any more. -/
def frzC (h : Heap) : OT → Cell → List Nat
  | .c _, x => match x with
    | .vec s => [s]
    | .sub s _ _ => [s]
    | _ => []
  | .own _, _ => []
  | .obj r, x => match x with
    | .ptr s 0 => match hget h s with
      | some (.row cs) => frzR h r cs
      | _ => []
    | _ => []
def frzR (h : Heap) : OR → List Cell → List Nat
  | .one o, x :: _ => frzC h o x
  | .cons o r, x :: xs => frzC h o x ++ frzR h r xs
  | _, [] => []
end
/-- The first name from n on that is free; i: where the list begins. -/
def freeN : Heap → Nat → Nat → Nat
  | [], _, i => i
  | _ :: l, n + 1, i => freeN l n (i + 1)
  | none :: _, 0, i => i
  | some _ :: l, 0, i => freeN l 0 (i + 1)
def room' (h : Heap) (s : Nat) : Bool := match hget h s with
  | none => Nat.ble (Nat.succ s) (llen h)
  | some _ => false
section
variable {R : Type} (n0 : Nat)
mutual
/-- An object is laid into memory, by names from n0 on. -/
def layC : (o : OT) → o.I → Heap → (Cell → Heap → Option R) → Option R
  | .c t, x, h, K => K (.c t x) h
  | .own r, xs, h, K => bif room' h (freeN h n0 0) then K (.vec (freeN h n0 0)) (hset h (freeN h n0 0) (.lst r xs)) else none
  | .obj r, x, h, K => match x with
    | none => K (.c .nilp ()) h
    | some y => layR r y h fun cs h' => bif room' h' (freeN h' n0 0) then K (.ptr (freeN h' n0 0) 0) (hset h' (freeN h' n0 0) (.row cs)) else none
def layR : (r : OR) → r.I → Heap → (List Cell → Heap → Option R) → Option R
  | .one o, x, h, K => layC o x h fun c h' => K [c] h'
  | .cons o r, x, h, K => layC o x.1 h fun c h' => layR r x.2 h' fun cs h'' => K (c :: cs) h''
end
@[reducible] def PArgs : List PT → Type
  | [] => Unit
  | t :: ts => t.I × PArgs ts
def applyF : (ts : List PT) → {ρ : Type} → FnR ts ρ → PArgs ts → Option ρ
  | [], _, f, _ => f
  | _ :: ts, _, f, xs => applyF ts (f xs.1) xs.2
/-- The arguments of a call: what they are, the objects' roots, all names that they are made of, those that are no roots. -/
def readArgs (h : Heap) : (ts : List PT) → List V → Option (PArgs ts × List Nat × List Nat × List Nat)
  | [], [] => some ((), [], [], [])
  | .v t :: ts, v :: vs => match t.dec v, readArgs h ts vs with
    | some x, some (xs, roots, ns, subs) => some ((x, xs), roots, ns, subs)
    | _, _ => none
  | .ref r :: ts, v :: vs => match v with
    | .one (.c .nilp _) => match readArgs h ts vs with
      | some (xs, roots, ns, subs) => some ((none, xs), roots, ns, subs)
      | none => none
    | .one (.ptr s 0) => match hget h s with
      | some (.row cs) => match readR h r cs, readArgs h ts vs with
        | some (y, ms), some (xs, roots, ns, subs) => some ((some y, xs), s :: roots, s :: (ms ++ ns), ms ++ subs)
        | _, _ => none
      | _ => none
    | _ => none
  | _, _ => none
def frzArgs (h : Heap) : List PT → List V → List Nat
  | .v _ :: ts, v :: vs => vNames [v] ++ frzArgs h ts vs
  | .ref r :: ts, v :: vs => (match v with
    | .one (.ptr s 0) => (match hget h s with
      | some (.row cs) => frzR h r cs
      | _ => [])
    | _ => []) ++ frzArgs h ts vs
  | _, _ => []
/-- What the objects are behind a call. -/
def layOuts : (ts : List PT) → Outs ts → List V → Heap → (Heap → Option R) → Option R
  | [], _, [], h, K => K h
  | .v _ :: ts, outs, _ :: vs, h, K => layOuts ts outs vs h K
  | .ref r :: ts, outs, v :: vs, h, K => match v with
    | .one (.ptr s 0) => match outs.1 with
      | some y => layR n0 r y h fun cs h' => layOuts ts outs.2 vs (hset h' s (.row cs)) K
      | none => none
    | .one (.c .nilp _) => layOuts ts outs.2 vs h K
    | _ => none
  | _, _, _, _, _ => none
def layP : (t : PT) → t.I → Heap → (Bool × List Cell → Heap → Option R) → Option R
  | .v t, x, h, K => K (t.comp x) h
  | .ref r, x, h, K => layC n0 (.obj r) x h fun c h' => K (false, [c]) h'
def layPs : (ts : List PT) → ResP ts → Heap → (List (Bool × List Cell) → Heap → Option R) → Option R
  | [], _, h, K => K [] h
  | [t], x, h, K => layP n0 t x h fun c h' => K [c] h'
  | t :: u :: ts, x, h, K => layP n0 t x.1 h fun c h' => layPs (u :: ts) x.2 h' fun cs h'' => K (c :: cs) h''
def compsV : List (Bool × List Cell) → Option V
  | [c] => mkV c.1 c.2
  | cs => some (.tup cs)
def killH : List Nat → Heap → Heap
  | [], h => h
  | s :: l, h => killH l (lset (lmap (mapB (killCell s)) h) s none)
def killE : List Nat → List V → List V
  | [], env => env
  | s :: l, env => killE l (lmap (mapV (killCell s)) env)
def maxN : List Nat → Nat → Nat
  | [], n => n
  | s :: l, n => maxN l (bif Nat.ble n s then Nat.succ s else n)
def noPins (n : Nat) : List Nat → Bool
  | [] => true
  | s :: l => (Nat.blt s n || Nat.ble (n + 4) s) && noPins n l
/-- A call that may turn objects. -/
def callR (cal : CalleeR) (args : List Operand) (d : Option Nat) (st : St) (K : St → Option R) : Option R :=
  let st1 := freezes (frzArgs st.heap cal.ps (lmap (ev st.env) args)) st
  let vs := lmap (ev st1.env) args
  match readArgs st1.heap cal.ps vs with
  | some (xs, roots, ns, subs) => bif nodupL ns && noPins (llen st1.env) subs then ((applyF cal.ps cal.f xs).bind fun x =>
      let n0 := maxN roots (llen st1.env + 4)
      layOuts n0 cal.ps x.2 vs (killH ns st1.heap) fun h => layPs n0 cal.rs x.1 h fun cs h' =>
        match compsV cs, d with
        | some v, some d => K { env := lset (killE subs st1.env) d v, heap := h' }
        | _, none => K { env := killE subs st1.env, heap := h' }
        | _, _ => none) else none
  | none => none
end
def borV (h : Heap) : AT → V → Option V
  | .one (.ref r), .one (.ptr s o) => match borC h 3 (.ref r) (.ptr s o) with
    | some y => some (.one (.c (.ref r) y))
    | none => none
  | _, v => immV h v
def borVs (h : Heap) : List AT → List V → Option (List V)
  | [], [] => some []
  | t :: ts, v :: vs => match borV h t v, borVs h ts vs with
    | some a, some b => some (a :: b)
    | _, _ => none
  | _, _ => none
def CT.flat : CT → Bool
  | .sl _ => false
  | .ref _ => false
  | _ => true
def RT.flat : RT → Bool
  | .one c => c.flat
  | .cons c r => c.flat && r.flat
def AT.flat : AT → Bool
  | .one c => c.flat
  | .agg r => r.flat
def allFlat : List AT → Bool
  | [] => true
  | t :: ts => t.flat && allFlat ts

/-! ### Operations -/
section
variable {R : Type}
def sel (i : Int) : Nat → Nat → (Nat → Option R) → Option R
  | 0, _, _ => none
  | n + 1, j, K => bif decide (i = (j : Int)) then K j else sel i n (j + 1) K
def binInt (op : BinOp) (k : IntKind) (x y : Int) (K : V → Option R) : Option R :=
  match op with
  | .add => K (.one (.c (.int k) (k.wrap (x + y))))
  | .sub => K (.one (.c (.int k) (k.wrap (x - y))))
  | .mul => K (.one (.c (.int k) (k.wrap (x * y))))
  | .quo => bif decide (y = 0) then none else K (.one (.c (.int k) (k.wrap (x.tdiv y))))
  | .rem => bif decide (y = 0) then none else K (.one (.c (.int k) (x.tmod y)))
  | .eql => K (.one (.c .bool (x == y)))
  | .neq => K (.one (.c .bool (x != y)))
  | .lss => K (.one (.c .bool (decide (x < y))))
  | .leq => K (.one (.c .bool (decide (x ≤ y))))
  | .gtr => K (.one (.c .bool (decide (x > y))))
  | .geq => K (.one (.c .bool (decide (x ≥ y))))
  | .and => K (.one (.c (.int k) (k.wrap ((BitVec.ofInt k.bits x &&& BitVec.ofInt k.bits y).toNat))))
  | .or => K (.one (.c (.int k) (k.wrap ((BitVec.ofInt k.bits x ||| BitVec.ofInt k.bits y).toNat))))
  | .xor => K (.one (.c (.int k) (k.wrap ((BitVec.ofInt k.bits x ^^^ BitVec.ofInt k.bits y).toNat))))
  | .andNot => K (.one (.c (.int k) (k.wrap ((BitVec.ofInt k.bits x &&& ~~~BitVec.ofInt k.bits y).toNat))))
  | _ => none
def shiftInt (op : BinOp) (k : IntKind) (x y : Int) (K : V → Option R) : Option R :=
  bif decide (y < 0) then none else
  match op with
  | .shl => K (.one (.c (.int k) (k.wrap (x * ((2 ^ (min y.toNat k.bits) : Nat) : Int)))))
  | .shr => K (.one (.c (.int k) (x.fdiv ((2 ^ (min y.toNat k.bits) : Nat) : Int))))
  | _ => none
def binStr (op : BinOp) (x y : List UInt8) (K : V → Option R) : Option R :=
  match op with
  | .add => bif decide (x.length + y.length ≤ 9223372036854775807) then K (.one (.c .str (x ++ y))) else none
  | .eql => K (.one (.c .bool (x == y)))
  | .neq => K (.one (.c .bool (!(x == y))))
  | _ => none
def eqLeaf : TD → V → V → Option Bool
  | .int _, .one (.c (.int k) x), .one (.c (.int k') y) => bif kindEq k k' then some (x == y) else none
  | .bool, .one (.c .bool x), .one (.c .bool y) => some (x == y)
  | .str, .one (.c .str x), .one (.c .str y) => some (x == y)
  | _, _, _ => none
def partV (ti : TI) (cs : List Cell) (o : Nat) : Option V := mkV ti.agg (ltake (ldrop cs o) ti.size)
def eqFs (T : List (Nat × TI)) (rec : Nat → V → V → Option Bool) : List (Nat × Nat) → List Cell → List Cell → Option Bool
  | [], _, _ => some true
  | (t, off) :: l, xs, ys => match tfind T t with
    | some ti => match partV ti xs off, partV ti ys off with
      | some u, some v => match rec t u v, eqFs T rec l xs ys with
        | some a, some b => some (a && b)
        | _, _ => none
      | _, _ => none
    | none => none
def eqArr (rec : V → V → Option Bool) (ti : TI) : Nat → Nat → List Cell → List Cell → Option Bool
  | 0, _, _, _ => some true
  | n + 1, i, xs, ys => match partV ti xs (i * ti.size), partV ti ys (i * ti.size) with
    | some u, some v => match rec u v, eqArr rec ti n (i + 1) xs ys with
      | some a, some b => some (a && b)
      | _, _ => none
    | _, _ => none
/-- Are both the same? -/
def eqT (T : List (Nat × TI)) : Nat → Nat → V → V → Option Bool
  | 0, _, _, _ => none
  | d + 1, t, u, v => match tfind T t with
    | none => none
    | some ti => match ti.d with
      | .struct fs => match u, v with
        | .agg xs, .agg ys => bif ti.eq then eqFs T (eqT T d) fs xs ys else none
        | _, _ => none
      | .arr n e => match u, v, tfind T e with
        | .agg xs, .agg ys, some te => eqArr (eqT T d e) te n 0 xs ys
        | _, _, _ => none
      | k => eqLeaf k u v
def isNilV : V → Option Bool
  | .one (.ptr _ _) => some false
  | .one (.eptr _ _ _) => some false
  | .one (.iptr _ _ _) => some false
  | .one (.c (.ref _) x) => some x.isNone
  | .one (.c .nilp _) => some true
  | _ => none
def eqK {R : Type} (op : BinOp) (b : Bool) (K : V → Option R) : Option R := match op with
  | .eql => K (.one (.c .bool b))
  | .neq => K (.one (.c .bool (!b)))
  | _ => none
def binK (T : List (Nat × TI)) (op : BinOp) (t : Nat) (a b : V) (K : V → Option R) : Option R :=
  match a, b with
  | .one (.c (.int k) x), .one (.c (.int k') y) =>
    match op with
    | .shl => shiftInt .shl k x y K
    | .shr => shiftInt .shr k x y K
    | op => bif kindEq k k' then binInt op k x y K else none
  | .one (.c .str x), .one (.c .str y) => binStr op x y K
  | .one (.c .bool x), .one (.c .bool y) => match tfind T t with
    | some ti => match ti.d with
      | .bool => match op with
        | .eql => K (.one (.c .bool (x == y)))
        | .neq => K (.one (.c .bool (!(x == y))))
        | _ => none
      | _ => none
    | none => none
  | a, .one (.c .nilp _) => match tfind T t, isNilV a with
    | some ti, some b => match ti.d with
      | .ptr _ => eqK op b K
      | _ => none
    | _, _ => none
  | .agg xs, .agg ys => match tfind T t, eqT T 6 t (.agg xs) (.agg ys) with
    | some ti, some b => bif ti.eq then eqK op b K else none
    | _, _ => none
  | _, _ => none
def lenV (h : Heap) : TD → V → Option Int
  | .slice _, .one (.vec s) => match hget h s with
    | some (.lst _ xs) => some (xs.length : Int)
    | _ => none
  | .slice _, .one (.sub _ _ n) => some (n : Int)
  | .slice _, .one (.c (.sl _) xs) => some (xs.length : Int)
  | .slice _, .one .nils => some 0
  | .str, .one (.c .str l) => some (l.length : Int)
  | _, _ => none
def asInt : V → Option Int
  | .one (.c (.int _) x) => some x
  | _ => none
def asBool : V → Option Bool
  | .one (.c .bool x) => some x
  | _ => none

variable (T : List (Nat × TI)) (F : Funs)

def fieldOff (T : List (Nat × TI)) (t f : Nat) : Option (Nat × Nat) := match tfind T t with
  | some ti => match ti.d with
    | .struct fs => match lget (lmap some fs) f none with
      | some x => some x
      | none => none
    | _ => none
  | none => none
def fieldAddrK (t : Nat) (v : V) (f : Nat) (K : V → Option R) : Option R := match fieldOff T t f with
  | some x => match v with
    | .one (.ptr s o) => K (.one (.ptr s (o + x.2)))
    | .one (.eptr s i o) => K (.one (.eptr s i (o + x.2)))
    | .one (.iptr r y o) => K (.one (.iptr r y (o + x.2)))
    | _ => none
  | none => none
def loadK (t : Nat) (v : V) (h : Heap) (K : V → Option R) : Option R := match tfind T t, v with
  | some ti, .one x => match cellsAt h ti.size x with
    | some cs => bif Nat.beq (llen cs) ti.size then (match mkV ti.agg cs with
      | some u => K u
      | none => none) else none
    | none => none
  | _, _ => none
/-- The address of element i. -/
def indexAddrK (t : Nat) (v : V) (i : V) (h : Heap) (K : V → Option R) : Option R := match tfind T t, asInt i with
  | some ti, some i => match ti.d with
    | .slice e => match tfind T e with
      | some te => match v with
        | .one (.vec s) => match hget h s with
          | some (.lst r xs) => bif Nat.beq r.n te.size then (bif inR i xs.length then K (.one (.eptr s i.toNat 0)) else none) else none
          | _ => none
        | .one (.sub s lo n) => match hget h s with
          | some (.lst r _) => bif Nat.beq r.n te.size then (bif inR i n then K (.one (.eptr s (lo + i.toNat) 0)) else none) else none
          | _ => none
        | .one (.c (.sl r) xs) => bif Nat.beq r.n te.size then (bif inR i xs.length then K (.one (.iptr r (xs.getD i.toNat r.zero) 0)) else none) else none
        | _ => none
      | none => none
    | .arr n e => match tfind T e with
      | some te => match v with
        | .one (.ptr s o) => sel i n 0 fun j => K (.one (.ptr s (o + j * te.size)))
        | .one (.eptr s k o) => sel i n 0 fun j => K (.one (.eptr s k (o + j * te.size)))
        | .one (.iptr r y o) => sel i n 0 fun j => K (.one (.iptr r y (o + j * te.size)))
        | _ => none
      | none => none
    | _ => none
  | _, _ => none
def indexK (t : Nat) (v : V) (i : V) (K : V → Option R) : Option R := match tfind T t, asInt i with
  | some ti, some i => match ti.d, v with
    | .str, .one (.c .str l) => bif inR i l.length then K (.one (.c (.int .u8) ((l.getD i.toNat 0).toNat : Int))) else none
    | .arr n e, .agg cs => match tfind T e with
      | some te => sel i n 0 fun j => match mkV te.agg (ltake (ldrop cs (j * te.size)) te.size) with
        | some u => K u
        | none => none
      | none => none
    | _, _ => none
  | _, _ => none
def fieldK (t : Nat) (v : V) (f : Nat) (K : V → Option R) : Option R := match fieldOff T t f, v with
  | some x, .agg cs => match tfind T x.1 with
    | some ti => match mkV ti.agg (ltake (ldrop cs x.2) ti.size) with
      | some u => K u
      | none => none
    | none => none
  | _, _ => none
def convK (src t : Nat) (v : V) (h : Heap) (d : Option Nat) (K : V → Option Blk → Option R) : Option R := match tfind T src, tfind T t with
  | some si, some ti => match ti.d with
    | .int k => match v with
      | .one (.c (.int _) n) => K (.one (.c (.int k) (k.wrap n))) none
      | _ => none
    | .str => match v with
      | .one (.c .str l) => K (.one (.c .str l)) none
      | .one x => match si.d with
        | .slice e => match tfind T e with
          | some te => match te.d with
            | .int .u8 => match immCell h x with
              | some (.c (.sl (.one (.int .u8))) xs) => K (.one (.c .str (xs.map fun n => UInt8.ofNat n.toNat))) none
              | some .nils => K (.one (.c .str [])) none
              | _ => none
            | _ => none
          | none => none
        | _ => none
      | _ => none
    | .slice e => match tfind T e, v, d with
      | some te, .one (.c .str l), some d => match te.d with
        | .int .u8 => K (.one (.vec d)) (some (.lst (.one (.int .u8)) (l.map fun b => (b.toNat : Int))))
        | _ => none
      | _, _, _ => none
    | _ => none
  | _, _ => none
/-- The parts of a struct or an array, laid one by one. -/
def layParts (place : Nat → Option (Nat × Nat)) (env : Operand → V) : List (Nat × Operand) → List Cell → Option (List Cell)
  | [], cs => some cs
  | (i, x) :: l, cs => match place i, (env x).cells with
    | some (off, size), some ys => bif Nat.beq (llen ys) size && Nat.ble (off + size) (llen cs) then layParts place env l (splice cs off ys) else none
    | _, _ => none
def placeOf (T : List (Nat × TI)) : TD → Nat → Option (Nat × Nat)
  | .struct fs, i => match lget (lmap some fs) i none with
    | some x => match tfind T x.1 with
      | some ti => some (x.2, ti.size)
      | none => none
    | none => none
  | .arr _ e, i => match tfind T e with
    | some ti => some (i * ti.size, ti.size)
    | none => none
  | _, _ => none
def elemKnown (T : List (Nat × TI)) : TD → Bool
  | .arr _ e => (tfind T e).isSome
  | _ => true
def buildK (t : Nat) (parts : List (Nat × Operand)) (env : Operand → V) (K : V → Option R) : Option R := match tfind T t with
  | some ti => bif ti.agg && elemKnown T ti.d then (match layParts (placeOf T ti.d) env parts ti.zero with
      | some cs => K (.agg cs)
      | none => none) else none
  | none => none
/-- A row of elements out of cells. -/
def toRows (r : RT) : Nat → List Cell → Option (List r.I)
  | 0, [] => some []
  | n + 1, cs => match toRow r (ltake cs r.n), toRows r n (ldrop cs r.n) with
    | some x, some xs => some (x :: xs)
    | _, _ => none
  | _, _ => none
def zeros (z : List Cell) : Nat → List Cell
  | 0 => []
  | n + 1 => z ++ zeros z n
def buildSliceK (t len : Nat) (parts : List (Nat × Operand)) (env : Operand → V) (d : Option Nat) (K : V → Option Blk → Option R) : Option R := match tfind T t, d with
  | some ti, some d => match ti.d with
    | .slice e => match tfind T e with
      | some te => match te.row with
        | some r => match layParts (fun i => some (i * te.size, te.size)) env parts (zeros te.zero len) with
          | some cs => match toRows r len cs with
            | some xs => bif Nat.ble (len * te.size) 16777216 then K (.one (.vec d)) (some (.lst r xs)) else none
            | none => none
          | none => none
        | none => none
      | none => none
    | _ => none
  | _, _ => none
def makeSliceK (t : Nat) (l c : V) (d : Option Nat) (K : V → Option Blk → Option R) : Option R := match tfind T t, asInt l, asInt c, d with
  | some ti, some n, some m, some d => match ti.d with
    | .slice e => match tfind T e with
      | some te => match te.row with
        | some r => bif Nat.ble 1 te.bytes && (decide (n = m) && (decide (0 ≤ n) && decide (n * te.bytes ≤ 281474976710656))) then K (.one (.vec d)) (some (.lst r (List.replicate n.toNat r.zero))) else none
        | none => none
      | none => none
    | _ => none
  | _, _, _, _ => none
def bnd (x : Option V) (dflt : Int) : Option Int := match x with
  | none => some dflt
  | some v => asInt v
/-- Both bounds of a slice expression over n elements. -/
def bndsK (n : Nat) (lo hi : Option V) (K : Nat → Nat → Option R) : Option R := match lo, hi with
  | none, none => K 0 n
  | some lo, none => match asInt lo with
    | some i => bif inR i (n + 1) then K i.toNat n else none
    | none => none
  | none, some hi => match asInt hi with
    | some j => bif inR j (n + 1) then K 0 j.toNat else none
    | none => none
  | some lo, some hi => match asInt lo, asInt hi with
    | some i, some j => bif inR j (n + 1) then (bif inR i (j.toNat + 1) then K i.toNat j.toNat else none) else none
    | _, _ => none
/-- From one place up to another one: written as it is read, where an end is left out. -/
def cutL {α : Type} (lo hi : Option V) (l : List α) (i j : Nat) : List α := match lo, hi with
  | none, none => l
  | some _, none => l.drop i
  | none, some _ => l.take j
  | some _, some _ => (l.take j).drop i
def sliceK (t : Nat) (v : V) (lo hi : Option V) (h : Heap) (K : V → Option R) : Option R := match tfind T t with
  | some ti => match ti.d with
    | .str => match v with
      | .one (.c .str l) => bndsK l.length lo hi fun i j => K (.one (.c .str (cutL lo hi l i j)))
      | _ => none
    | .slice e => match tfind T e with
      | some te => match v with
        | .one (.c (.sl r) l) => bif Nat.beq r.n te.size then (bndsK l.length lo hi fun i j => K (.one (.c (.sl r) (cutL lo hi l i j)))) else none
        | .one (.vec s) => match hget h s with
          | some (.lst r xs) => bif Nat.beq r.n te.size then (bndsK xs.length lo hi fun i j => K (match lo, hi with
              | none, none => .one (.vec s)
              | none, some _ => .one (.sub s 0 j)
              | _, _ => .one (.sub s i (j - i)))) else none
          | _ => none
        | _ => none
      | none => none
    | _ => none
  | none => none
def mnmx (mx : Bool) : Int → List V → Option Int
  | a, [] => some a
  | a, .one (.c (.int .i64) y) :: l => mnmx mx (bif mx then (if y > a then y else a) else (if y < a then y else a)) l
  | _, _ => none
def mnmxK (mx : Bool) (vs : List V) (K : V → Option R) : Option R := match vs with
  | .one (.c (.int .i64) x) :: l => match mnmx mx x l with
    | some n => K (.one (.c (.int .i64) n))
    | none => none
  | _ => none
/-- An operation that turns nothing that was there: its value, and the block that it makes. -/
def opA (o : Oper) (env : Operand → V) (h : Heap) (K : V → Option Blk → Option R) : Option R :=
  match o.op with
  | .move x | .assign x => K (env x) none
  | .pick c a b => match asBool (env c) with
    | some c => bif c then K (env a) none else K (env b) none
    | none => none
  | .alloc t => match tfind T t, o.dst with
    | some ti, some d => K (.one (.ptr d 0)) (some (.row ti.zero))
    | _, _ => none
  | .box t x => match tfind T t, (env x).cells, o.dst with
    | some _, some cs, some d => K (.one (.ptr d 0)) (some (.row cs))
    | _, _, _ => none
  | .load t a => loadK T t (evG F.g env a) h fun v => K v none
  | .nilCheck x => match evG F.g env x with
    | .one (.ptr s o) => K (.one (.ptr s o)) none
    | .one (.eptr s i o) => K (.one (.eptr s i o)) none
    | .one (.iptr r x o) => K (.one (.iptr r x o)) none
    | .one (.c (.ref r) x) => match x with
      | some y => K (.one (.iptr r y 0)) none
      | none => none
    | _ => none
  | .fieldAddr t x f => fieldAddrK T t (evG F.g env x) f fun v => K v none
  | .field t x f => fieldK T t (env x) f fun v => K v none
  | .indexAddr t x i => indexAddrK T t (evG F.g env x) (env i) h fun v => K v none
  | .index t x i => indexK T t (env x) (env i) fun v => K v none
  | .binOp op t x y _ => binK T op t (env x) (env y) fun v => K v none
  | .unOp .not _ x => match asBool (env x) with
    | some b => K (.one (.c .bool (!b))) none
    | none => none
  | .unOp .neg _ x => match env x with
    | .one (.c (.int k) n) => K (.one (.c (.int k) (k.wrap (0 - n)))) none
    | _ => none
  | .unOp .xor _ x => match env x with
    | .one (.c (.int k) n) => K (.one (.c (.int k) (k.wrap ((BitVec.ofInt k.bits (if k.signed then -1 else k.max) ^^^ BitVec.ofInt k.bits n).toNat)))) none
    | _ => none
  | .convert s t x => convK T s t (env x) h o.dst K
  | .makeSlice t l c => makeSliceK T t (env l) (env c) o.dst K
  | .slice t x lo hi none => sliceK T t (env x) (lo.map env) (hi.map env) h fun v => K v none
  | .build t parts => buildK T t parts.toList env fun v => K v none
  | .buildSlice t len parts => buildSliceK T t len parts.toList env o.dst K
  | .extract x i => match env x with
    | .tup xs => match lget (lmap some xs) i none with
      | some (a, cs) => match mkV a cs with
        | some v => K v none
        | none => none
      | none => none
    | _ => none
  | .call c => match c.callee with
    | .builtin .len => match lmap env c.args.toList, c.argTypes.toList with
      | [v], [t] => match tfind T t with
        | some ti => match lenV h ti.d v with
          | some n => K (.one (.c (.int .i64) n)) none
          | none => none
        | none => none
      | _, _ => none
    | .builtin .max => mnmxK true (lmap env c.args.toList) fun v => K v none
    | .builtin .min => mnmxK false (lmap env c.args.toList) fun v => K v none
    | .value (.func f) => match F.v f with
      | some cal => bif allFlat cal.rs || (vNames (lmap env c.args.toList)).isEmpty then (match (bif allFlat cal.rs then borVs h cal.ps (lmap env c.args.toList) else immVs h (lmap env c.args.toList)) with
        | some vs => match app cal.ps cal.f vs with
          | some o => o.bind fun x => K (encRes cal.rs x) none
          | none => none
        | none => none) else none
      | none => none
    | _ => none
  | _ => none

def putA (d : Option Nat) (st : St) (K : St → Option R) (v : V) (nb : Option Blk) : Option R :=
  match d, nb with
  | some d, none => K { st with env := lset st.env d v }
  | none, none => K st
  | some d, some b => match hget st.heap d with
    | none => bif room st.heap d then K { env := lset st.env d v, heap := hset st.heap d b } else none
    | some _ => none
  | none, some _ => none
def storeK (t : Nat) (a x : V) (d : Option Nat) (st : St) (K : St → Option R) : Option R := match tfind T t, x.cells, d with
  | some ti, some cs, none => bif Nat.beq (llen cs) ti.size then (match a with
    | .one (.ptr s off) => match hget st.heap s with
      | some (.row l) => bif Nat.ble (off + llen cs) (llen l) then K { st with heap := hset st.heap s (.row (splice l off cs)) } else none
      | _ => none
    | .one (.eptr s i off) => match hget st.heap s with
      | some (.lst r xs) => bif Nat.ble (off + llen cs) r.n then (match toRow r (splice (rowCells r (xs.getD i r.zero)) off cs) with
        | some y => K { st with heap := hset st.heap s (.lst r (xs.set i y)) }
        | none => none) else none
      | _ => none
    | _ => none) else none
  | _, _, _ => none
/-- The elements that are appended. -/
def rowsOf (r : RT) (h : Heap) : V → Option (List r.I)
  | .one x => match immCell h x with
    | some (.c (.sl r') xs) => match RT.eq? r' r with
      | some e => some (e.down ▸ xs)
      | none => none
    | some .nils => some []
    | some (.c .str l) => match r with
      | .one (.int .u8) => some (l.map fun b => (b.toNat : Int))
      | _ => none
    | _ => none
  | _ => none
/-- More behind what s has. -/
def appendTo (s d : Nat) (r : RT) (zs ys : List r.I) (bytes : Nat) (st : St) (K : St → Option R) : Option R :=
  bif Nat.ble 1 bytes && decide ((zs.length + ys.length) * bytes ≤ 140737488355328) then
    K (let st' := kill s { st with heap := hset st.heap s (.lst r (zs ++ ys)) }
      { st' with env := lset st'.env d (.one (.vec s)) }) else none
def appendK (t : Nat) (a x : V) (d : Option Nat) (st : St) (K : St → Option R) : Option R := match tfind T t, d with
  | some ti, some d => match ti.d with
    | .slice e => match tfind T e with
      | some te => match te.row with
        | some r => match rowsOf r st.heap x with
          | some ys => match a with
            | .one .nils => match hget st.heap d with
              | none => bif room st.heap d then appendTo d d r [] ys te.bytes st K else none
              | some _ => none
            | .one (.vec s) => match hget st.heap s with
              | some (.lst r' xs) => match RT.eq? r' r with
                | some q => appendTo s d r (q.down ▸ xs) ys te.bytes st K
                | none => none
              | _ => none
            | .one (.sub s 0 n) => match hget st.heap s with
              | some (.lst r' xs) => match RT.eq? r' r with
                | some q => appendTo s d r ((q.down ▸ xs : List r.I).take n) ys te.bytes st K
                | none => none
              | _ => none
            | _ => none
          | none => none
        | none => none
      | none => none
    | _ => none
  | _, _ => none
/-- Is it a kind of slice or of string? -/
def seqT (T : List (Nat × TI)) (t : Nat) : Bool := match tfind T t with
  | some ti => (match ti.d with
    | .slice _ => true
    | .str => true
    | _ => false)
  | none => false
def isB (o : Oper) : Bool := match o.op with
  | .store _ _ _ => true
  | .call c => match c.callee with
    | .builtin .append => true
    | .value (.func f) => (F.r f).isSome
    | _ => false
  | _ => false
/-- Any operation. -/
def opK (o : Oper) (st : St) (K : St → Option R) : Option R :=
  match o.op with
  | .store t a x => match ev st.env a with
    | .one (.eptr _ _ _) =>
      let st' := freezes (vNames [ev st.env x]) st
      storeK T t (ev st'.env a) (ev st'.env x) o.dst st' K
    | _ => storeK T t (ev st.env a) (ev st.env x) o.dst st K
  | .buildSlice _ _ parts =>
    let st' := freezes (vNames (lmap (fun p => ev st.env p.2) parts.toList)) st
    opA T F o (ev st'.env) st'.heap (putA o.dst st' K)
  | .call c => match c.callee with
    | .builtin .append => match c.argTypes.toList, c.args.toList with
      | [t, tx], [a, x] => bif seqT T tx then appendK T t (ev st.env a) (ev st.env x) o.dst st K else none
      | _, _ => none
    | .value (.func f) =>
      match F.v f with
      | some cal =>
        let vs := lmap (ev st.env) c.args.toList
        let st' := bif allFlat cal.rs then st else freezes (vNames vs) st
        opA T F o (ev st'.env) st'.heap (putA o.dst st' K)
      | none => match F.r f with
        | some cal => callR cal c.args.toList o.dst st K
        | none => none
    | _ => opA T F o (ev st.env) st.heap (putA o.dst st K)
  | _ => opA T F o (ev st.env) st.heap (putA o.dst st K)

/-! ### Regions and code -/
def gdst (ops : List Oper) (j : Nat) : Option Nat := (lget ops j default).dst
def skipOp (o : Oper) (st : St) : St := match o.dst with
  | some d => { st with env := lset st.env d .skip }
  | none => st
def setB (st : St) (d : Nat) (b : Bool) : St := { st with env := lset st.env d (.one (.c .bool b)) }
def guardK (ops : List Oper) (o : Oper) (st : St) (yes no : St → Option R) : Option R :=
  match o.guard with
  | none => yes st
  | some (j, want) => match gdst ops j with
    | none => none
    | some d => match lget st.env d .any with
      | .one (.c .bool b) =>
        bif b then (bif want then yes (setB st d true) else no (setB st d true))
        else (bif want then no (setB st d false) else yes (setB st d false))
      | .skip => no st
      | _ => none
def applyDrop : List Nat → St → St
  | [], st => st
  | t :: l, st => match hget st.heap t with
    | none => applyDrop l st
    | some _ => bif Nat.blt t (llen st.env) then applyDrop l { kill t st with heap := lset (kill t st).heap t none } else applyDrop l st
/-- Does it make a block of the name of its place? -/
def makes (o : Oper) (env : List V) : Bool := match o.op with
  | .alloc _ => true
  | .box _ _ => true
  | .buildSlice _ _ _ => true
  | .makeSlice _ _ _ => true
  | .convert _ _ _ => true
  | .call c => match c.callee with
    | .builtin .append => match c.args.toList with
      | a :: _ => match ev env a with
        | .one .nils => true
        | _ => false
      | _ => false
    | _ => false
  | _ => false
/-- An elder block of that name is let go. -/
def pre (o : Oper) (st : St) : St := match o.dst with
  | some d => bif makes o st.env then applyDrop [d] st else st
  | none => st
def made : List Oper → List V → List Nat
  | [], _ => []
  | o :: l, env => match o.dst with
    | some d => bif makes o env then d :: made l env else made l env
    | none => made l env
def opsK (ops : List Oper) : List Oper → St → (St → Option R) → Option R
  | [], st, K => K st
  | o :: l, st, K => guardK ops o st (fun st => opK T F o (pre o st) fun st => opsK ops l st K) (fun st => opsK ops l (skipOp o st) K)

/-! A region whose order Go leaves open. -/
def bindsAny (e : Edge) : Bool := match e.ground with
  | .gcOnly _ => false
  | .textOnly _ => false
  | _ => true
/-- What an operation waits for, through others too: a bit each. -/
def maskOf (ms : List Nat) (o : Oper) : Nat := o.after.toList.foldr (fun e m => bif bindsAny e then Nat.lor m (Nat.lor (2 ^ e.on) (lget ms e.on 0)) else m) 0
def masks : List Oper → List Nat → List Nat
  | [], ms => ms
  | o :: l, ms => masks l (ms ++ [maskOf ms o])
/-- A copy that waits for nothing. -/
def isP0 (o : Oper) : Bool := match o.op, o.after.toList, o.guard, o.dst with
  | .move (.tmp _), [], none, some _ => true
  | _, _, _, _ => false
abbrev Acc := List (V × Option Blk)
def restrE (ops : List Oper) (mask : Nat) : Nat → List Oper → Acc → List V → List V
  | _, [], _, env => env
  | j, o :: l, acc, env => match o.dst with
    | none => restrE ops mask (j + 1) l acc env
    | some d => restrE ops mask (j + 1) l acc (bif isP0 o then env else lset env d (bif Nat.testBit mask j then (lget acc j (.any, none)).1 else .any))
/-- The same, as it is read. -/
def findD : List Oper → Nat → Nat → Option Nat
  | [], _, _ => none
  | o :: l, j, t => match o.dst with
    | some d => bif Nat.beq d t && !(isP0 o) then some j else findD l (j + 1) t
    | none => findD l (j + 1) t
def rhoE (ops : List Oper) (mask : Nat) (acc : Acc) (env : List V) : Operand → V
  | .tmp t => match findD ops 0 t with
    | some j => bif Nat.testBit mask j && Nat.blt t (llen env) then (lget acc j (.any, none)).1 else .any
    | none => lget env t .any
  | x => ev env x
def restrH (mask : Nat) : Nat → List Oper → Acc → Heap → Heap
  | _, [], _, h => h
  | j, o :: l, acc, h => match o.dst with
    | none => restrH mask (j + 1) l acc h
    | some d => restrH mask (j + 1) l acc (bif isP0 o then h else match lget acc j (.any, none) with
      | (_, some b) => bif Nat.testBit mask j then hset h d b else h
      | _ => h)
def p0Env : List Oper → List V → List V
  | [], env => env
  | o :: l, env => bif isP0 o then (match o.op, o.dst with
      | .move x, some d => p0Env l (lset env d (ev env x))
      | _, _ => p0Env l env) else p0Env l env
/-- Is there a slot for the guard? -/
def gOk (ops : List Oper) (j : Nat) (env : List V) : Bool := match gdst ops j with
  | some d => Nat.blt d (llen env)
  | none => false
def headsK (ops : List Oper) (ms : List Nat) (st : St) : Nat → List Oper → Acc → (Acc → Option R) → Option R
  | _, [], acc, K => K acc
  | i, o :: l, acc, K =>
    bif isP0 o then headsK ops ms st (i + 1) l (acc ++ [(.any, none)]) K else
    let mask := lget ms i 0
    let yes (acc : Acc) : Option R := opA T F o (rhoE ops mask acc st.env) (restrH mask 0 ops acc st.heap) fun v nb => headsK ops ms st (i + 1) l (acc ++ [(v, nb)]) K
    let no (acc : Acc) : Option R := headsK ops ms st (i + 1) l (acc ++ [(.skip, none)]) K
    match o.guard with
    | none => yes acc
    | some (j, want) => bif Nat.testBit mask j && gOk ops j st.env then (match lget acc j (.any, none) with
      | (.one (.c .bool b), none) =>
        bif b then (bif want then yes (lset acc j (.one (.c .bool true), none)) else no (lset acc j (.one (.c .bool true), none)))
        else (bif want then no (lset acc j (.one (.c .bool false), none)) else yes (lset acc j (.one (.c .bool false), none)))
      | (.skip, none) => no acc
      | _ => none) else none
def headLen : List Oper → Nat
  | [] => 0
  | o :: l => bif isB F o then 0 else headLen l + 1
/-- Does each operation of the tail wait for all ahead of it? -/
def tailOk (p0 : Nat) : Nat → List Nat → Bool
  | _, [] => true
  | t, m :: l => Nat.beq (Nat.lor (Nat.lor m p0) (2 ^ t - 1)) (Nat.lor m p0) && tailOk p0 (t + 1) l
def p0Mask : Nat → List Oper → Nat
  | _, [] => 0
  | i, o :: l => bif isP0 o then Nat.lor (2 ^ i) (p0Mask (i + 1) l) else p0Mask (i + 1) l
def freshNames : List Oper → Acc → Heap → Bool
  | o :: l, (_, some _) :: acc, h => (match o.dst with
      | some d => (match hget h d with
        | none => room h d
        | some _ => false)
      | none => false) && freshNames l acc h
  | _ :: l, _ :: acc, h => freshNames l acc h
  | _, _, _ => true
/-- The slots that the operations write, each once. -/
def dsts : List Oper → List Nat
  | [] => []
  | o :: l => match o.dst with
    | some d => d :: dsts l
    | none => dsts l
def memN : Nat → List Nat → Bool
  | _, [] => false
  | x, y :: l => Nat.beq x y || memN x l
def nodupN : List Nat → Bool
  | [] => true
  | x :: l => !(memN x l) && nodupN l
/-- What each waits for stands ahead of it. -/
def edgesOk : Nat → List Oper → Bool
  | _, [] => true
  | i, o :: l => o.after.toList.all (fun e => !bindsAny e || Nat.blt e.on i) && edgesOk (i + 1) l
/-- May the copies be taken ahead of all else? -/
def p0sFree (ops : Array Oper) (listed : Array Bool) : Nat → List Oper → Bool
  | _, [] => true
  | i, o :: l => (bif isP0 o then Region.free .any ops listed i else true) && p0sFree ops listed (i + 1) l
def drawnK (ops : List Oper) (st : St) (K : St → Option R) : Option R :=
  let n := headLen F ops
  let ms := masks ops []
  let heads := ltake ops n
  let st0 : St := { st with env := p0Env heads st.env }
  bif nodupN (dsts heads) && (tailOk (p0Mask 0 heads) n (ldrop ms n) && (edgesOk 0 ops && (Region.noSelect ops.toArray && p0sFree ops.toArray (Array.replicate ops.length false) 0 heads))) then
    headsK T F heads ms st0 0 heads [] fun acc =>
      bif freshNames heads acc st0.heap then
        opsK T F ops (ldrop ops n) { env := restrE heads (2 ^ n - 1) 0 heads acc st0.env, heap := restrH (2 ^ n - 1) 0 heads acc st0.heap } K
      else none
  else none

structure Hint where
  dead : List Nat := []
  drop : List Nat := []
  vecT : List (Nat × Nat × RT) := []            -- slot, name, row: a slice that grows in the loop
  vecC : List (Nat × Nat × Nat × RT) := []      -- block, place, name, row
def applyDead : List Nat → List V → List V
  | [], env => env
  | t :: l, env => applyDead l (lset env t .any)
def retract (s n : Nat) (st : St) : St := match hget st.heap s with
  | some (.lst r xs) => kill s { st with heap := hset st.heap s (.lst r (xs.take n)) }
  | _ => st
def applyVecT : List (Nat × Nat × RT) → St → St
  | [], st => st
  | (t, s, r) :: l, st => match lget st.env t .any with
    | .one .nils => match hget st.heap s with
      | none => bif room st.heap s then applyVecT l { env := lset st.env t (.one (.vec s)), heap := hset st.heap s (.lst r []) } else applyVecT l st
      | some _ => applyVecT l st
    | .one (.sub s' 0 n) => bif Nat.beq s s' then applyVecT l { retract s n st with env := lset (retract s n st).env t (.one (.vec s)) } else applyVecT l st
    | _ => applyVecT l st
def applyVecC : List (Nat × Nat × Nat × RT) → St → St
  | [], st => st
  | (b, o, s, r) :: l, st => match hget st.heap b with
    | some (.row cs) => match lget cs o .any with
      | .nils => match hget st.heap s with
        | none => bif room st.heap s then applyVecC l { st with heap := hset (hset st.heap b (.row (lset cs o (.vec s)))) s (.lst r []) } else applyVecC l st
        | some _ => applyVecC l st
      | _ => applyVecC l st
    | _ => applyVecC l st
def norm (H : Hint) (st : St) : St := applyVecC H.vecC (applyVecT H.vecT (applyDrop H.drop { st with env := applyDead H.dead st.env }))
def iter (F : (St → Option R) → St → Option R) : Nat → St → Option R
  | 0, _ => none
  | n + 1, st => F (iter F n) st
def hfind : List (Nat × Hint) → Nat → Hint
  | [], _ => {}
  | (k, x) :: l, t => bif Nat.beq k t then x else hfind l t

def seqK (f : St → Option R) (K : Exit → St → Option R) : Exit → St → Option R
  | .normal, st => f st
  | e, st => K e st
def blockK (id : Nat) (K : Exit → St → Option R) : Exit → St → Option R
  | .exit j, st => bif Nat.beq j id then K .normal st else K (.exit j) st
  | e, st => K e st
/-- What code comes to. 'k': the rounds that each loop may take; 'hs': what is laid down at the head of a loop, by its block's number; 'id': that number. -/
def exec (k : Nat) (hs : List (Nat × Hint)) : Nat → Code → St → (Exit → St → Option R) → Option R
  | _, .skip, st, K => K .normal st
  | _, .region _ ops false, st, K => opsK T F ops.toList ops.toList st (K .normal)
  | _, .region _ ops true, st, K => drawnK T F ops.toList (applyDrop (made (ltake ops.toList (headLen F ops.toList)) st.env) st) (K .normal)
  | _, .seq a b, st, K => exec k hs 0 a st (seqK (fun st => exec k hs 0 b st K) K)
  | _, .cond (.tmp t) a b, st, K => match asBool (lget st.env t .any) with
    | some c => bif c then exec k hs 0 a (setB st t true) K else exec k hs 0 b (setB st t false) K
    | none => none
  | _, .block id c, st, K => exec k hs id c st (blockK id K)
  | id, .loop c, st, K => iter (fun self st => exec k hs 0 c st (seqK (fun st => self (norm (hfind hs id) st)) K)) k (norm (hfind hs id) st)
  | _, .exit j, st, K => K (.exit j) (norm (hfind hs j) st)
  | _, .ret, st, K => K .ret st
  | _, _, _, _ => none

/-! ### A whole function -/
def resV1 (st : St) : ResultVar → Option V
  | .tmp t => some (lget st.env t .any)
  | .cell a t => match tfind T t, lget st.env a .any with
    | some ti, .one x => match cellsAt st.heap ti.size x with
      | some cs => bif Nat.beq (llen cs) ti.size then mkV ti.agg cs else none
      | none => none
    | _, _ => none
def resVs (st : St) : List ResultVar → Option (List V)
  | [] => some []
  | x :: l => match resV1 T st x, resVs st l with
    | some a, some b => some (a :: b)
    | _, _ => none
def decVs : (rs : List AT) → List V → Option (Res rs)
  | [], [] => some ()
  | [t], [x] => t.dec x
  | t :: u :: ts, x :: xs => match t.dec x, decVs (u :: ts) xs with
    | some a, some b => some (a, b)
    | _, _ => none
  | _, _ => none
def retK (rs : List AT) (results : List ResultVar) : Exit → St → Option (Res rs)
  | .normal, st | .ret, st => match resVs T st results with
    | some vs => match borVs st.heap rs vs with
      | some us => decVs rs us
      | none => none
    | none => none
  | _, _ => none
def skips : Nat → List V
  | 0 => []
  | n + 1 => .skip :: skips n
def nones : Nat → Heap
  | 0 => []
  | n + 1 => none :: nones n
/-- The function's body, at arguments, with room for some more names than it has slots. -/
def run (k : Nat) (hs : List (Nat × Hint)) (more : Nat) (fn : Func) (rs : List AT) (args : List V) : Option (Res rs) :=
  match fn.body with
  | some c => exec T F k hs 0 c ⟨args ++ skips (fn.ntmps - llen args), nones (fn.ntmps + more)⟩ (retK T rs fn.results.toList)
  | none => none

/-! ### A whole function that may turn objects -/
/-- The arguments are laid into memory: roots from name i on, what belongs to them from n0 on. -/
def layArgs {Q : Type} (n0 : Nat) : (ts : List PT) → PArgs ts → Nat → Heap → (List V → Heap → Option Q) → Option Q
  | [], _, _, h, K => K [] h
  | .v t :: ts, xs, i, h, K => layArgs n0 ts xs.2 i h fun vs h' => K (t.enc xs.1 :: vs) h'
  | .ref r :: ts, xs, i, h, K => match xs.1 with
    | none => layArgs n0 ts xs.2 i h fun vs h' => K (.one (.c .nilp ()) :: vs) h'
    | some y => layR n0 r y h fun cs h' => bif Nat.blt i n0 && room' h' i then layArgs n0 ts xs.2 (Nat.succ i) (hset h' i (.row cs)) fun vs h'' => K (.one (.ptr i 0) :: vs) h'' else none
def frzRes (h : Heap) : List PT → List V → List Nat
  | .v _ :: ts, v :: vs => vNames [v] ++ frzRes h ts vs
  | .ref r :: ts, v :: vs => (match v with
    | .one c => frzC h (.obj r) c
    | _ => []) ++ frzRes h ts vs
  | _, _ => []
def readP (h : Heap) : (t : PT) → V → Option (t.I × List Nat)
  | .v t, v => match t.dec v with
    | some x => some (x, [])
    | none => none
  | .ref r, v => match v with
    | .one c => readC h (.obj r) c
    | _ => none
def readRes (h : Heap) : (ts : List PT) → List V → Option (ResP ts × List Nat)
  | [], [] => some ((), [])
  | [t], [v] => readP h t v
  | t :: u :: ts, v :: vs => match readP h t v, readRes h (u :: ts) vs with
    | some (a, ns), some (b, ms) => some ((a, b), ns ++ ms)
    | _, _ => none
  | _, _ => none
def readOuts (h : Heap) : (ts : List PT) → List V → Option (Outs ts × List Nat)
  | [], [] => some ((), [])
  | .v _ :: ts, _ :: vs => readOuts h ts vs
  | .ref r :: ts, v :: vs => match v with
    | .one (.c .nilp _) => match readOuts h ts vs with
      | some (b, ms) => some ((none, b), ms)
      | none => none
    | .one (.ptr s 0) => match readC h (.obj r) (.ptr s 0), readOuts h ts vs with
      | some (some y, ns), some (b, ms) => some ((some y, b), ns ++ ms)
      | _, _ => none
    | _ => none
  | _, _ => none
def retR (ps rs : List PT) (results : List ResultVar) (vs : List V) : Exit → St → Option (ResP rs × Outs ps)
  | .normal, st | .ret, st => match resVs T st results with
    | some us =>
      let st' := freezes (frzRes st.heap rs us ++ frzArgs st.heap ps vs) st
      match resVs T st' results with
      | some us' => match readRes st'.heap rs us', readOuts st'.heap ps vs with
        | some (x, ns), some (o, ms) => bif nodupL (ms ++ ns) then some (x, o) else none
        | _, _ => none
      | none => none
    | none => none
  | _, _ => none
def runR (k : Nat) (hs : List (Nat × Hint)) (more : Nat) (fn : Func) (ps rs : List PT) (xs : PArgs ps) : Option (ResP rs × Outs ps) :=
  match fn.body with
  | some c => layArgs (fn.ntmps + 4) ps xs fn.ntmps (nones (fn.ntmps + more)) fun vs h =>
      exec T F k hs 0 c ⟨vs ++ skips (fn.ntmps - llen vs), h⟩ (retR T ps rs fn.results.toList vs)
  | none => none
end
end Go.AM
