/- An operation's value does not hang on what is done with it. -/
import Derived.Test.YtfjlhoglgdmmaaaGreatDoorAmCode
set_option autoImplicit false
set_option linter.unusedVariables false
set_option linter.unusedSimpArgs false
namespace Go.AM
section
variable {R : Type} (T : List (Nat × TI)) (F : Funs)
theorem bif_bind {α β : Type} (c : Bool) (x y : Option α) (K : α → Option β) : (bif c then x else y).bind K = bif c then x.bind K else y.bind K := by cases c <;> rfl
theorem sel_run (i : Int) (K : Nat → Option V) (L : V → Option R) : ∀ (n j : Nat), sel i n j (fun j => (K j).bind L) = (sel i n j K).bind L
  | 0, _ => rfl
  | n + 1, j => by simp only [sel, bif_bind, sel_run i K L n (j + 1)]
theorem fieldAddrK_run (t : Nat) (v : V) (f : Nat) (K : V → Option R) : fieldAddrK T t v f K = (fieldAddrK T t v f some).bind K := by
  unfold fieldAddrK; repeat' split
  all_goals rfl
theorem loadK_run (t : Nat) (v : V) (h : Heap) (K : V → Option R) : loadK T t v h K = (loadK T t v h some).bind K := by
  unfold loadK
  split
  · split
    · rw [bif_bind]
      split
      · rfl
      · rfl
    · rfl
  · rfl
theorem indexAddrK_run (t : Nat) (v i : V) (h : Heap) (K : V → Option R) : indexAddrK T t v i h K = (indexAddrK T t v i h some).bind K := by
  unfold indexAddrK
  repeat' split
  all_goals first
    | rfl
    | (simp only [bif_bind]; rfl)
    | (rw [← sel_run]; rfl)
theorem indexK_run (t : Nat) (v i : V) (K : V → Option R) : indexK T t v i K = (indexK T t v i some).bind K := by
  unfold indexK
  repeat' split
  all_goals first
    | rfl
    | (simp only [bif_bind]; rfl)
    | (rw [← sel_run]; congr 1; funext j; split <;> rfl)
theorem fieldK_run (t : Nat) (v : V) (f : Nat) (K : V → Option R) : fieldK T t v f K = (fieldK T t v f some).bind K := by
  unfold fieldK; repeat' split
  all_goals rfl
theorem convK_run (s t : Nat) (v : V) (h : Heap) (d : Option Nat) (K : V → Option Blk → Option R) : convK T s t v h d K = (convK T s t v h d (fun u nb => some (u, nb))).bind (fun p => K p.1 p.2) := by
  unfold convK; repeat' split
  all_goals rfl
theorem buildK_run (t : Nat) (parts : List (Nat × Operand)) (env : Operand → V) (K : V → Option R) : buildK T t parts env K = (buildK T t parts env some).bind K := by
  unfold buildK
  split
  · rw [bif_bind]; split <;> rfl
  · rfl
theorem buildSliceK_run (t len : Nat) (parts : List (Nat × Operand)) (env : Operand → V) (d : Option Nat) (K : V → Option Blk → Option R) : buildSliceK T t len parts env d K = (buildSliceK T t len parts env d (fun u nb => some (u, nb))).bind (fun p => K p.1 p.2) := by
  unfold buildSliceK
  repeat' split
  all_goals first
    | rfl
    | (simp only [bif_bind]; rfl)
theorem makeSliceK_run (t : Nat) (l c : V) (d : Option Nat) (K : V → Option Blk → Option R) : makeSliceK T t l c d K = (makeSliceK T t l c d (fun u nb => some (u, nb))).bind (fun p => K p.1 p.2) := by
  unfold makeSliceK
  repeat' split
  all_goals first
    | rfl
    | (simp only [bif_bind]; rfl)
theorem bndsK_run (n : Nat) (lo hi : Option V) (K : Nat → Nat → Option V) (L : V → Option R) : bndsK n lo hi (fun i j => (K i j).bind L) = (bndsK n lo hi K).bind L := by
  unfold bndsK
  repeat' split
  all_goals first
    | rfl
    | (simp only [bif_bind]; rfl)
theorem sliceK_run (t : Nat) (v : V) (lo hi : Option V) (h : Heap) (K : V → Option R) : sliceK T t v lo hi h K = (sliceK T t v lo hi h some).bind K := by
  unfold sliceK
  split
  · split
    · split
      · rw [← bndsK_run]; rfl
      · rfl
    · split
      · split
        · rw [bif_bind, ← bndsK_run]; rfl
        · split
          · rw [bif_bind, ← bndsK_run]; rfl
          · rfl
        · rfl
      · rfl
    · rfl
  · rfl
theorem mnmxK_run (mx : Bool) (vs : List V) (K : V → Option R) : mnmxK mx vs K = (mnmxK mx vs some).bind K := by
  unfold mnmxK
  repeat' split
  all_goals rfl
theorem binInt_run (op : BinOp) (k : IntKind) (x y : Int) (K : V → Option R) : binInt op k x y K = (binInt op k x y some).bind K := by
  unfold binInt
  split
  all_goals first
    | rfl
    | (simp only [bif_bind]; rfl)
theorem shiftInt_run (op : BinOp) (k : IntKind) (x y : Int) (K : V → Option R) : shiftInt op k x y K = (shiftInt op k x y some).bind K := by
  unfold shiftInt
  rw [bif_bind]
  split <;> rfl
theorem binStr_run (op : BinOp) (x y : List UInt8) (K : V → Option R) : binStr op x y K = (binStr op x y some).bind K := by
  unfold binStr
  split
  all_goals first
    | rfl
    | (simp only [bif_bind]; rfl)
theorem eqK_run (op : BinOp) (b : Bool) (K : V → Option R) : eqK op b K = (eqK op b some).bind K := by
  unfold eqK
  split <;> rfl
theorem binK_run (op : BinOp) (t : Nat) (a b : V) (K : V → Option R) : binK T op t a b K = (binK T op t a b some).bind K := by
  unfold binK
  split
  · split
    · exact shiftInt_run _ _ _ _ _
    · exact shiftInt_run _ _ _ _ _
    · rw [bif_bind, binInt_run]; rfl
  · exact binStr_run _ _ _ _
  · repeat' split
    all_goals rfl
  · split
    · split
      · exact eqK_run _ _ _
      · rfl
    · rfl
  · split
    · rw [bif_bind, eqK_run]; rfl
    · rfl
  · rfl
theorem opA_run (o : Oper) (env : Operand → V) (h : Heap) (K : V → Option Blk → Option R) : opA T F o env h K = (opA T F o env h (fun u nb => some (u, nb))).bind (fun p => K p.1 p.2) := by
  have one : ∀ {X : (V → Option R) → Option R} {Y : (V → Option (V × Option Blk)) → Option (V × Option Blk)} {Z : Option V}, (∀ K, X K = Z.bind K) → (∀ K, Y K = Z.bind K) →
      X (fun v => K v none) = (Y fun v => some (v, none)).bind (fun p => K p.1 p.2) := by
    intro X Y Z h1 h2
    rw [h1, h2]
    cases Z <;> rfl
  unfold opA
  split
  · rfl
  · rfl
  · split
    · rw [bif_bind]; rfl
    · rfl
  · split <;> rfl
  · split <;> rfl
  · exact one (loadK_run T _ _ _) (loadK_run T _ _ _)
  · repeat' split
    all_goals rfl
  · exact one (fieldAddrK_run T _ _ _) (fieldAddrK_run T _ _ _)
  · exact one (fieldK_run T _ _ _) (fieldK_run T _ _ _)
  · exact one (indexAddrK_run T _ _ _ _) (indexAddrK_run T _ _ _ _)
  · exact one (indexK_run T _ _ _) (indexK_run T _ _ _)
  · exact one (binK_run T _ _ _ _) (binK_run T _ _ _ _)
  · split <;> rfl
  · split <;> rfl
  · split <;> rfl
  · exact convK_run T _ _ _ _ _ _
  · exact makeSliceK_run T _ _ _ _ _
  · exact one (sliceK_run T _ _ _ _ _) (sliceK_run T _ _ _ _ _)
  · exact one (buildK_run T _ _ _) (buildK_run T _ _ _)
  · exact buildSliceK_run T _ _ _ _ _ _
  · repeat' split
    all_goals rfl
  · split
    · repeat' split
      all_goals rfl
    · exact one (mnmxK_run _ _) (mnmxK_run _ _)
    · exact one (mnmxK_run _ _) (mnmxK_run _ _)
    · split
      · rw [bif_bind]
        split
        · split
          · rw [Option.bind_assoc]; rfl
          · rfl
        · rfl
      · rfl
    · rfl
  · rfl
end
end Go.AM
