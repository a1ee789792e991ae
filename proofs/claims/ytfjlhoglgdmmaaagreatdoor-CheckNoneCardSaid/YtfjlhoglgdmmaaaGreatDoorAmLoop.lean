/- A function's code in parts: what stands ahead of a loop, the loop's rounds, what comes behind it. -/
import Derived.Test.YtfjlhoglgdmmaaaGreatDoorAmUse
set_option autoImplicit false
set_option linter.unusedVariables false
namespace Go.AM
def bodyOf (f : Func) : Code := f.body.getD .skip
def loopIn : Code → Code
  | .seq a b => match loopIn a with
    | .skip => loopIn b
    | c => c
  | .block _ c => loopIn c
  | .loop c => c
  | _ => .skip
/-- One step behind the other, none of them a sequence. -/
def right : Code → Code → Code
  | .seq a b, rest => right a (right b rest)
  | c, rest => .seq c rest
def takeC : Nat → Code → Code
  | n + 1, .seq a b => .seq a (takeC n b)
  | _, _ => .skip
def dropC : Nat → Code → Code
  | n + 1, .seq _ b => dropC n b
  | _, c => c
/-- How many steps stand ahead of the first loop. -/
def ahead : Code → Nat
  | .seq (.block _ (.loop _)) _ => 0
  | .seq _ b => ahead b + 1
  | _ => 0
def anys : Nat → List V
  | 0 => []
  | n + 1 => .any :: anys n
theorem iter_succ {R : Type} (F : (St → Option R) → St → Option R) (n : Nat) (st : St) : iter F (n + 1) st = F (iter F n) st := rfl
theorem seqK_seqK {R : Type} (f g : St → Option R) (K : Exit → St → Option R) : seqK f (seqK g K) = seqK f K := by
  funext e st
  cases e <;> rfl
section
variable {R : Type} {T : List (Nat × TI)} {F : Funs} {k : Nat} {hs : List (Nat × Hint)}
theorem exec_seq (id : Nat) (a b : Code) (st : St) (K : Exit → St → Option R) : exec T F k hs id (.seq a b) st K = exec T F k hs 0 a st (seqK (fun st => exec T F k hs 0 b st K) K) := rfl
theorem exec_right : ∀ (c rest : Code) (id : Nat) (st : St) (K : Exit → St → Option R), exec T F k hs id (right c rest) st K = exec T F k hs 0 c st (seqK (fun st => exec T F k hs 0 rest st K) K) := by
  intro c
  induction c with
  | seq a b iha ihb =>
    intro rest id st K
    simp only [right]
    rw [iha, exec_seq]
    congr 1
    rw [seqK_seqK]
    congr 1
    funext st
    rw [ihb]
  | _ => intros; rfl
theorem exec_skip_K (id : Nat) (c : Code) (st : St) (K : Exit → St → Option R) : exec T F k hs id (right c .skip) st K = exec T F k hs 0 c st K := by
  rw [exec_right]
  congr 1
  funext e st
  cases e <;> rfl
theorem exec_takeC : ∀ (n : Nat) (c : Code) (st : St) (K : Exit → St → Option R), exec T F k hs 0 c st K = exec T F k hs 0 (takeC n c) st (seqK (fun st => exec T F k hs 0 (dropC n c) st K) K)
  | 0, c, st, K => by cases c <;> rfl
  | n + 1, .seq a b, st, K => by
    simp only [takeC, dropC]
    rw [exec_seq, exec_seq, seqK_seqK]
    congr 2
    funext st
    exact exec_takeC n b st K
  | n + 1, .skip, st, K => rfl
  | n + 1, .region _ _ _, st, K => rfl
  | n + 1, .cond _ _ _, st, K => rfl
  | n + 1, .block _ _, st, K => rfl
  | n + 1, .loop _, st, K => rfl
  | n + 1, .rangeFunc _ _ _ _, st, K => rfl
  | n + 1, .exit _, st, K => rfl
  | n + 1, .scope _, st, K => rfl
  | n + 1, .label _, st, K => rfl
  | n + 1, .goto _, st, K => rfl
  | n + 1, .ret, st, K => rfl
  | n + 1, .refuse _, st, K => rfl
/-- A loop's round. -/
def roundK (T : List (Nat × TI)) (F : Funs) (k : Nat) (hs : List (Nat × Hint)) (j : Nat) (L : Code) (K : Exit → St → Option R) (self : St → Option R) (st : St) : Option R :=
  exec T F k hs 0 L st (seqK (fun st => self (norm (hfind hs j) st)) K)
/-- What comes behind a loop. -/
def behindK (T : List (Nat × TI)) (F : Funs) (k : Nat) (hs : List (Nat × Hint)) (j : Nat) (rest : Code) (K : Exit → St → Option R) : Exit → St → Option R :=
  blockK j (seqK (fun st => exec T F k hs 0 rest st K) K)
theorem exec_loop {c L rest : Code} {j : Nat} (h : c = .seq (.block j (.loop L)) rest) (st : St) (K : Exit → St → Option R) :
    exec T F k hs 0 c st K = iter (roundK T F k hs j L (behindK T F k hs j rest K)) k (norm (hfind hs j) st) := by
  subst h
  rfl
/-- Up to the first loop, and the loop. -/
theorem exec_parts {c L rest : Code} {j : Nat} (n : Nat) (h : dropC n c = .seq (.block j (.loop L)) rest) (st : St) (K : Exit → St → Option R) :
    exec T F k hs 0 c st K = exec T F k hs 0 (takeC n c) st (seqK (fun st => iter (roundK T F k hs j L (behindK T F k hs j rest K)) k (norm (hfind hs j) st)) K) := by
  rw [exec_takeC n]
  congr 2
  funext st
  exact exec_loop h st K
theorem behindK_exit (j : Nat) (rest : Code) (K : Exit → St → Option R) (st : St) : behindK T F k hs j rest K (.exit j) st = exec T F k hs 0 rest st K := by
  unfold behindK blockK
  simp [seqK]
theorem run_body {fn : Func} {rs : List AT} {more : Nat} {args : List V} (hb : fn.body.isSome = true) :
    run T F k hs more fn rs args = exec T F k hs 0 (right (bodyOf fn) .skip) ⟨args ++ skips (fn.ntmps - llen args), nones (fn.ntmps + more)⟩ (retK T rs fn.results.toList) := by
  rw [exec_skip_K]
  unfold run bodyOf
  cases h : fn.body with
  | none => rw [h] at hb; cases hb
  | some c => rfl
end
end Go.AM
