/- Functions as the abstract machine runs them: tables of callees, each of them the run of its own code. -/
import Derived.Test.YtfjlhoglgdmmaaaGreatDoorAmRunR
set_option autoImplicit false
set_option linter.unusedVariables false
namespace Go.AM
/-- A function of arguments one by one, out of one of all of them. -/
def curryF : (ts : List AT) → {ρ : Type} → (List V → Option ρ) → Fn ts ρ
  | [], _, g => g []
  | t :: ts, _, g => fun x => curryF ts fun us => g (t.enc x :: us)
def curryR : (ts : List PT) → {ρ : Type} → (PArgs ts → Option ρ) → FnR ts ρ
  | [], _, g => g ()
  | _ :: ts, _, g => fun x => curryR ts fun xs => g (x, xs)
theorem agree_curry : ∀ (ts : List AT) {ρ : Type} (g : Nat → List V → Option ρ) (k : Nat), Agree ts (curryF ts (g k)) g
  | [], _, g, k => fun x hx => ⟨k, hx⟩
  | t :: ts, _, g, k => fun y => agree_curry ts (fun k us => g k (t.enc y :: us)) k
theorem applyF_curryR : ∀ (ts : List PT) {ρ : Type} (g : PArgs ts → Option ρ) (xs : PArgs ts), applyF ts (curryR ts g) xs = g xs
  | [], _, g, () => rfl
  | _ :: ts, _, g, (x, xs) => applyF_curryR ts (fun ys => g (x, ys)) xs
def Callee.of (T : List (Nat × TI)) (F : Funs) (k : Nat) (hs : List (Nat × Hint)) (more : Nat) (fn : Func) (ps rs : List AT) : Callee :=
  { ps := ps, rs := rs, f := curryF ps fun us => run T F k hs more fn rs us }
def CalleeR.of (T : List (Nat × TI)) (F : Funs) (k : Nat) (hs : List (Nat × Hint)) (more : Nat) (fn : Func) (ps rs : List PT) : CalleeR :=
  { ps := ps, rs := rs, f := curryR ps fun xs => runR T F k hs more fn ps rs xs }
def look {α : Type} : List (Nat × α) → Nat → Option α
  | [], _ => none
  | (k, x) :: l, n => bif Nat.beq k n then some x else look l n
theorem look_mem {α : Type} : ∀ {l : List (Nat × α)} {n : Nat} {x : α}, look l n = some x → (n, x) ∈ l
  | [], n, x, h => by cases h
  | (k, y) :: l, n, x, h => by
    unfold look at h
    cases hb : Nat.beq k n with
    | true =>
      rw [hb, cond_true] at h
      have := Nat.eq_of_beq_eq_true hb
      subst this
      cases h
      simp
    | false =>
      rw [hb, cond_false] at h
      exact List.mem_cons_of_mem _ (look_mem h)
def funs (v : List (Nat × Callee)) (r : List (Nat × CalleeR)) (g : Globs) : Funs := { v := look v, r := look r, g := g }
/-- All of a table do what is told. -/
def AllV (P : Program) (G : Globs) : List (Nat × Callee) → Prop
  | [] => True
  | p :: l => FunOK P G p.1 p.2 ∧ AllV P G l
def AllR (P : Program) (G : Globs) : List (Nat × CalleeR) → Prop
  | [] => True
  | p :: l => FunROK P G p.1 p.2 ∧ AllR P G l
theorem AllV.mem {P : Program} {G : Globs} : ∀ {l : List (Nat × Callee)}, AllV P G l → ∀ p ∈ l, FunOK P G p.1 p.2
  | [], _, p, hp => by cases hp
  | q :: l, h, p, hp => by
    rcases List.mem_cons.1 hp with rfl | hp
    · exact h.1
    · exact AllV.mem h.2 p hp
theorem AllR.mem {P : Program} {G : Globs} : ∀ {l : List (Nat × CalleeR)}, AllR P G l → ∀ p ∈ l, FunROK P G p.1 p.2
  | [], _, p, hp => by cases hp
  | q :: l, h, p, hp => by
    rcases List.mem_cons.1 hp with rfl | hp
    · exact h.1
    · exact AllR.mem h.2 p hp
theorem fok_funs {P : Program} {v : List (Nat × Callee)} {r : List (Nat × CalleeR)} {G : Globs} (hv : AllV P G v) (hr : AllR P G r) : FOK P (funs v r G) where
  v := fun f cal h => hv.mem _ (look_mem h)
  r := fun f cal h => hr.mem _ (look_mem h)
section
variable {P : Program} {T : List (Nat × TI)} {F : Funs}
theorem funOK_of (hm : P.follows .mixedOrders = true) (hT : TOK P T) (hF : FOK P F) {f : Nat} {fn : Func} (hf : P.funcs[f]? = some fn) (hn : (fn.name == "runtime.NumGoroutine") = false) (hb : fn.body.isNone = false) (k : Nat) (hs : List (Nat × Hint)) (more : Nat) (ps rs : List AT)
    (hps : ps.length ≤ fn.ntmps) : FunOK P F.g f (Callee.of T F k hs more fn ps rs) :=
  fun_ok hm hT hF hf hn hb hs more (cal := Callee.of T F k hs more fn ps rs) hps (agree_curry ps (fun k us => run T F k hs more fn rs us) k)
theorem funROK_of (hm : P.follows .mixedOrders = true) (hT : TOK P T) (hF : FOK P F) {f : Nat} {fn : Func} (hf : P.funcs[f]? = some fn) (hn : (fn.name == "runtime.NumGoroutine") = false) (hb : fn.body.isNone = false) (k : Nat) (hs : List (Nat × Hint)) (more : Nat) (ps rs : List PT)
    (hps : ps.length ≤ fn.ntmps) (hpl : ps.length ≤ 4) : FunROK P F.g f (CalleeR.of T F k hs more fn ps rs) where
  ok := calleeR_ok hm hT hF hf hs more (cal := CalleeR.of T F k hs more fn ps rs) hps hpl fun xs x hx => ⟨k, (applyF_curryR ps (fun xs => runR T F k hs more fn ps rs xs) xs).symm.trans hx⟩
  fn := ⟨fn, hf, hn, hb⟩
end
end Go.AM
