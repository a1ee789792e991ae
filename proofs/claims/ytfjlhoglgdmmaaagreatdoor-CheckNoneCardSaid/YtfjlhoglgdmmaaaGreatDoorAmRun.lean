/- The abstract machine is true of the model: code, and whole functions. -/
import Derived.Test.YtfjlhoglgdmmaaaGreatDoorAmDrawn5
import Derived.Deep.LoopGhost
set_option autoImplicit false
set_option linter.unusedVariables false
set_option linter.unusedSimpArgs false
namespace Go.AM
section
variable {P : Program} {T : List (Nat × TI)} {F : Funs} {R : Type} {w0 : World} {O : Old} {M : Nat → Prop}
theorem exec_ok (hm : P.follows .mixedOrders = true) (hT : TOK P T) (hF : FOK P F) (hG : GlobW F.g w0 O M) (n : Nat) (hs : List (Nat × Hint)) {q : R} : ∀ (c : Code) (id : Nat) {Q : Exit → Act → World → Prop} (hQp : ∀ c a w, ¬ Q (.panic c) a w) {φ : Nat → Option Nat} {st : St} {a : Act} {w : World} {K : Exit → St → Option R},
    Rel w0 O M φ st a w → exec T F n hs id c st K = some q → (∀ e st' φ' a' w', Rel w0 O M φ' st' a' w' → K e st' = some q → Q e a' w') → c.wp P Q a w := by
  intro c
  induction c with
  | skip =>
    intro id Q hQp φ st a w K k he hK
    exact wp_skip (hK _ _ _ _ _ k he)
  | region rid ops draw =>
    intro id Q hQp φ st a w K k he hK
    cases draw with
    | false =>
      unfold exec at he
      have := opsK_ok hT hF hG (Q := Q) ops.toList k he (fun st' φ' a' w' k' h' => hK _ _ _ _ _ k' h')
      rw [Array.toArray_toList] at this
      exact wp_region_list this
    | true =>
      unfold exec at he
      obtain ⟨φ1, k1⟩ := applyDrop_ok (made (ltake ops.toList (headLen F ops.toList)) st.env) k
      have := drawnK_ok hm hT hF hG hQp (fun st' φ' a' w' k' h' => hK _ _ _ _ _ k' h') k1 he rid
      rw [Array.toArray_toList] at this
      exact this
  | seq x y ihx ihy =>
    intro id Q hQp φ st a w K k he hK
    unfold exec at he
    refine wp_seq (ihx 0 (Q := Exit.then (y.wp P Q) Q) (fun c a w => hQp c a w) k he fun e st' φ' a' w' k' h' => ?_)
    cases e with
    | normal => exact ihy 0 hQp k' h' hK
    | exit j => exact hK _ _ _ _ _ k' h'
    | goto l => exact hK _ _ _ _ _ k' h'
    | ret => exact hK _ _ _ _ _ k' h'
    | panic ch => exact hK _ _ _ _ _ k' h'
    | outgrown => exact hK _ _ _ _ _ k' h'
  | cond c x y ihx ihy =>
    intro id Q hQp φ st a w K k he hK
    cases c with
    | tmp t =>
      unfold exec at he
      split at he
      · rename_i b hb
        have hv : a.eval (.tmp t) = .bool b := asBool_ok hb (k.ev (.tmp t))
        cases b with
        | true =>
          rw [cond_true] at he
          exact wp_cond_true hv (ihx 0 hQp (setB_ok k hv) he hK)
        | false =>
          rw [cond_false] at he
          exact wp_cond_false hv (ihy 0 hQp (setB_ok k hv) he hK)
      · cases he
    | const v => unfold exec at he; cases he
    | global g => unfold exec at he; cases he
    | func f => unfold exec at he; cases he
  | block j c ih =>
    intro id Q hQp φ st a w K k he hK
    unfold exec at he
    refine wp_block (ih j (Q := Exit.inBlock j Q) (fun c a w => hQp c a w) k he fun e st' φ' a' w' k' h' => ?_)
    cases e with
    | exit i =>
      have h' : (bif Nat.beq i j then K .normal st' else K (.exit i) st') = some q := h'
      unfold Exit.inBlock
      simp only
      cases hij : Nat.beq i j with
      | true =>
        rw [hij, cond_true] at h'
        rw [if_pos (Nat.eq_of_beq_eq_true hij)]
        exact hK _ _ _ _ _ k' h'
      | false =>
        rw [hij, cond_false] at h'
        rw [if_neg (fun e => by subst e; simp at hij)]
        exact hK _ _ _ _ _ k' h'
    | normal => exact hK _ _ _ _ _ k' h'
    | goto l => exact hK _ _ _ _ _ k' h'
    | ret => exact hK _ _ _ _ _ k' h'
    | panic ch => exact hK _ _ _ _ _ k' h'
    | outgrown => exact hK _ _ _ _ _ k' h'
  | loop c ih =>
    intro id Q hQp φ st a w K k he hK
    unfold exec at he
    obtain ⟨φ1, k1⟩ := norm_ok (hfind hs id) k
    refine wp_loop_ghost (fun m a w => ∃ φ st, Rel w0 O M φ st a w ∧ iter (fun self st => exec T F n hs 0 c st (seqK (fun st => self (norm (hfind hs id) st)) K)) m st = some q) n ⟨φ1, _, k1, he⟩ ?_
    rintro m a w ⟨φ, st, k, he⟩
    cases m with
    | zero => cases he
    | succ m =>
      refine ih 0 (Q := Exit.then _ Q) (fun c a w => hQp c a w) k he fun e st' φ' a' w' k' h' => ?_
      cases e with
      | normal =>
        obtain ⟨φ2, k2⟩ := norm_ok (hfind hs id) k'
        exact ⟨m, Nat.lt_succ_self m, φ2, _, k2, h'⟩
      | exit j => exact hK _ _ _ _ _ k' h'
      | goto l => exact hK _ _ _ _ _ k' h'
      | ret => exact hK _ _ _ _ _ k' h'
      | panic ch => exact hK _ _ _ _ _ k' h'
      | outgrown => exact hK _ _ _ _ _ k' h'
  | exit j =>
    intro id Q hQp φ st a w K k he hK
    unfold exec at he
    obtain ⟨φ1, k1⟩ := norm_ok (hfind hs j) k
    exact wp_exit (hK _ _ _ _ _ k1 he)
  | ret =>
    intro id Q hQp φ st a w K k he hK
    unfold exec at he
    exact wp_ret (hK _ _ _ _ _ k he)
  | _ =>
    intros
    rename_i he _
    unfold exec at he
    cases he

/-! ### Whole functions -/
/-- Where f comes to a value, g does, with enough rounds. -/
def Agree : (ts : List AT) → {ρ : Type} → Fn ts ρ → (Nat → List V → Option ρ) → Prop
  | [], _, f, g => ∀ x, f = some x → ∃ k, g k [] = some x
  | t :: ts, _, f, g => ∀ y : t.I, Agree ts (f y) (fun k us => g k (t.enc y :: us))
theorem agree_app {φ : Nat → Option Nat} {h : Heap} {w : World} {N : Nat → Prop} : ∀ {ts : List AT} {ρ : Type} {f : Fn ts ρ} {g : Nat → List V → Option ρ} {us : List V} {vs : List Value} {x : ρ}, Agree ts f g → All2 (VOK φ h w N) us vs → app ts f us = some (some x) →
    ∃ k us', g k us' = some x ∧ All2 (VOK φ h w N) us' vs
  | [], ρ, f, g, [], [], x, ha, _, he => by
    simp only [app, Option.some.injEq] at he
    obtain ⟨k, hk⟩ := ha x he
    exact ⟨k, [], hk, trivial⟩
  | [], ρ, f, g, [], _ :: _, x, _, k, _ => k.elim
  | [], ρ, f, g, _ :: _, _, x, _, _, he => by simp [app] at he
  | t :: ts, ρ, f, g, [], _, x, _, _, he => by simp [app] at he
  | t :: ts, ρ, f, g, u :: us, [], x, _, k, _ => k.elim
  | t :: ts, ρ, f, g, u :: us, v :: vs, x, ha, k, he => by
    simp only [app] at he
    split at he
    · rename_i y hy
      obtain ⟨n, us', h1, h2⟩ := agree_app (ha y) k.2 he
      exact ⟨n, t.enc y :: us', h1, dec_ok hy k.1, h2⟩
    · cases he

/-! ### Results -/
theorem comp_of_enc {φ : Nat → Option Nat} {h : Heap} {w : World} {N : Nat → Prop} {t : AT} {x : t.I} {v : Value} (k : VOK φ h w N (t.enc x) v) : CompOK φ h w N (t.comp x) v := by
  cases t with
  | one c => exact ⟨_, rfl, k⟩
  | agg r => exact k
theorem lget_skips : ∀ (n t : Nat), lget (skips n) t .any = .skip ∨ lget (skips n) t .any = .any
  | 0, t => .inr (lget_nil _ _)
  | n + 1, 0 => .inl rfl
  | n + 1, t + 1 => lget_skips n t
theorem lget_skips_lt : ∀ (n t : Nat), t < n → lget (skips n) t .any = .skip
  | n + 1, 0, _ => rfl
  | n + 1, t + 1, h => lget_skips_lt n t (by omega)
theorem hget_nones : ∀ (n t : Nat), hget (nones n) t = none
  | 0, t => lget_nil _ _
  | n + 1, 0 => rfl
  | n + 1, t + 1 => hget_nones n t
theorem skips_length : ∀ n, (skips n).length = n
  | 0 => rfl
  | n + 1 => by simp [skips, skips_length n]
/-- The state that a call begins with. -/
theorem Rel.start {w : World} {N : Nat → Prop} {us : List V} {vs : List Value} (k : All2 (VOK (fun _ => none) [] w N) us vs) (n more : Nat) (hn : vs.length ≤ n) :
    Rel w ⟨fun _ => False, fun _ => none⟩ (fun b => ¬ N b ∧ b < w.heap.size) (fun _ => none) ⟨us ++ skips (n - llen us), nones (n + more)⟩ { tmps := vs.toArray ++ Array.replicate (n - vs.length) undef, defers := [] } w := by
  have hl := k.length
  have hL : Later (fun _ => none) [] w N (fun _ => none) (nones (n + more)) w (Imm (fun b => ¬ N b ∧ b < w.heap.size) (fun _ => none)) :=
    ⟨⟨fun s b hb => by rw [show hget ([] : Heap) s = none from lget_nil _ _] at hb; cases hb⟩, fun b hb _ => ⟨rfl, fun h => h.1 hb, fun s hs => by cases hs⟩, fun s b hs => by cases hs⟩
  refine { blk := fun s b hb => ?_, non := fun s _ => rfl, inj := fun s t b hs => (by cases hs), own := fun s b hs => (by cases hs), old := fun b hb => hb.2, len := ?_, env := fun t => ?_, defers := rfl, frm := ⟨rfl, rfl, rfl, Nat.le_refl _, fun _ _ _ => rfl⟩, fresh := fun s b hs => (by cases hs), pin := fun s b hs => (by cases hs) }
  · rw [hget_nones] at hb; cases hb
  · simp [llen_eq, skips_length]; omega
  · show VOK _ _ _ _ (lget (us ++ skips (n - llen us)) t .any) ((vs.toArray ++ Array.replicate (n - vs.length) undef).getD t undef)
    rw [Array.getD_eq_getD_getElem?, llen_eq, hl]
    by_cases ht : t < us.length
    · rw [lget_eq, List.getElem?_append_left ht, Array.getElem?_append_left (by simp; omega)]
      have h1 : us[t]? = some us[t] := List.getElem?_eq_getElem ht
      have h2 : vs[t]? = some (vs[t]'(by omega)) := List.getElem?_eq_getElem (by omega)
      rw [h1]
      simp only [List.getElem?_toArray, h2, Option.getD_some]
      exact VOK.later hL (All2.get k t _ _ h1 h2)
    · rw [lget_eq, List.getElem?_append_right (by omega), ← lget_eq]
      by_cases ht2 : t < n
      · rw [lget_skips_lt _ _ (by omega)]
        rw [Array.getElem?_append_right (by simp; omega)]
        simp [show t - vs.length < n - vs.length by omega]
        rfl
      · rcases lget_skips (n - vs.length) (t - us.length) with h | h
        · have : lget (skips (n - vs.length)) (t - us.length) .any = .any := by
            rw [lget_eq, List.getElem?_eq_none (by rw [skips_length]; omega)]; rfl
          rw [this]; trivial
        · rw [h]; trivial
section
variable {φ : Nat → Option Nat} {st : St} {a : Act} {w : World}
/-- What 'results' does with each. -/
def getRes (tmps : Array Value) : ResultVar → Sem Value
  | .tmp t => pure (tmps.getD t undef)
  | .cell a t => do loadVar t (← asAddr (tmps.getD a undef))
theorem resV1_ok (hT : TOK P T) (k : Rel w0 O M φ st a w) {x : ResultVar} {u : V} (h : resV1 T st x = some u) : ∃ v, (getRes a.tmps x).run P w = .ok v w ∧ VOK φ st.heap w (Imm M φ) u v := by
  cases x with
  | tmp t => cases h; exact ⟨_, rfl, k.env t⟩
  | cell b t =>
    unfold resV1 at h
    simp only at h
    split at h
    · rename_i ti c ht hc
      have hv := k.env b
      rw [hc] at hv
      split at h
      · rename_i cs hcs
        cases hl : Nat.beq (llen cs) ti.size with
        | false => rw [hl, cond_false] at h; cases h
        | true =>
        rw [hl, cond_true] at h
        have hl := Nat.eq_of_beq_eq_true hl
        rw [llen_eq] at hl
        obtain ⟨b', o', vs, h1, h2, h3⟩ := cellsAt_ok k.toHRel hv hcs
        obtain ⟨v, h4, h5⟩ := run_loadVar (hT t ti ht) h2 (by rw [← h3.length, hl]) h h3
        refine ⟨v, ?_, h5⟩
        show (do loadVar t (← asAddr (a.tmps.getD b undef)) : Sem Value).run P w = _
        rw [h1]
        simp only [asAddr, Sem.run_bind, Sem.run_pure, Result.andThen_ok, h4]
      · cases h
    · cases h
theorem resVs_ok (hT : TOK P T) (k : Rel w0 O M φ st a w) : ∀ {l : List ResultVar} {us : List V}, resVs T st l = some us → ∃ vs, (l.mapM (getRes a.tmps)).run P w = .ok vs w ∧ All2 (VOK φ st.heap w (Imm M φ)) us vs
  | [], us, h => by cases h; exact ⟨[], by simp, trivial⟩
  | x :: l, us, h => by
    unfold resVs at h
    split at h
    · rename_i y ys' h1 h2
      cases h
      obtain ⟨v, h3, h4⟩ := resV1_ok hT k h1
      obtain ⟨vs, h5, h6⟩ := resVs_ok hT k h2
      exact ⟨v :: vs, by simp [h3, h5], h4, h6⟩
    · cases h
theorem decVs_ok {N : Nat → Prop} : ∀ {rs : List AT} {ys : List V} {x : Res rs} {vs : List Value}, decVs rs ys = some x → All2 (VOK (fun _ => none) [] w N) ys vs →
    All2 (CompOK (fun _ => none) [] w N) (comps rs x) vs ∧ VOK (fun _ => none) [] w N (encRes rs x) (if h : vs.toArray.size = 1 then vs.toArray[0] else .tuple vs.toArray)
  | [], [], x, [], h, k => ⟨trivial, #[], rfl, trivial⟩
  | [], [], x, _ :: _, _, k => k.elim
  | [], _ :: _, x, _, h, _ => by simp [decVs] at h
  | [t], [y], x, [v], h, k => by
    have h1 := dec_ok (show t.dec y = some x from h) k.1
    exact ⟨⟨comp_of_enc h1, trivial⟩, h1⟩
  | [t], [y], x, [], h, k => k.elim
  | [t], [y], x, _ :: _ :: _, h, k => k.2.elim
  | [t], [], x, _, h, _ => by simp [decVs] at h
  | [t], _ :: _ :: _, x, _, h, _ => by simp [decVs] at h
  | t :: u :: ts, [], x, _, h, _ => by simp [decVs] at h
  | t :: u :: ts, y :: ys, x, [], _, k => k.elim
  | t :: u :: ts, y :: ys, x, v :: vs, h, k => by
    simp only [decVs] at h
    split at h
    · rename_i p q h1 h2
      cases h
      obtain ⟨h3, _⟩ := decVs_ok (rs := u :: ts) h2 k.2
      have h5 := dec_ok h1 k.1
      have hall : All2 (CompOK (fun _ => none) [] w N) (comps (t :: u :: ts) (p, q)) (v :: vs) := ⟨comp_of_enc h5, h3⟩
      refine ⟨hall, ?_⟩
      have hne : ¬ (v :: vs).toArray.size = 1 := by
        have := h3.length
        cases vs with
        | nil => cases ts <;> simp [comps] at this
        | cons _ _ => simp
      rw [dif_neg hne]
      exact ⟨_, rfl, hall⟩
    · cases h
theorem results_ok (hT : TOK P T) (k : Rel w0 O M φ st a w) {fn : Func} {rs : List AT} {x : Res rs} {ys us : List V} (h1 : resVs T st fn.results.toList = some ys) (h0 : borVs st.heap rs ys = some us) (h2 : decVs rs us = some x) :
    ∃ v, (results fn a.tmps).run P w = .ok v w ∧ VOK (fun _ => none) [] w (Still M) (encRes rs x) v := by
  obtain ⟨vs, h3, h4⟩ := resVs_ok hT k h1
  refine ⟨_, ?_, (decVs_ok h2 (borVs_ok k.toHRel h4 h0)).2⟩
  have hr : results fn a.tmps = (do
      let vs ← fn.results.mapM (getRes a.tmps)
      pure (if h : vs.size = 1 then vs[0] else .tuple vs)) := by
    unfold results
    congr 1
    first
      | done
      | (congr 1; funext x; cases x <;> rfl)
  rw [hr, Array.mapM_eq_mapM_toList]
  simp only [map_eq_pure_bind, Sem.run_bind, h3, Result.andThen_ok, Sem.run_pure]
end
theorem app_len : ∀ {ts : List AT} {ρ : Type} {f : Fn ts ρ} {us : List V} {x : Option ρ}, app ts f us = some x → us.length = ts.length
  | [], ρ, f, [], x, _ => rfl
  | [], ρ, f, _ :: _, x, h => by simp [app] at h
  | t :: ts, ρ, f, [], x, h => by simp [app] at h
  | t :: ts, ρ, f, u :: us, x, h => by
    simp only [app] at h
    split at h
    · simp [app_len h]
    · cases h
/-- The function does what f says, where the abstract run says so. -/
theorem callee_ok (hm : P.follows .mixedOrders = true) (hT : TOK P T) (hF : FOK P F) {f : Nat} {fn : Func} (hf : P.funcs[f]? = some fn) (hs : List (Nat × Hint)) (more : Nat) {cal : Callee} (hps : cal.ps.length ≤ fn.ntmps)
    (h : Agree cal.ps cal.f (fun k us => run T F k hs more fn cal.rs us)) : CalleeOK P F.g f cal := by
  intro w N us vs x hG hus happ
  obtain ⟨k, us', h1, h2⟩ := agree_app h hus happ
  have hlen : vs.length ≤ fn.ntmps := by rw [← hus.length, app_len happ]; exact hps
  unfold run at h1
  split at h1
  · rename_i c hb
    refine calls_of_wp hf hb ?_
    have hst := Rel.start h2 fn.ntmps more hlen
    have fin : ∀ st' φ' (a' : Act) (w' : World), Rel w ⟨fun _ => False, fun _ => none⟩ (fun b => ¬ N b ∧ b < w.heap.size) φ' st' a' w' → (match resVs T st' fn.results.toList with
        | some vs => match borVs st'.heap cal.rs vs with
          | some us => decVs cal.rs us
          | none => none
        | none => none) = some x → a'.defers = [] ∧ ∃ v, (results fn a'.tmps).run P w' = .ok v w' ∧ (Ext w w' ∧ VOK (fun _ => none) [] w' (fun b => N b ∨ w.heap.size ≤ b) (encRes cal.rs x) v) := by
      intro st' φ' a' w' k' h'
      split at h'
      · rename_i ys hys
        split at h'
        case h_2 => cases h'
        rename_i us hus
        obtain ⟨v, h3, h4⟩ := results_ok hT k' hys hus h'
        refine ⟨k'.defers, v, h3, ⟨k'.frm.os, k'.frm.tape, k'.frm.output, k'.frm.size, fun b hb => k'.frm.block b hb (fun h => h)⟩, ?_⟩
        refine VOK.later ⟨Sub.refl _ _, fun b hb _ => ⟨rfl, ?_⟩, fun s b hs => by cases hs⟩ h4
        rcases Classical.em (N b) with hn | hn
        · exact .inl hn
        · exact .inr (Nat.le_of_not_lt fun hlt => hb ⟨hn, hlt⟩)
      · cases h'
    have hGW : GlobW F.g w ⟨fun _ => False, fun _ => none⟩ (fun b => ¬ N b ∧ b < w.heap.size) := fun g r x hg => ⟨(hG g r x hg).1, fun h => h, fun h => h.1 (hG g r x hg).2.1, (hG g r x hg).2.2⟩
    refine exec_ok (O := ⟨fun _ => False, fun _ => none⟩) hm hT hF hGW k hs c 0 (fun c a w hq => hq.2) (by simpa using hst) h1 (fun e st' φ' a' w' k' h' => ?_)
    cases e with
    | normal => exact fin st' φ' a' w' k' h'
    | ret => exact fin st' φ' a' w' k' h'
    | exit j => cases h'
    | goto l => cases h'
    | panic ch => cases h'
    | outgrown => cases h'
  · cases h1
theorem fun_ok (hm : P.follows .mixedOrders = true) (hT : TOK P T) (hF : FOK P F) {f : Nat} {fn : Func} (hf : P.funcs[f]? = some fn) (hn : (fn.name == "runtime.NumGoroutine") = false) (hb : fn.body.isNone = false) (hs : List (Nat × Hint)) (more : Nat) {cal : Callee}
    (hps : cal.ps.length ≤ fn.ntmps) (h : Agree cal.ps cal.f (fun k us => run T F k hs more fn cal.rs us)) : FunOK P F.g f cal :=
  ⟨callee_ok hm hT hF hf hs more hps h, fn, hf, hn, hb⟩
end
end Go.AM
