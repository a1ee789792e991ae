/- Calls that may turn objects: what is handed back. -/
import Derived.Test.YtfjlhoglgdmmaaaGreatDoorAmObj2
set_option autoImplicit false
set_option linter.unusedVariables false
set_option linter.unusedSimpArgs false
namespace Go.AM
def OutsOwn (w : World) (N : Nat → Prop) : (ts : List PT) → PArgs ts → Outs ts → List Value → List Nat → Prop
  | [], _, _, vs, B => vs = [] ∧ B = []
  | .v _ :: ts, xs, outs, vs, B => ∃ v vs', vs = v :: vs' ∧ OutsOwn w N ts xs.2 outs vs' B
  | .ref r :: ts, xs, outs, vs, B => ∃ v vs', vs = v :: vs' ∧ (match xs.1 with
      | none => OutsOwn w N ts xs.2 outs.2 vs' B
      | some _ => ∃ y B1 B2, outs.1 = some y ∧ B = B1 ++ B2 ∧ OwnC w N (.obj r) (some y) v B1 ∧ OutsOwn w N ts xs.2 outs.2 vs' B2)
def ResOwn1 (w : World) (N : Nat → Prop) : (t : PT) → t.I → Value → List Nat → Prop
  | .v t, x, v, B => CompOK (fun _ => none) [] w N (t.comp x) v ∧ B = []
  | .ref r, x, v, B => OwnC w N (.obj r) x v B
def ResOwn (w : World) (N : Nat → Prop) : (ts : List PT) → ResP ts → List Value → List Nat → Prop
  | [], _, us, B => us = [] ∧ B = []
  | [t], x, us, B => ∃ v, us = [v] ∧ ResOwn1 w N t x v B
  | t :: u :: ts, x, us, B => ∃ v us' B1 B2, us = v :: us' ∧ B = B1 ++ B2 ∧ ResOwn1 w N t x.1 v B1 ∧ ResOwn w N (u :: ts) x.2 us' B2
def tupOf (us : List Value) : Value := if h : us.toArray.size = 1 then us.toArray[0] else .tuple us.toArray
/-- The function does what 'cal' says, to the objects too. -/
def CalleeROK (P : Program) (G : Globs) (f : Nat) (cal : CalleeR) : Prop :=
  ∀ (w : World) (N : Nat → Prop) (xs : PArgs cal.ps) (vs : List Value) (B : List Nat) (x : ResP cal.rs) (outs : Outs cal.ps), GlobOK G w N → ArgsOwn w N cal.ps xs vs B → B.Nodup → (∀ b ∈ B, ¬ N b) → applyF cal.ps cal.f xs = some (x, outs) →
    Calls P f vs.toArray w fun e w' => match e with
      | .returned v => ∃ (N' : Nat → Prop) (Bo Br : List Nat) (us : List Value), v = tupOf us ∧
          (w'.os = w.os ∧ w'.tape = w.tape ∧ w'.output = w.output ∧ w.heap.size ≤ w'.heap.size ∧ ∀ b, b < w.heap.size → b ∉ B → w'.heap[b]? = w.heap[b]?) ∧
          (∀ b, N b → b < w.heap.size → N' b) ∧ (∀ b, N' b → N b ∨ b ∈ B ∨ w.heap.size ≤ b) ∧ OutsOwn w' N' cal.ps xs outs vs Bo ∧ ResOwn w' N' cal.rs x us Br ∧ (Bo ++ Br).Nodup ∧
          (∀ b ∈ Bo ++ Br, ¬ N' b ∧ (b ∈ B ∨ w.heap.size ≤ b) ∧ b < w'.heap.size)
      | _ => False
structure FunROK (P : Program) (G : Globs) (f : Nat) (cal : CalleeR) : Prop where
  ok : CalleeROK P G f cal
  fn : ∃ fn, P.funcs[f]? = some fn ∧ (fn.name == "runtime.NumGoroutine") = false ∧ fn.body.isNone = false
/-- All functions that are told of do what is told. -/
structure FOK (P : Program) (F : Funs) : Prop where
  v : FOKv P F
  r : ∀ f cal, F.r f = some cal → FunROK P F.g f cal
/-- The roots among the arguments. -/
def RootsOK (φ : Nat → Option Nat) : (ts : List PT) → PArgs ts → List V → List Value → List Nat → Prop
  | [], _, us, vs, roots => us = [] ∧ vs = [] ∧ roots = []
  | .v _ :: ts, xs, us, vs, roots => ∃ u us' v vs', us = u :: us' ∧ vs = v :: vs' ∧ RootsOK φ ts xs.2 us' vs' roots
  | .ref r :: ts, xs, us, vs, roots => ∃ u us' v vs', us = u :: us' ∧ vs = v :: vs' ∧ (match xs.1 with
      | none => (∃ z, u = .one (.c .nilp z)) ∧ RootsOK φ ts xs.2 us' vs' roots
      | some _ => ∃ s b roots', u = .one (.ptr s 0) ∧ roots = s :: roots' ∧ φ s = some b ∧ v = .pointer (some ⟨b, 0, none⟩) ∧ RootsOK φ ts xs.2 us' vs' roots')
section
variable {M : Nat → Prop} {φ : Nat → Option Nat} {h : Heap} {w : World}
theorem readArgs_roots (k : HRel M φ h w) : ∀ (ts : List PT) {us : List V} {vs : List Value} {xs : PArgs ts} {roots ns subs : List Nat}, All2 (VOK φ h w (Imm M φ)) us vs → readArgs h ts us = some (xs, roots, ns, subs) → RootsOK φ ts xs us vs roots
  | [], us, vs, xs, roots, ns, subs, hk, hr => by
    match us, vs, hk, hr with
    | [], [], _, hr =>
      simp only [readArgs, Option.some.injEq, Prod.mk.injEq] at hr
      exact ⟨rfl, rfl, hr.2.1.symm⟩
    | [], _ :: _, hk, _ => exact hk.elim
    | _ :: _, _, _, hr => simp [readArgs] at hr
  | .v t :: ts, us, vs, xs, roots, ns, subs, hk, hr => by
    match us, vs, hk, hr with
    | u :: us, v :: vs, hk, hr =>
      unfold readArgs at hr
      split at hr
      · rename_i x xs' roots' ns' subs' h1 h2
        cases hr
        exact ⟨u, us, v, vs, rfl, rfl, readArgs_roots k ts hk.2 h2⟩
      · cases hr
    | u :: us, [], hk, _ => exact hk.elim
    | [], _, _, hr => simp [readArgs] at hr
  | .ref r :: ts, us, vs, xs, roots, ns, subs, hk, hr => by
    match us, vs, hk, hr with
    | u :: us, v :: vs, hk, hr =>
      unfold readArgs at hr
      split at hr
      · split at hr
        · rename_i xs' roots' ns' subs' h2
          cases hr
          exact ⟨_, us, v, vs, rfl, rfl, ⟨_, rfl⟩, readArgs_roots k ts hk.2 h2⟩
        · cases hr
      · rename_i s
        split at hr
        · rename_i cs hs
          split at hr
          · rename_i y ms xs' roots' ns' subs' h1 h2
            cases hr
            obtain ⟨cs0, b, hs0, hf, hv⟩ := hk.1
            exact ⟨_, us, v, vs, rfl, rfl, s, b, roots', rfl, rfl, hf, hv, readArgs_roots k ts hk.2 h2⟩
          · cases hr
        · cases hr
      · cases hr
    | u :: us, [], hk, _ => exact hk.elim
    | [], _, _, hr => simp [readArgs] at hr
mutual
theorem layC_run {R : Type} (n0 : Nat) : ∀ (o : OT) (x : o.I) (h : Heap) (K : Cell → Heap → Option R), layC n0 o x h K = (layC n0 o x h (fun c h' => some (c, h'))).bind (fun p => K p.1 p.2)
  | .c t, x, h, K => rfl
  | .own r, xs, h, K => by
    unfold layC
    cases room' h (freeN h n0 0) <;> rfl
  | .obj r, x, h, K => by
    unfold layC
    cases x with
    | none => rfl
    | some y =>
      simp only
      rw [layR_run n0 r y h, layR_run n0 r y h (fun cs h' => bif room' h' (freeN h' n0 0) then some (Cell.ptr (freeN h' n0 0) 0, hset h' (freeN h' n0 0) (.row cs)) else none)]
      cases layR n0 r y h (fun cs h' => some (cs, h')) with
      | none => rfl
      | some p => simp only [Option.bind_some]; cases room' p.2 (freeN p.2 n0 0) <;> rfl
theorem layR_run {R : Type} (n0 : Nat) : ∀ (r : OR) (x : r.I) (h : Heap) (K : List Cell → Heap → Option R), layR n0 r x h K = (layR n0 r x h (fun cs h' => some (cs, h'))).bind (fun p => K p.1 p.2)
  | .one o, x, h, K => by
    unfold layR
    rw [layC_run n0 o x h, layC_run n0 o x h (fun c h' => some ([c], h'))]
    cases layC n0 o x h (fun c h' => some (c, h')) <;> rfl
  | .cons o r, x, h, K => by
    unfold layR
    rw [layC_run n0 o x.1 h, layC_run n0 o x.1 h (fun c h' => layR n0 r x.2 h' fun cs h'' => some (c :: cs, h''))]
    cases layC n0 o x.1 h (fun c h' => some (c, h')) with
    | none => rfl
    | some p =>
      simp only [Option.bind_some]
      rw [layR_run n0 r x.2 p.2, layR_run n0 r x.2 p.2 (fun cs h'' => some (p.1 :: cs, h''))]
      cases layR n0 r x.2 p.2 (fun cs h' => some (cs, h')) <;> rfl
end
theorem layOuts_run {R : Type} (n0 : Nat) : ∀ (ts : List PT) (outs : Outs ts) (us : List V) (h : Heap) (K : Heap → Option R), layOuts n0 ts outs us h K = (layOuts n0 ts outs us h some).bind K
  | [], outs, us, h, K => by cases us <;> rfl
  | .v t :: ts, outs, us, h, K => by
    cases us with
    | nil => rfl
    | cons u us => exact layOuts_run n0 ts outs us h K
  | .ref r :: ts, outs, us, h, K => by
    cases us with
    | nil => rfl
    | cons u us =>
      unfold layOuts
      split
      · split
        · rename_i s _ y _
          rw [layR_run n0 r y h, layR_run n0 r y h (fun cs h' => layOuts n0 ts outs.2 us (hset h' s (.row cs)) some)]
          cases layR n0 r y h (fun cs h' => some (cs, h')) with
          | none => rfl
          | some p => simp only [Option.bind_some]; exact layOuts_run n0 ts outs.2 us _ K
        · rfl
      · exact layOuts_run n0 ts outs.2 us h K
      · rfl
theorem layP_run {R : Type} (n0 : Nat) (t : PT) (x : t.I) (h : Heap) (K : Bool × List Cell → Heap → Option R) : layP n0 t x h K = (layP n0 t x h (fun c h' => some (c, h'))).bind (fun p => K p.1 p.2) := by
  cases t with
  | v t => rfl
  | ref r =>
    show layC n0 (.obj r) x h (fun c h' => K (false, [c]) h') = (layC n0 (.obj r) x h (fun c h' => some ((false, [c]), h'))).bind _
    rw [layC_run n0 (.obj r) x h, layC_run n0 (.obj r) x h (fun c h' => some ((false, [c]), h'))]
    cases layC n0 (.obj r) x h (fun c h' => some (c, h')) <;> rfl
theorem layPs_run {R : Type} (n0 : Nat) : ∀ (ts : List PT) (x : ResP ts) (h : Heap) (K : List (Bool × List Cell) → Heap → Option R), layPs n0 ts x h K = (layPs n0 ts x h (fun c h' => some (c, h'))).bind (fun p => K p.1 p.2)
  | [], x, h, K => rfl
  | [t], x, h, K => by
    unfold layPs
    rw [layP_run n0 t x h, layP_run n0 t x h (fun c h' => some ([c], h'))]
    cases layP n0 t x h (fun c h' => some (c, h')) <;> rfl
  | t :: u :: ts, x, h, K => by
    unfold layPs
    rw [layP_run n0 t x.1 h, layP_run n0 t x.1 h (fun c h' => layPs n0 (u :: ts) x.2 h' fun cs h'' => some (c :: cs, h''))]
    cases layP n0 t x.1 h (fun c h' => some (c, h')) with
    | none => rfl
    | some p =>
      simp only [Option.bind_some]
      rw [layPs_run n0 (u :: ts) x.2 p.2, layPs_run n0 (u :: ts) x.2 p.2 (fun cs h'' => some (p.1 :: cs, h''))]
      cases layPs n0 (u :: ts) x.2 p.2 (fun cs h' => some (cs, h')) <;> rfl
variable {R : Type} {n0 : Nat} {q : R} {N : Nat → Prop}
theorem layOuts_ok {φ0 : Nat → Option Nat} : ∀ (ts : List PT) {xs : PArgs ts} {outs : Outs ts} {us : List V} {vs : List Value} {roots B : List Nat} {Mr : Nat → Prop} {φ : Nat → Option Nat} {h : Heap} {K : Heap → Option R},
    HRel (MB Mr B) φ h w → OutsOwn w N ts xs outs vs B → RootsOK φ0 ts xs us vs roots → (∀ b, N b → b < w.heap.size → Imm (MB Mr B) φ b) → B.Nodup → (∀ b ∈ B, ¬ Mr b) → roots.Nodup → (∀ s ∈ roots, s < n0 ∧ hget h s = none ∧ s < h.length) →
    layOuts n0 ts outs us h K = some q → ∃ h' φ', K h' = some q ∧ Up (MB Mr B) φ h Mr φ' h' w ∧ (∀ s ∈ roots, φ' s = φ0 s ∧ ∃ cs, hget h' s = some (.row cs)) ∧ (∀ s, s < n0 → s ∉ roots → hget h' s = hget h s ∧ φ' s = φ s)
  | [], xs, outs, us, vs, roots, B, Mr, φ, h, K, k, hO, hR, hN, hnd, hd, hrn, hrs, hl => by
    obtain ⟨rfl, rfl⟩ := hO
    obtain ⟨rfl, _, rfl⟩ := hR
    have he : MB Mr [] = Mr := by funext b; simp [MB]
    rw [he] at k ⊢
    exact ⟨h, φ, hl, Up.refl k, by simp, fun _ _ _ => ⟨rfl, rfl⟩⟩
  | .v t :: ts, xs, outs, us, vs, roots, B, Mr, φ, h, K, k, hO, hR, hN, hnd, hd, hrn, hrs, hl => by
    obtain ⟨v, vs', rfl, hO⟩ := hO
    obtain ⟨u, us', v', vs'', rfl, hvs, hR⟩ := hR
    cases hvs
    exact layOuts_ok ts k hO hR hN hnd hd hrn hrs hl
  | .ref r :: ts, xs, outs, us, vs, roots, B, Mr, φ, h, K, k, hO, hR, hN, hnd, hd, hrn, hrs, hl => by
    obtain ⟨x, xs⟩ := xs
    obtain ⟨out, outs⟩ := outs
    obtain ⟨v, vs', rfl, hO⟩ := hO
    obtain ⟨u, us', v', vs'', rfl, hvs, hR⟩ := hR
    cases hvs
    cases x with
    | none =>
      obtain ⟨⟨z, rfl⟩, hR⟩ := hR
      exact layOuts_ok ts k hO hR hN hnd hd hrn hrs hl
    | some x =>
      obtain ⟨y, B1, B2, ho, rfl, hC, hO⟩ := hO
      obtain ⟨s, b, roots', rfl, rfl, hfs, hv, hR⟩ := hR
      simp only at ho
      subst ho
      obtain ⟨b', c, B', hv', rfl, hc, hw, hRr⟩ := hC
      rw [hv] at hv'
      cases hv'
      rw [List.nodup_cons] at hrn
      have hs := hrs s (by simp)
      have hl : layR n0 r y h (fun cs h' => layOuts n0 ts outs us' (hset h' s (.row cs)) K) = some q := hl
      rw [MB_append, MB_cons] at k hN ⊢
      rw [List.nodup_append, List.nodup_cons] at hnd
      obtain ⟨⟨hnd1, hnd2⟩, hnd3, hnd4⟩ := hnd
      obtain ⟨cs, h1, φ1, hk, hup, hlow, hcs⟩ := layR_ok (Mr := MB (MB Mr B2) [b]) r k hRr hN hnd2 (fun x hx hm => by
        rcases hm with (hm | hm) | hm
        · exact hd x (by simp [hx]) hm
        · exact hnd4 x (by simp [hx]) x hm rfl
        · simp at hm; subst hm; exact hnd1 hx) hl
      have hs1 : hget h1 s = none := by rw [(hlow s hs.1).1]; exact hs.2.1
      have hl1 : s < h1.length := by rw [hup.len]; exact hs.2.2
      have hL : Later φ1 h1 w (Imm (MB (MB Mr B2) [b]) φ1) (upd φ1 s (some b)) (hset h1 s (.row cs)) w (Imm (MB Mr B2) (upd φ1 s (some b))) :=
        ⟨Sub.name hs1, fun b' hb' _ => ⟨rfl, imm_name (f := some b) hb'⟩, fun s b' _ _ c hc => ⟨c, hc, rfl⟩⟩
      have hup2 := Up.name (f := some b) hup.rel hs1 hl1 (x := .row cs) (fun b' hb' => by
        cases hb'
        intro hm
        rcases hm with hm | hm
        · exact hd b (by simp) hm
        · exact hnd4 b (by simp) b hm rfl) ⟨b, c, rfl, hc, hw, CellsOK.later hL hcs⟩
      have hup12 := hup.trans hup2 (fun x hx => .inl hx)
      obtain ⟨h', φ', g1, g2, g3, g4⟩ := layOuts_ok ts hup2.rel hO hR (fun b' hb' hlt => hup12.imm b' (hN b' hb' hlt)) hnd3 (fun x hx => hd x (by simp [hx])) hrn.2 (fun t ht => by
        have htr := hrs t (by simp [ht])
        have hne : s ≠ t := fun e => hrn.1 (by rw [e]; exact ht)
        exact ⟨htr.1, by rw [hget_hset_other _ _ _ _ hne, (hlow t htr.1).1]; exact htr.2.1, by rw [hup2.len, hup.len]; exact htr.2.2⟩) hk
      refine ⟨h', φ', g1, hup12.trans g2 (fun x hx => .inl (.inl hx)), fun t ht => ?_, fun t ht htn => ?_⟩
      · rcases List.mem_cons.1 ht with rfl | ht
        · have := g2.keep t (.row cs) (hget_hset_same _ _ _ hl1)
          exact ⟨by rw [this.2, upd_same, hfs], cs, this.1⟩
        · exact g3 t ht
      · have hne : s ≠ t := fun e => htn (by simp [e])
        have h4 := g4 t ht (fun e => htn (by simp [e]))
        rw [hget_hset_other _ _ _ _ hne, upd_other _ _ (Ne.symm hne)] at h4
        exact ⟨h4.1.trans (hlow t ht).1, h4.2.trans (hlow t ht).2⟩
theorem layP_ok {t : PT} {x : t.I} {v : Value} {B : List Nat} {Mr : Nat → Prop} {φ : Nat → Option Nat} {h : Heap} {K : Bool × List Cell → Heap → Option R} (k : HRel (MB Mr B) φ h w) (hO : ResOwn1 w N t x v B) (hN : ∀ b, N b → b < w.heap.size → Imm (MB Mr B) φ b)
    (hnd : B.Nodup) (hd : ∀ b ∈ B, ¬ Mr b) (hl : layP n0 t x h K = some q) : ∃ c h' φ', K c h' = some q ∧ Up (MB Mr B) φ h Mr φ' h' w ∧ Low n0 φ h φ' h' ∧ CompOK φ' h' w (Imm Mr φ') c v := by
  cases t with
  | v t =>
    obtain ⟨hc, rfl⟩ := hO
    have he : MB Mr [] = Mr := by funext b; simp [MB]
    rw [he] at k hN ⊢
    exact ⟨_, h, φ, hl, Up.refl k, fun _ _ => ⟨rfl, rfl⟩, CompOK.later ⟨⟨fun s b hb => by rw [show hget ([] : Heap) s = none from lget_nil _ _] at hb; cases hb⟩, fun b hb hlt => ⟨rfl, hN b hb hlt⟩, fun s b hs => by cases hs⟩ hc⟩
  | ref r =>
    have hl' : layC n0 (.obj r) x h (fun c h' => K (false, [c]) h') = some q := hl
    obtain ⟨c, h', φ', h1, h2, h3, h4⟩ := layC_ok (.obj r) k hO hN hnd hd hl'
    exact ⟨(false, [c]), h', φ', h1, h2, h3, c, rfl, h4⟩
theorem layPs_ok : ∀ (ts : List PT) {x : ResP ts} {us : List Value} {B : List Nat} {Mr : Nat → Prop} {φ : Nat → Option Nat} {h : Heap} {K : List (Bool × List Cell) → Heap → Option R}, HRel (MB Mr B) φ h w → ResOwn w N ts x us B → (∀ b, N b → b < w.heap.size → Imm (MB Mr B) φ b) →
    B.Nodup → (∀ b ∈ B, ¬ Mr b) → layPs n0 ts x h K = some q → ∃ cs h' φ', K cs h' = some q ∧ Up (MB Mr B) φ h Mr φ' h' w ∧ Low n0 φ h φ' h' ∧ All2 (CompOK φ' h' w (Imm Mr φ')) cs us
  | [], x, us, B, Mr, φ, h, K, k, hO, hN, hnd, hd, hl => by
    obtain ⟨rfl, rfl⟩ := hO
    have he : MB Mr [] = Mr := by funext b; simp [MB]
    rw [he] at k ⊢
    exact ⟨[], h, φ, hl, Up.refl k, fun _ _ => ⟨rfl, rfl⟩, trivial⟩
  | [t], x, us, B, Mr, φ, h, K, k, hO, hN, hnd, hd, hl => by
    obtain ⟨v, rfl, hO⟩ := hO
    obtain ⟨c, h', φ', h1, h2, h3, h4⟩ := layP_ok k hO hN hnd hd hl
    exact ⟨[c], h', φ', h1, h2, h3, h4, trivial⟩
  | t :: u :: ts, x, us, B, Mr, φ, h, K, k, hO, hN, hnd, hd, hl => by
    obtain ⟨v, us', B1, B2, rfl, rfl, hO1, hO2⟩ := hO
    rw [MB_append] at k hN ⊢
    rw [List.nodup_append] at hnd
    obtain ⟨c, h', φ', h1, h2, h3, h4⟩ := layP_ok (Mr := MB Mr B2) k hO1 hN hnd.1 (fun b hb hm => by
      rcases hm with hm | hm
      · exact hd b (by simp [hb]) hm
      · exact hnd.2.2 b hb b hm rfl) hl
    obtain ⟨cs, h'', φ'', g1, g2, g3, g4⟩ := layPs_ok (u :: ts) h2.rel hO2 (fun b hb hlt => h2.imm b (hN b hb hlt)) hnd.2.1 (fun b hb => hd b (by simp [hb])) h1
    refine ⟨c :: cs, h'', φ'', g1, h2.trans g2 (fun x hx => .inl hx), h3.trans g3, ?_, g4⟩
    obtain ⟨b, l⟩ := c
    cases b with
    | true => obtain ⟨arr, hv, hk⟩ := h4; exact ⟨arr, hv, All2.imp (fun _ _ h => g2.cell _ _ h) hk⟩
    | false => obtain ⟨y, hy, hk⟩ := h4; exact ⟨y, hy, g2.cell _ _ hk⟩
end
end Go.AM
