/- Whole functions that may turn objects. -/
import Derived.Test.YtfjlhoglgdmmaaaGreatDoorAmRun
set_option autoImplicit false
set_option linter.unusedVariables false
set_option linter.unusedSimpArgs false
namespace Go.AM
section
variable {P : Program} {T : List (Nat × TI)} {F : Funs} {R : Type} {w0 : World} {O : Old} {M : Nat → Prop} {φ : Nat → Option Nat} {st : St} {a : Act} {w : World} {h : Heap} {N : Nat → Prop}
theorem layArgs_ok {n0 : Nat} {q : R} : ∀ (ts : List PT) {xs : PArgs ts} {vs : List Value} {B : List Nat} {Mr : Nat → Prop} {φ : Nat → Option Nat} {h : Heap} {i : Nat} {K : List V → Heap → Option R}, HRel (MB Mr B) φ h w → ArgsOwn w N ts xs vs B →
    (∀ b, N b → b < w.heap.size → Imm (MB Mr B) φ b) → B.Nodup → (∀ b ∈ B, ¬ Mr b) → layArgs n0 ts xs i h K = some q →
    ∃ us h' φ' roots, K us h' = some q ∧ Up (MB Mr B) φ h Mr φ' h' w ∧ All2 (VOK φ' h' w (Imm Mr φ')) us vs ∧ RootsOK φ' ts xs us vs roots ∧ (∀ s ∈ roots, i ≤ s ∧ s < n0 ∧ ∃ cs, hget h' s = some (.row cs))
  | [], xs, vs, B, Mr, φ, h, i, K, k, hO, hN, hnd, hd, hl => by
    obtain ⟨rfl, rfl⟩ := hO
    have he : MB Mr [] = Mr := by funext b; simp [MB]
    rw [he] at k ⊢
    exact ⟨[], h, φ, [], hl, Up.refl k, trivial, ⟨rfl, rfl, rfl⟩, by simp⟩
  | .v t :: ts, xs, vs, B, Mr, φ, h, i, K, k, hO, hN, hnd, hd, hl => by
    obtain ⟨v, vs', rfl, hv, hO⟩ := hO
    obtain ⟨us, h', φ', roots, h1, h2, h3, h4, h5⟩ := layArgs_ok ts k hO hN hnd hd hl
    refine ⟨_, h', φ', roots, h1, h2, ⟨?_, h3⟩, ⟨_, us, v, vs', rfl, rfl, h4⟩, h5⟩
    exact VOK.later ⟨⟨fun s b hb => by rw [show hget ([] : Heap) s = none from lget_nil _ _] at hb; cases hb⟩, fun b hb hlt => ⟨rfl, h2.imm b (hN b hb hlt)⟩, fun s b hs => by cases hs⟩ hv
  | .ref r :: ts, xs, vs, B, Mr, φ, h, i, K, k, hO, hN, hnd, hd, hl => by
    obtain ⟨x, xs⟩ := xs
    obtain ⟨v, vs', B1, B2, rfl, rfl, hC, hO⟩ := hO
    cases x with
    | none =>
      obtain ⟨hv, rfl⟩ := hC
      have hl : layArgs n0 ts xs i h (fun vs h' => K (.one (.c .nilp ()) :: vs) h') = some q := hl
      rw [List.nil_append] at k hN hnd hd ⊢
      obtain ⟨us, h', φ', roots, h1, h2, h3, h4, h5⟩ := layArgs_ok ts k hO hN hnd hd hl
      exact ⟨_, h', φ', roots, h1, h2, ⟨hv, h3⟩, ⟨_, us, v, vs', rfl, rfl, ⟨(), rfl⟩, h4⟩, h5⟩
    | some y =>
      obtain ⟨b, c, B', hv, rfl, hc, hw, hR⟩ := hC
      have hl : layR n0 r y h (fun cs h' => bif Nat.blt i n0 && room' h' i then layArgs n0 ts xs (Nat.succ i) (hset h' i (.row cs)) fun vs h'' => K (.one (.ptr i 0) :: vs) h'' else none) = some q := hl
      rw [MB_append, MB_cons] at k hN ⊢
      rw [List.nodup_append, List.nodup_cons] at hnd
      obtain ⟨⟨hnd1, hnd2⟩, hnd3, hnd4⟩ := hnd
      obtain ⟨cs, h1, φ1, hk, hup, hlow, hcs⟩ := layR_ok (Mr := MB (MB Mr B2) [b]) r k hR hN hnd2 (fun x hx hm => by
        rcases hm with (hm | hm) | hm
        · exact hd x (by simp [hx]) hm
        · exact hnd4 x (by simp [hx]) x hm rfl
        · simp at hm; subst hm; exact hnd1 hx) hl
      cases hg : (Nat.blt i n0 && room' h1 i) with
      | false => rw [hg, cond_false] at hk; cases hk
      | true =>
      rw [hg, cond_true] at hk
      rw [Bool.and_eq_true] at hg
      obtain ⟨hs1, hl1⟩ := room'_ok hg.2
      have hin : i < n0 := Nat.le_of_ble_eq_true hg.1
      have hL : Later φ1 h1 w (Imm (MB (MB Mr B2) [b]) φ1) (upd φ1 i (some b)) (hset h1 i (.row cs)) w (Imm (MB Mr B2) (upd φ1 i (some b))) :=
        ⟨Sub.name hs1, fun b' hb' _ => ⟨rfl, imm_name (f := some b) hb'⟩, fun s b' _ _ c hc => ⟨c, hc, rfl⟩⟩
      have hup2 := Up.name (f := some b) hup.rel hs1 hl1 (x := .row cs) (fun b' hb' => by
        cases hb'
        intro hm
        rcases hm with hm | hm
        · exact hd b (by simp) hm
        · exact hnd4 b (by simp) b hm rfl) ⟨b, c, rfl, hc, hw, CellsOK.later hL hcs⟩
      have hup12 := hup.trans hup2 (fun x hx => .inl hx)
      obtain ⟨us, h', φ', roots, g1, g2, g3, g4, g5⟩ := layArgs_ok ts hup2.rel hO (fun b' hb' hlt => hup12.imm b' (hN b' hb' hlt)) hnd3 (fun x hx => hd x (by simp [hx])) hk
      have hkeep := g2.keep i (.row cs) (hget_hset_same _ _ _ hl1)
      have hφi : φ' i = some b := by rw [hkeep.2, upd_same]
      refine ⟨_, h', φ', i :: roots, g1, hup12.trans g2 (fun x hx => .inl (.inl hx)), ⟨⟨cs, b, hkeep.1, hφi, hv⟩, g3⟩, ⟨_, us, v, vs', rfl, rfl, i, b, roots, rfl, rfl, hφi, hv, g4⟩, fun s hs => ?_⟩
      rcases List.mem_cons.1 hs with rfl | hs
      · exact ⟨Nat.le_refl _, hin, cs, hkeep.1⟩
      · obtain ⟨q1, q2, q3⟩ := g5 s hs
        exact ⟨by omega, q2, q3⟩
theorem readP_ok (k : HRel M φ h w) {t : PT} {u : V} {v : Value} {x : t.I} {ns : List Nat} (hv : VOK φ h w (Imm M φ) u v) (hr : readP h t u = some (x, ns)) : ResOwn1 w (Imm M φ) t x v (ns.filterMap φ) := by
  cases t with
  | v t =>
    unfold readP at hr
    simp only at hr
    split at hr
    · rename_i x' hx
      cases hr
      exact ⟨comp_of_enc (plain_rows (dec_ok hx hv)), rfl⟩
    · cases hr
  | ref r =>
    unfold readP at hr
    simp only at hr
    split at hr
    · exact readC_ok k (.obj r) hv hr
    · cases hr
theorem readRes_ok (k : HRel M φ h w) : ∀ (ts : List PT) {us : List V} {vs : List Value} {x : ResP ts} {ns : List Nat}, All2 (VOK φ h w (Imm M φ)) us vs → readRes h ts us = some (x, ns) → ResOwn w (Imm M φ) ts x vs (ns.filterMap φ)
  | [], us, vs, x, ns, hk, hr => by
    match us, vs, hk, hr with
    | [], [], _, hr => cases hr; exact ⟨rfl, rfl⟩
    | [], _ :: _, hk, _ => exact hk.elim
    | _ :: _, _, _, hr => simp [readRes] at hr
  | [t], us, vs, x, ns, hk, hr => by
    match us, vs, hk, hr with
    | [u], [v], hk, hr => exact ⟨v, rfl, readP_ok k hk.1 hr⟩
    | [u], [], hk, _ => exact hk.elim
    | [u], _ :: _ :: _, hk, _ => exact hk.2.elim
    | [], _, _, hr => simp [readRes] at hr
    | _ :: _ :: _, _, _, hr => simp [readRes] at hr
  | t :: u :: ts, us, vs, x, ns, hk, hr => by
    match us, vs, hk, hr with
    | y :: us, v :: vs, hk, hr =>
      unfold readRes at hr
      split at hr
      · rename_i a1 ns1 b1 ns2 h1 h2
        cases hr
        exact ⟨v, vs, ns1.filterMap φ, ns2.filterMap φ, rfl, by simp, readP_ok k hk.1 h1, readRes_ok k (u :: ts) hk.2 h2⟩
      · cases hr
    | y :: us, [], hk, _ => exact hk.elim
    | [], _, _, hr => simp [readRes] at hr
theorem readOuts_ok (k : HRel M φ h w) {φ0 : Nat → Option Nat} : ∀ (ts : List PT) {xs : PArgs ts} {us : List V} {vs : List Value} {roots : List Nat} {o : Outs ts} {ms : List Nat}, RootsOK φ0 ts xs us vs roots → (∀ s ∈ roots, φ s = φ0 s) → readOuts h ts us = some (o, ms) →
    OutsOwn w (Imm M φ) ts xs o vs (ms.filterMap φ)
  | [], xs, us, vs, roots, o, ms, hR, hs, hr => by
    obtain ⟨rfl, rfl, rfl⟩ := hR
    cases hr
    exact ⟨rfl, rfl⟩
  | .v t :: ts, xs, us, vs, roots, o, ms, hR, hs, hr => by
    obtain ⟨u, us', v, vs', rfl, rfl, hR⟩ := hR
    exact ⟨v, vs', rfl, readOuts_ok k ts hR hs hr⟩
  | .ref r :: ts, xs, us, vs, roots, o, ms, hR, hs, hr => by
    obtain ⟨x, xs⟩ := xs
    obtain ⟨u, us', v, vs', rfl, rfl, hR⟩ := hR
    cases x with
    | none =>
      obtain ⟨⟨z, rfl⟩, hR⟩ := hR
      unfold readOuts at hr
      simp only at hr
      split at hr
      · rename_i b1 ms1 h1
        cases hr
        exact ⟨v, vs', rfl, readOuts_ok k ts hR hs h1⟩
      · cases hr
    | some y =>
      obtain ⟨s, b, roots', rfl, rfl, hf, hv, hR⟩ := hR
      unfold readOuts at hr
      simp only at hr
      split at hr
      · rename_i y' ns1 b1 ms1 h1 h2
        cases hr
        have hrow : ∃ cs, hget h s = some (.row cs) := by
          unfold readC at h1
          simp only at h1
          split at h1
          · rename_i cs hcs; exact ⟨cs, hcs⟩
          · cases h1
        obtain ⟨cs, hcs⟩ := hrow
        have := readC_ok k (.obj r) (x := .ptr s 0) (v := v) ⟨cs, b, hcs, by rw [hs s (by simp)]; exact hf, hv⟩ h1
        exact ⟨v, vs', rfl, y', _, _, rfl, by simp, this, readOuts_ok k ts hR (fun t ht => hs t (by simp [ht])) h2⟩
      · cases hr

/-! ### The whole function -/
mutual
theorem OwnC.lt : ∀ (o : OT) {x : o.I} {v : Value} {B : List Nat}, OwnC w N o x v B → ∀ b ∈ B, b < w.heap.size
  | .c t, x, v, B, h, b, hb => by rw [h.2] at hb; cases hb
  | .own r, xs, v, B, h, b, hb => by
    obtain ⟨f, rfl, _, hk⟩ := h
    cases f with
    | none => simp at hb
    | some b' =>
      simp at hb; subst hb
      obtain ⟨cap, c, hc, _⟩ := hk
      exact wcells_lt hc
  | .obj r, x, v, B, h, b, hb => by
    cases x with
    | none => obtain ⟨_, rfl⟩ := h; cases hb
    | some y =>
      obtain ⟨b', c, B', _, rfl, hc, _, hR⟩ := h
      rcases List.mem_cons.1 hb with rfl | hb
      · exact wcells_lt hc
      · exact OwnR.lt r hR b hb
theorem OwnR.lt : ∀ (r : OR) {x : r.I} {vs : List Value} {B : List Nat}, OwnR w N r x vs B → ∀ b ∈ B, b < w.heap.size
  | .one o, x, vs, B, h, b, hb => by obtain ⟨v, _, h⟩ := h; exact OwnC.lt o h b hb
  | .cons o r, x, vs, B, h, b, hb => by
    obtain ⟨v, vs', B1, B2, _, rfl, h1, h2⟩ := h
    rcases List.mem_append.1 hb with hb | hb
    · exact OwnC.lt o h1 b hb
    · exact OwnR.lt r h2 b hb
end
theorem ArgsOwn.lt : ∀ (ts : List PT) {xs : PArgs ts} {vs : List Value} {B : List Nat}, ArgsOwn w N ts xs vs B → (∀ b ∈ B, b < w.heap.size) ∧ vs.length = ts.length
  | [], xs, vs, B, h => by obtain ⟨rfl, rfl⟩ := h; exact ⟨by simp, rfl⟩
  | .v t :: ts, xs, vs, B, h => by
    obtain ⟨v, vs', rfl, _, h⟩ := h
    exact ⟨(ArgsOwn.lt ts h).1, by simp [(ArgsOwn.lt ts h).2]⟩
  | .ref r :: ts, xs, vs, B, h => by
    obtain ⟨v, vs', B1, B2, rfl, rfl, h1, h2⟩ := h
    refine ⟨fun b hb => ?_, by simp [(ArgsOwn.lt ts h2).2]⟩
    rcases List.mem_append.1 hb with hb | hb
    · exact OwnC.lt _ h1 b hb
    · exact (ArgsOwn.lt ts h2).1 b hb
theorem env_start {us : List V} {vs : List Value} (k : All2 (VOK φ h w N) us vs) (n : Nat) (t : Nat) :
    VOK φ h w N (lget (us ++ skips (n - llen us)) t .any) ((vs.toArray ++ Array.replicate (n - vs.length) undef).getD t undef) := by
  have hl := k.length
  rw [Array.getD_eq_getD_getElem?, llen_eq, hl]
  by_cases ht : t < us.length
  · rw [lget_eq, List.getElem?_append_left ht, Array.getElem?_append_left (by simp; omega)]
    have h1 : us[t]? = some us[t] := List.getElem?_eq_getElem ht
    have h2 : vs[t]? = some (vs[t]'(by omega)) := List.getElem?_eq_getElem (by omega)
    rw [h1]
    simp only [List.getElem?_toArray, h2, Option.getD_some]
    exact All2.get k t _ _ h1 h2
  · rw [lget_eq, List.getElem?_append_right (by omega), ← lget_eq]
    by_cases ht2 : t - us.length < n - vs.length
    · rw [lget_skips_lt _ _ (by omega)]
      rw [Array.getElem?_append_right (by simp; omega)]
      simp [show t - vs.length < n - vs.length by omega]
      rfl
    · have : lget (skips (n - vs.length)) (t - us.length) .any = .any := by
        rw [lget_eq, List.getElem?_eq_none (by rw [skips_length]; omega)]; rfl
      rw [this]; trivial
def AgreeR (T : List (Nat × TI)) (F : Funs) (hs : List (Nat × Hint)) (more : Nat) (fn : Func) (cal : CalleeR) : Prop :=
  ∀ xs x, applyF cal.ps cal.f xs = some x → ∃ k, runR T F k hs more fn cal.ps cal.rs xs = some x
theorem calleeR_ok (hm : P.follows .mixedOrders = true) (hT : TOK P T) (hF : FOK P F) {f : Nat} {fn : Func} (hf : P.funcs[f]? = some fn) (hs : List (Nat × Hint)) (more : Nat) {cal : CalleeR} (hps : cal.ps.length ≤ fn.ntmps) (hpl : cal.ps.length ≤ 4)
    (hag : AgreeR T F hs more fn cal) : CalleeROK P F.g f cal := by
  intro w N xs vs B x outs hG hown hnd hBN happ
  obtain ⟨k, hrun⟩ := hag xs _ happ
  unfold runR at hrun
  split at hrun
  · rename_i c hb
    have hBlt := (ArgsOwn.lt cal.ps hown).1
    have hvl := (ArgsOwn.lt cal.ps hown).2
    have h0 : HRel (MB (fun b => ¬ N b ∧ b < w.heap.size ∧ b ∉ B) B) (fun _ => none) (nones (fn.ntmps + more)) w :=
      { blk := fun s b hb => (by rw [hget_nones] at hb; cases hb), non := fun s _ => rfl, inj := fun s t b hs => (by cases hs), own := fun s b hs => (by cases hs), old := fun b hb => (by
          rcases hb with hb | hb
          · exact hb.2.1
          · exact hBlt b hb) }
    obtain ⟨us, h', φ', roots, hex, hup, hargs, hroots, hrow⟩ := layArgs_ok (n0 := fn.ntmps + 4) cal.ps h0 hown (fun b hb hlt => ⟨fun hm => by
        rcases hm with hm | hm
        · exact hm.1 hb
        · exact hBN b hm hb, fun s hs => by cases hs⟩) hnd (fun b hb hm => hm.2.2 hb) hrun
    refine calls_of_wp hf hb ?_
    have hul := hargs.length
    classical
    have hst : Rel w ⟨fun b => b ∈ B, fun s => if s ∈ roots then φ' s else none⟩ (fun b => ¬ N b ∧ b < w.heap.size ∧ b ∉ B) φ' ⟨us ++ skips (fn.ntmps - llen us), h'⟩ { tmps := vs.toArray ++ Array.replicate (fn.ntmps - vs.toArray.size) undef, defers := [] } w := by
      have hlen : (us ++ skips (fn.ntmps - llen us)).length = fn.ntmps := by simp [llen_eq, skips_length]; omega
      refine { toHRel := hup.rel, len := by simp [llen_eq, skips_length]; omega, env := fun t => by simpa using env_start hargs fn.ntmps t, defers := rfl, frm := ⟨rfl, rfl, rfl, Nat.le_refl _, fun _ _ _ => rfl⟩, fresh := fun s b hs => ?_, pin := fun s b hs => ?_ }
      · rcases hup.new s b hs with h | h
        · cases h
        · rcases h with h | h
          · exact absurd h (hup.rel.own s b hs).1
          · exact .inl h
      · simp only at hs
        split at hs
        · rename_i hsr
          obtain ⟨h1, h2, h3⟩ := hrow s hsr
          exact ⟨hs, by show InPin (us ++ skips (fn.ntmps - llen us)).length s; rw [hlen]; exact ⟨h1, h2⟩, h3⟩
        · cases hs
    have fin : ∀ st' φ'' (a' : Act) (w' : World), Rel w ⟨fun b => b ∈ B, fun s => if s ∈ roots then φ' s else none⟩ (fun b => ¬ N b ∧ b < w.heap.size ∧ b ∉ B) φ'' st' a' w' → retR T cal.ps cal.rs fn.results.toList us .ret st' = some (x, outs) →
        a'.defers = [] ∧ ∃ v, (results fn a'.tmps).run P w' = .ok v w' ∧ ∃ (N' : Nat → Prop) (Bo Br : List Nat) (us : List Value), v = tupOf us ∧
          (w'.os = w.os ∧ w'.tape = w.tape ∧ w'.output = w.output ∧ w.heap.size ≤ w'.heap.size ∧ ∀ b, b < w.heap.size → b ∉ B → w'.heap[b]? = w.heap[b]?) ∧
          (∀ b, N b → b < w.heap.size → N' b) ∧ (∀ b, N' b → N b ∨ b ∈ B ∨ w.heap.size ≤ b) ∧ OutsOwn w' N' cal.ps xs outs vs Bo ∧ ResOwn w' N' cal.rs x us Br ∧ (Bo ++ Br).Nodup ∧
          (∀ b ∈ Bo ++ Br, ¬ N' b ∧ (b ∈ B ∨ w.heap.size ≤ b) ∧ b < w'.heap.size) := by
      intro st' φ'' a' w' k' hr
      unfold retR at hr
      simp only at hr
      split at hr
      · rename_i rs0 hrs0
        obtain ⟨φ3, k3⟩ := freezes_ok (frzRes st'.heap cal.rs rs0 ++ frzArgs st'.heap cal.ps us) k'
        generalize freezes (frzRes st'.heap cal.rs rs0 ++ frzArgs st'.heap cal.ps us) st' = st3 at hr k3
        split at hr
        · rename_i rs1 hrs1
          obtain ⟨rv, hrv, hrk⟩ := resVs_ok hT k3 hrs1
          split at hr
          · rename_i x1 ns o1 ms h1 h2
            cases hnd2 : nodupL (ms ++ ns) with
            | false => rw [hnd2, cond_false] at hr; cases hr
            | true =>
            rw [hnd2, cond_true] at hr
            cases hr
            have hR := readRes_ok k3.toHRel cal.rs hrk h1
            have hO := readOuts_ok k3.toHRel cal.ps hroots (fun s hs => by
              cases hps : φ' s with
              | none =>
                obtain ⟨_, _, cs, hcs⟩ := hrow s hs
                obtain ⟨b, c, hfb, _⟩ := hup.rel.blk s _ hcs
                rw [hps] at hfb; cases hfb
              | some b => exact (k3.pin s b (by simp [hs, hps])).1) h2
            refine ⟨k3.defers, tupOf rv, ?_, Imm (fun b => ¬ N b ∧ b < w.heap.size ∧ b ∉ B) φ3, _, _, rv, rfl, ⟨k3.frm.os, k3.frm.tape, k3.frm.output, k3.frm.size, fun b hb hnb => k3.frm.block b hb hnb⟩, fun b hb hlt => ⟨fun hm => hm.1 hb, fun s hs => ?_⟩, fun b hb => ?_, hO, hR, ?_, fun b hb => ?_⟩
            · have hr : results fn a'.tmps = (do
                  let vs ← fn.results.mapM (getRes a'.tmps)
                  pure (if h : vs.size = 1 then vs[0] else .tuple vs)) := by
                unfold results
                congr 1
                first
                  | done
                  | (congr 1; funext x; cases x <;> rfl)
              rw [hr, Array.mapM_eq_mapM_toList]
              simp only [map_eq_pure_bind, Sem.run_bind, hrv, Result.andThen_ok, Sem.run_pure]
              rfl
            · rcases k3.fresh s b hs with h | h
              · exact hBN b h hb
              · omega
            · rcases Classical.em (N b) with h | h
              · exact .inl h
              · rcases Classical.em (b ∈ B) with h2 | h2
                · exact .inr (.inl h2)
                · exact .inr (.inr (Nat.le_of_not_lt fun hlt => hb.1 ⟨h, hlt, h2⟩))
            · rw [← List.filterMap_append]
              exact filterMap_nodup k3.toHRel.inj (nodupL_ok hnd2)
            · rw [← List.filterMap_append] at hb
              obtain ⟨s, _, hs⟩ := List.mem_filterMap.1 hb
              exact ⟨fun hi => hi.2 s hs, k3.fresh s b hs, (k3.toHRel.own s b hs).2⟩
          · cases hr
        · cases hr
      · cases hr
    have hGW : GlobW F.g w ⟨fun b => b ∈ B, fun s => if s ∈ roots then φ' s else none⟩ (fun b => ¬ N b ∧ b < w.heap.size ∧ b ∉ B) := fun g r x hg => ⟨(hG g r x hg).1, fun h => hBN g h (hG g r x hg).2.1, fun h => h.1 (hG g r x hg).2.1, (hG g r x hg).2.2⟩
    refine exec_ok hm hT hF hGW k hs c 0 (fun c a w hq => hq.2) hst hex (fun e st' φ'' a' w' k' h' => ?_)
    cases e with
    | normal => exact fin st' φ'' a' w' k' h'
    | ret => exact fin st' φ'' a' w' k' h'
    | exit j => cases h'
    | goto l => cases h'
    | panic ch => cases h'
    | outgrown => cases h'
  · cases hrun
end
end Go.AM
