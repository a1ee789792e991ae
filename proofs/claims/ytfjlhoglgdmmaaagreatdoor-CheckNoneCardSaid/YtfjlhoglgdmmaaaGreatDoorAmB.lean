/- Names that are let go, rows that do not turn any more, stores and appends of the abstract machine. -/
import Derived.Test.YtfjlhoglgdmmaaaGreatDoorAmOpA
import Derived.Laws.AppendOwn
set_option autoImplicit false
set_option linter.unusedVariables false
set_option linter.unusedSimpArgs false
namespace Go.AM

/-! ### Stores into a block -/
section
variable {w : World}
theorem heap_setCell_other (a : Addr) (v : Value) (b : Nat) (h : b ≠ a.block) : (w.setCell a v).heap[b]? = w.heap[b]? := by
  simp only [World.setCell, Array.getElem?_modify]
  rw [if_neg (fun e => h e.symm)]
theorem wcells_setCell {b o : Nat} {v : Value} {c : Array Value} (h : wcells w b = some c) : wcells (w.setCell ⟨b, o, none⟩ v) b = some (c.setIfInBounds o v) := by
  unfold wcells at h
  split at h
  · rename_i c' e fr hb
    cases h
    unfold wcells
    simp only [World.setCell, Array.getElem?_modify, if_pos, hb, Option.map_some]
    simp
  · cases h
theorem setCells_frame (b : Nat) : ∀ (vs : List Value) (o : Nat) (w : World), (w.setCells b o vs).os = w.os ∧ (w.setCells b o vs).tape = w.tape ∧ (w.setCells b o vs).output = w.output ∧ (w.setCells b o vs).heap.size = w.heap.size ∧
    ∀ b', b' ≠ b → (w.setCells b o vs).heap[b']? = w.heap[b']?
  | [], o, w => ⟨rfl, rfl, rfl, rfl, fun _ _ => rfl⟩
  | v :: vs, o, w => by
    obtain ⟨h1, h2, h3, h4, h5⟩ := setCells_frame b vs (o + 1) (w.setCell ⟨b, o, none⟩ v)
    refine ⟨h1, h2, h3, by rw [show (w.setCells b o (v :: vs)) = (w.setCell ⟨b, o, none⟩ v).setCells b (o + 1) vs from rfl, h4]; simp, fun b' hb => ?_⟩
    rw [show (w.setCells b o (v :: vs)) = (w.setCell ⟨b, o, none⟩ v).setCells b (o + 1) vs from rfl, h5 b' hb, heap_setCell_other _ _ _ hb]
theorem wcells_setCells {b : Nat} : ∀ (vs : List Value) (o : Nat) (w : World) (c : Array Value), wcells w b = some c → o + vs.length ≤ c.size →
    ∃ c', wcells (w.setCells b o vs) b = some c' ∧ c'.toList = c.toList.take o ++ vs ++ c.toList.drop (o + vs.length)
  | [], o, w, c, h, _ => ⟨c, h, by simp⟩
  | v :: vs, o, w, c, h, hl => by
    have hs : (c.setIfInBounds o v).size = c.size := by simp
    simp only [List.length_cons] at hl
    obtain ⟨c', h1, h2⟩ := wcells_setCells vs (o + 1) _ _ (wcells_setCell (v := v) (o := o) h) (by rw [hs]; omega)
    refine ⟨c', h1, ?_⟩
    have hlt : o < c.toList.length := by simp; omega
    rw [h2]
    simp only [Array.toList_setIfInBounds]
    rw [List.take_add_one, List.getElem?_set_self hlt, List.take_set_of_le (Nat.le_refl _), List.drop_set_of_lt (by omega)]
    simp only [List.length_cons, Option.toList_some, List.append_assoc, List.singleton_append, List.cons_append, List.nil_append]
    rw [show o + 1 + vs.length = o + (vs.length + 1) by omega]
end

section
variable {P : Program} {T : List (Nat × TI)} {M M' : Nat → Prop} {φ φ' : Nat → Option Nat} {h h' : Heap} {w w' : World}

/-! ### Mapping over all that is known -/
theorem hget_lmap (f : Cell → Cell) (h : Heap) (s : Nat) : hget (lmap (mapB f) h) s = mapB f (hget h s) := by
  unfold hget
  rw [lget_eq, lget_eq, lmap_eq, List.getElem?_map]
  cases h[s]? <;> rfl
theorem lget_mapV (f : Cell → Cell) (env : List V) (t : Nat) : lget (lmap (mapV f) env) t .any = mapV f (lget env t .any) := by
  rw [lget_eq, lget_eq, lmap_eq, List.getElem?_map]
  cases env[t]? <;> rfl
theorem lmap_length {α β : Type} (f : α → β) (l : List α) : (lmap f l).length = l.length := by rw [lmap_eq]; simp
theorem mapCells_ok {N N' : Nat → Prop} {f : Cell → Cell} (hf : ∀ x v, CellOK φ h w N x v → CellOK φ' h' w' N' (f x) v) : ∀ {cs : List Cell} {vs : List Value}, CellsOK φ h w N cs vs → CellsOK φ' h' w' N' (lmap f cs) vs
  | [], [], _ => trivial
  | [], _ :: _, k => k.elim
  | _ :: _, [], k => k.elim
  | _ :: _, _ :: _, k => ⟨hf _ _ k.1, mapCells_ok hf k.2⟩
theorem mapComp_ok {N N' : Nat → Prop} {f : Cell → Cell} (hf : ∀ x v, CellOK φ h w N x v → CellOK φ' h' w' N' (f x) v) {x : Bool × List Cell} {v : Value} (k : CompOK φ h w N x v) : CompOK φ' h' w' N' (x.1, lmap f x.2) v := by
  obtain ⟨b, cs⟩ := x
  cases b with
  | true => obtain ⟨arr, hv, k⟩ := k; exact ⟨arr, hv, mapCells_ok hf k⟩
  | false => obtain ⟨y, hy, k⟩ := k; simp at hy; subst hy; exact ⟨f y, rfl, hf _ _ k⟩
theorem mapComps_ok {N N' : Nat → Prop} {f : Cell → Cell} (hf : ∀ x v, CellOK φ h w N x v → CellOK φ' h' w' N' (f x) v) : ∀ {xs : List (Bool × List Cell)} {vs : List Value}, All2 (CompOK φ h w N) xs vs → All2 (CompOK φ' h' w' N') (lmap (fun x => (x.1, lmap f x.2)) xs) vs
  | [], [], _ => trivial
  | [], _ :: _, k => k.elim
  | _ :: _, [], k => k.elim
  | _ :: _, _ :: _, k => ⟨mapComp_ok hf k.1, mapComps_ok hf k.2⟩
theorem mapV_ok {N N' : Nat → Prop} {f : Cell → Cell} (hf : ∀ x v, CellOK φ h w N x v → CellOK φ' h' w' N' (f x) v) : ∀ {u : V} {v : Value}, VOK φ h w N u v → VOK φ' h' w' N' (mapV f u) v
  | .any, _, _ => trivial
  | .skip, _, k => k
  | .one x, v, k => hf x v k
  | .agg cs, v, ⟨arr, hv, k⟩ => ⟨arr, hv, mapCells_ok hf k⟩
  | .tup xs, v, ⟨arr, hv, k⟩ => ⟨arr, hv, mapComps_ok hf k⟩

/-! ### A name is let go -/
/-- Others' blocks, and the one that a name had. -/
def Also (M : Nat → Prop) (f : Option Nat) (b : Nat) : Prop := M b ∨ f = some b
theorem Also.imm {s b : Nat} : Imm (Also M (φ s)) (upd φ s none) b ↔ Imm M φ b := by
  constructor
  · intro k
    refine ⟨fun hM => k.1 (.inl hM), fun t ht => ?_⟩
    by_cases hts : t = s
    · subst hts; exact k.1 (.inr ht)
    · exact k.2 t (by rw [upd_other _ _ hts]; exact ht)
  · intro k
    refine ⟨fun hM => ?_, fun t ht => ?_⟩
    · rcases hM with hM | hM
      · exact k.1 hM
      · exact k.2 s hM
    · unfold upd at ht
      split at ht
      · cases ht
      · exact k.2 t ht
/-- All but what leads to s stays known. -/
theorem killCell_ok {s : Nat} {N N' : Nat → Prop} (hs : ∀ t, t ≠ s → hget h' t = mapB (killCell s) (hget h t) ∧ φ' t = φ t) (hA : ∀ b, N b → b < w.heap.size → w'.heap[b]? = w.heap[b]? ∧ N' b)
    (hO : ∀ t b, t ≠ s → φ t = some b → ∀ c, wcells w b = some c → ∃ c', wcells w' b = some c' ∧ c'.size = c.size) {x : Cell} {v : Value} (k : CellOK φ h w N x v) : CellOK φ' h' w' N' (killCell s x) v := by
  have ho := k.oneCell
  have head : ∀ {r : RT} {t n : Nat} {v : Value}, t ≠ s → HeadOK w r (φ t) n v → HeadOK w' r (φ' t) n v := by
    intro r t n v hts k
    rw [(hs t hts).2]
    unfold HeadOK at *
    cases hf : φ t with
    | none => rw [hf] at k; exact k
    | some b =>
      rw [hf] at k
      obtain ⟨cap, c, hv, hn, hc, hsz⟩ := k
      obtain ⟨c', hc', hs'⟩ := hO t b hts hf c hc
      exact ⟨cap, c', hv, hn, hc', by rw [hs', hsz]⟩
  have row : ∀ {t : Nat} {cs : List Cell}, t ≠ s → hget h t = some (.row cs) → hget h' t = some (.row (lmap (killCell s) cs)) := by
    intro t cs hts ht; rw [(hs t hts).1, ht]; rfl
  have lst : ∀ {t : Nat} {r : RT} {xs : List r.I}, t ≠ s → hget h t = some (.lst r xs) → hget h' t = some (.lst r xs) := by
    intro t r xs hts ht; rw [(hs t hts).1, ht]; rfl
  cases x with
  | any => exact k
  | c t x => exact RepC.mono hA t x v k
  | nils => exact k
  | vec t =>
    obtain ⟨r, xs, ht, k⟩ := k
    simp only [killCell]
    cases hb : Nat.beq s t with
    | true => exact ho
    | false =>
      have hts : t ≠ s := fun e => by subst e; simp at hb
      exact ⟨r, xs, lst hts ht, head hts k⟩
  | sub t lo n =>
    obtain ⟨r, xs, ht, hl, hz, a, cap, hv, hn, ha⟩ := k
    simp only [killCell]
    cases hb : Nat.beq s t with
    | true => exact ho
    | false =>
      have hts : t ≠ s := fun e => by subst e; simp at hb
      exact ⟨r, xs, lst hts ht, hl, fun h0 => head hts (hz h0), a, cap, hv, hn, fun h0 => by rw [(hs t hts).2]; exact ha h0⟩
  | ptr t off =>
    obtain ⟨cs, b, ht, hf, hv⟩ := k
    simp only [killCell]
    cases hb : Nat.beq s t with
    | true => exact ho
    | false =>
      have hts : t ≠ s := fun e => by subst e; simp at hb
      exact ⟨_, b, row hts ht, by rw [(hs t hts).2]; exact hf, hv⟩
  | eptr t i off =>
    obtain ⟨r, xs, b, ht, hf, hi, hv⟩ := k
    simp only [killCell]
    cases hb : Nat.beq s t with
    | true => exact ho
    | false =>
      have hts : t ≠ s := fun e => by subst e; simp at hb
      exact ⟨r, xs, b, lst hts ht, by rw [(hs t hts).2]; exact hf, hi, hv⟩
  | iptr r x off =>
    obtain ⟨b, o, hN, hr, hv⟩ := k
    have hb : b < w.heap.size := RepR.lt r x b o hr
    exact ⟨b, o, (hA b hN hb).2, RepR.mono hA r x b o (hA b hN hb).1 hr, hv⟩
/-- A name is let go; its block is kept apart; memory may grow, and turn in that block. -/
theorem HRel.forget (k : HRel M φ h w) {s : Nat} (hsz : w.heap.size ≤ w'.heap.size) (hw : ∀ b, φ s ≠ some b → b < w.heap.size → ¬ M b → w'.heap[b]? = w.heap[b]?) (hM : ∀ b, M b → w'.heap[b]? = w.heap[b]? ∨ True) :
    HRel (Also M (φ s)) (upd φ s none) (lset (lmap (mapB (killCell s)) h) s none) w' ∧
    ∀ x v, CellOK φ h w (Imm M φ) x v → CellOK (upd φ s none) (lset (lmap (mapB (killCell s)) h) s none) w' (Imm (Also M (φ s)) (upd φ s none)) (killCell s x) v := by
  have hget' : ∀ t, t ≠ s → hget (lset (lmap (mapB (killCell s)) h) s none) t = mapB (killCell s) (hget h t) := by
    intro t hts
    unfold hget
    rw [lget_lset_other _ _ _ _ _ (Ne.symm hts)]
    exact hget_lmap _ _ _
  have hgets : hget (lset (lmap (mapB (killCell s)) h) s none) s = none := by
    unfold hget
    rw [lget_lset]
    split
    · rfl
    · rename_i hn
      rw [lget_eq, List.getElem?_eq_none (by
        rcases Nat.lt_or_ge s (lmap (mapB (killCell s)) h).length with h' | h'
        · exact absurd ⟨rfl, h'⟩ hn
        · exact h')]
      rfl
  have hcell : ∀ x v, CellOK φ h w (Imm M φ) x v → CellOK (upd φ s none) (lset (lmap (mapB (killCell s)) h) s none) w' (Imm (Also M (φ s)) (upd φ s none)) (killCell s x) v := by
    intro x v hx
    refine killCell_ok (fun t hts => ⟨hget' t hts, upd_other _ _ hts⟩) (fun b hN hb => ⟨hw b (hN.2 s) hb hN.1, Also.imm.2 hN⟩) (fun t b hts hf c hc => ?_) hx
    have := hw b (fun e => hts (k.inj t s b hf e)) (k.own t b hf).2 (k.own t b hf).1
    exact ⟨c, by rw [wcells_of_block this]; exact hc, rfl⟩
  refine ⟨⟨fun t b hb => ?_, fun t ht => ?_, fun t t' b ht ht' => ?_, fun t b ht => ?_, fun b hb => ?_⟩, hcell⟩
  · by_cases hts : t = s
    · subst hts; rw [hgets] at hb; cases hb
    · rw [hget' t hts] at hb
      rw [upd_other _ _ hts]
      cases hx : hget h t with
      | none => rw [hx] at hb; cases hb
      | some x =>
        have hk := k.blk t x hx
        rw [hx] at hb
        have hsame : ∀ b', φ t = some b' → w'.heap[b']? = w.heap[b']? := fun b' hf => hw b' (fun e => hts (k.inj t s b' hf e)) (k.own t b' hf).2 (k.own t b' hf).1
        cases x with
        | row cs =>
          simp [mapB] at hb
          subst hb
          obtain ⟨b', c, hf, hc, hwm, hk⟩ := hk
          exact ⟨b', c, hf, by rw [wcells_of_block (hsame b' hf)]; exact hc, warm_of_block (hsame b' hf) hwm, mapCells_ok hcell hk⟩
        | lst r xs =>
          simp [mapB] at hb
          subst hb
          cases hf : φ t with
          | none => rw [hf] at hk; exact hk
          | some b' =>
            rw [hf] at hk
            obtain ⟨cap, c, hc, hwm, hcs, hl, hr⟩ := hk
            refine ⟨cap, c, by rw [wcells_of_block (hsame b' hf)]; exact hc, warm_of_block (hsame b' hf) hwm, hcs, hl, fun i hi => ?_⟩
            exact RepR.mono (fun b hN hb => ⟨hw b (hN.2 s) hb hN.1, Also.imm.2 hN⟩) r _ _ _ (hsame b' hf) (hr i hi)
  · by_cases hts : t = s
    · subst hts; exact upd_same _ _ _
    · rw [hget' t hts] at ht
      rw [upd_other _ _ hts]
      refine k.non t ?_
      cases hx : hget h t with
      | none => rfl
      | some x => rw [hx] at ht; cases x <;> simp [mapB] at ht
  · unfold upd at ht ht'
    split at ht
    · cases ht
    · split at ht'
      · cases ht'
      · exact k.inj t t' b ht ht'
  · unfold upd at ht
    split at ht
    · cases ht
    · rename_i hts
      refine ⟨fun hM => ?_, Nat.lt_of_lt_of_le (k.own t b ht).2 hsz⟩
      rcases hM with hM | hM
      · exact (k.own t b ht).1 hM
      · exact hts (k.inj t s b ht hM)
  · rcases hb with hb | hb
    · exact Nat.lt_of_lt_of_le (k.old b hb) hsz
    · exact Nat.lt_of_lt_of_le (k.own s b hb).2 hsz
/-- Fewer blocks of others: what was known stays known. -/
theorem HRel.less (k : HRel M' φ h w) (hM : ∀ b, M b → M' b) : HRel M φ h w ∧ ∀ x v, CellOK φ h w (Imm M' φ) x v → CellOK φ h w (Imm M φ) x v := by
  have hI : ∀ b, Imm M' φ b → Imm M φ b := fun b hb => ⟨fun hm => hb.1 (hM b hm), hb.2⟩
  have hL : Later φ h w (Imm M' φ) φ h w (Imm M φ) := ⟨Sub.refl _ _, fun b hb _ => ⟨rfl, hI b hb⟩, fun s b _ _ c hc => ⟨c, hc, rfl⟩⟩
  refine ⟨⟨fun s b hb => ?_, k.non, k.inj, fun s b hs => ⟨fun hm => (k.own s b hs).1 (hM b hm), (k.own s b hs).2⟩, fun b hb => k.old b (hM b hb)⟩, fun x v hx => CellOK.later hL hx⟩
  have hk := k.blk s b hb
  cases b with
  | row cs =>
    obtain ⟨b, c, hf, hc, hw, hk⟩ := hk
    exact ⟨b, c, hf, hc, hw, CellsOK.later hL hk⟩
  | lst r xs =>
    cases hf : φ s with
    | none => rw [hf] at hk; exact hk
    | some b =>
      rw [hf] at hk
      obtain ⟨cap, c, hc, hw, hsz, hl, hr⟩ := hk
      exact ⟨cap, c, hc, hw, hsz, hl, fun i hi => RepR.mono hL.imm r _ _ _ rfl (hr i hi)⟩
/-- A block that was kept apart has its name again. -/
theorem HRel.readd {f : Option Nat} (k : HRel (Also M f) φ h w) {s : Nat} (hs : hget h s = none) (hl : s < h.length) {x : Blk} (hf : ∀ b, f = some b → ¬ M b)
    (hx : BlkOK (upd φ s f) (hset h s x) w (Imm M (upd φ s f)) f x) :
    HRel M (upd φ s f) (hset h s x) w ∧ ∀ y v, CellOK φ h w (Imm (Also M f) φ) y v → CellOK (upd φ s f) (hset h s x) w (Imm M (upd φ s f)) y v := by
  have hI : ∀ b, Imm (Also M f) φ b → Imm M (upd φ s f) b := fun b hb => ⟨fun hm => hb.1 (.inl hm), fun t ht => by
    unfold upd at ht
    split at ht
    · exact hb.1 (.inr ht)
    · exact hb.2 t ht⟩
  have hL : Later φ h w (Imm (Also M f) φ) (upd φ s f) (hset h s x) w (Imm M (upd φ s f)) := ⟨Sub.name hs, fun b hb _ => ⟨rfl, hI b hb⟩, fun s b _ _ c hc => ⟨c, hc, rfl⟩⟩
  refine ⟨⟨fun t b hb => ?_, fun t ht => ?_, fun t t' b ht ht' => ?_, fun t b ht => ?_, fun b hb => k.old b (.inl hb)⟩, fun y v hy => CellOK.later hL hy⟩
  · by_cases hts : t = s
    · subst hts
      rw [hget_hset_same _ _ _ hl] at hb
      cases hb
      rw [upd_same]
      exact hx
    · rw [hget_hset_other _ _ _ _ (Ne.symm hts)] at hb
      rw [upd_other _ _ hts]
      have hk := k.blk t b hb
      cases b with
      | row cs =>
        obtain ⟨b, c, hf, hc, hw, hk⟩ := hk
        exact ⟨b, c, hf, hc, hw, CellsOK.later hL hk⟩
      | lst r xs =>
        cases hf : φ t with
        | none => rw [hf] at hk; exact hk
        | some b =>
          rw [hf] at hk
          obtain ⟨cap, c, hc, hw, hsz, hl, hr⟩ := hk
          exact ⟨cap, c, hc, hw, hsz, hl, fun i hi => RepR.mono hL.imm r _ _ _ rfl (hr i hi)⟩
  · by_cases hts : t = s
    · subst hts; rw [hget_hset_same _ _ _ hl] at ht; cases ht
    · rw [hget_hset_other _ _ _ _ (Ne.symm hts)] at ht
      rw [upd_other _ _ hts]
      exact k.non t ht
  · unfold upd at ht ht'
    split at ht <;> split at ht'
    · subst_vars; rfl
    · exact absurd (.inr ht) (k.own t' b ht').1
    · exact absurd (.inr ht') (k.own t b ht).1
    · exact k.inj t t' b ht ht'
  · unfold upd at ht
    split at ht
    · exact ⟨hf b ht, k.old b (.inr ht)⟩
    · exact ⟨fun hm => (k.own t b ht).1 (.inl hm), (k.own t b ht).2⟩

/-! ### A row of elements that does not turn any more -/
theorem HRel.freeze (k : HRel M φ h w) {s : Nat} {r : RT} {xs : List r.I} (hs : hget h s = some (.lst r xs)) :
    HRel M (upd φ s none) (lmap (mapB (frzCell s r xs)) (lset h s none)) w ∧
    ∀ x v, CellOK φ h w (Imm M φ) x v → CellOK (upd φ s none) (lmap (mapB (frzCell s r xs)) (lset h s none)) w (Imm M (upd φ s none)) (frzCell s r xs x) v := by
  have hget' : ∀ t, t ≠ s → hget (lmap (mapB (frzCell s r xs)) (lset h s none)) t = mapB (frzCell s r xs) (hget h t) := by
    intro t hts
    rw [hget_lmap]
    unfold hget
    rw [lget_lset_other _ _ _ _ _ (Ne.symm hts)]
  have hgets : hget (lmap (mapB (frzCell s r xs)) (lset h s none)) s = none := by
    rw [hget_lmap]
    unfold hget
    rw [lget_lset_same _ _ _ _ (hget_lt hs)]
    rfl
  have hI : ∀ b, Imm M φ b → Imm M (upd φ s none) b := fun b hb => ⟨hb.1, fun t ht => by
    unfold upd at ht
    split at ht
    · cases ht
    · exact hb.2 t ht⟩
  have hbs := k.blk s _ hs
  -- the block itself does not turn any more
  have hNs : ∀ b, φ s = some b → Imm M (upd φ s none) b := fun b hf => ⟨(k.own s b hf).1, fun t ht => by
    unfold upd at ht
    split at ht
    · cases ht
    · rename_i hts; exact hts (k.inj t s b ht hf)⟩
  have hrow : ∀ b, φ s = some b → ∀ i (hi : i < xs.length), RepR w (Imm M (upd φ s none)) r (xs[i]'hi) b (i * r.n) := by
    intro b hf i hi
    rw [hf] at hbs
    obtain ⟨cap, c, hc, hw, hsz, hl, hr⟩ := hbs
    exact RepR.mono (fun b hb _ => ⟨rfl, hI b hb⟩) r _ _ _ rfl (hr i hi)
  have hwhole : ∀ {n : Nat} {v : Value}, HeadOK w r (φ s) n v → n ≤ xs.length → RepC w (Imm M (upd φ s none)) (.sl r) (xs.take n) v := by
    intro n v hk hn
    obtain ⟨a, cap, hv, hc, ha⟩ := hk.slice
    have hlen : (xs.take n).length = n := by simp; omega
    refine ⟨a, cap, by rw [hlen]; exact hv, by rw [hlen]; exact hc, fun hne => ?_⟩
    obtain ⟨b, hf, ha⟩ := ha (fun e => by subst e; simp at hne)
    refine ⟨b, 0, ha, hNs b hf, fun i hi => ?_⟩
    have hi' : i < xs.length := by rw [hlen] at hi; omega
    have := hrow b hf i hi'
    rw [Nat.zero_add]
    simpa using this
  have hcell : ∀ x v, CellOK φ h w (Imm M φ) x v → CellOK (upd φ s none) (lmap (mapB (frzCell s r xs)) (lset h s none)) w (Imm M (upd φ s none)) (frzCell s r xs x) v := by
    intro x v hx
    have head : ∀ {r' : RT} {t n : Nat} {v : Value}, t ≠ s → HeadOK w r' (φ t) n v → HeadOK w r' (upd φ s none t) n v := fun hts k => by rw [upd_other _ _ hts]; exact k
    have lst : ∀ {t : Nat} {r' : RT} {ys : List r'.I}, t ≠ s → hget h t = some (.lst r' ys) → hget (lmap (mapB (frzCell s r xs)) (lset h s none)) t = some (.lst r' ys) := by
      intro t r' ys hts ht; rw [hget' t hts, ht]; rfl
    cases x with
    | any => exact hx
    | c t x => exact RepC.mono (fun b hb _ => ⟨rfl, hI b hb⟩) t x v hx
    | nils => exact hx
    | vec t =>
      obtain ⟨r', ys, ht, hk⟩ := hx
      simp only [frzCell]
      cases hb : Nat.beq s t with
      | true =>
        have : s = t := Nat.eq_of_beq_eq_true hb
        subst this
        rw [hs] at ht
        cases ht
        have := hwhole hk (Nat.le_refl _)
        rw [List.take_length] at this
        exact this
      | false =>
        have hts : t ≠ s := fun e => by subst e; simp at hb
        exact ⟨r', ys, lst hts ht, head hts hk⟩
    | sub t lo n =>
      obtain ⟨r', ys, ht, hl, hz, a, cap, hv, hn, ha⟩ := hx
      simp only [frzCell]
      cases hb : Nat.beq s t with
      | true =>
        have : s = t := Nat.eq_of_beq_eq_true hb
        subst this
        rw [hs] at ht
        cases ht
        have hlen : ((xs.drop lo).take n).length = n := by simp; omega
        refine ⟨a, cap, by rw [hlen]; exact hv, by rw [hlen]; exact hn, fun hne => ?_⟩
        obtain ⟨b, hf, ha⟩ := ha (fun e => by subst e; simp at hne)
        refine ⟨b, _, ha, hNs b hf, fun i hi => ?_⟩
        have hi' : lo + i < xs.length := by rw [hlen] at hi; omega
        have := hrow b hf (lo + i) hi'
        rw [show lo * r.n + i * r.n = (lo + i) * r.n by rw [Nat.add_mul]]
        simpa using this
      | false =>
        have hts : t ≠ s := fun e => by subst e; simp at hb
        exact ⟨r', ys, lst hts ht, hl, fun h0 => head hts (hz h0), a, cap, hv, hn, fun h0 => by rw [upd_other _ _ hts]; exact ha h0⟩
    | ptr t off =>
      obtain ⟨cs, b, ht, hf, hv⟩ := hx
      have hts : t ≠ s := fun e => by subst e; rw [hs] at ht; cases ht
      exact ⟨lmap (frzCell s r xs) cs, b, by rw [hget' t hts, ht]; rfl, by rw [upd_other _ _ hts]; exact hf, hv⟩
    | eptr t i off =>
      obtain ⟨r', ys, b, ht, hf, hi, hv⟩ := hx
      simp only [frzCell]
      cases hb : Nat.beq s t with
      | true =>
        have : s = t := Nat.eq_of_beq_eq_true hb
        subst this
        rw [hs] at ht
        cases ht
        have hg : xs.getD i r.zero = xs[i] := by simp [List.getD, hi]
        exact ⟨b, i * r.n, hNs b hf, by rw [hg]; exact hrow b hf i hi, hv⟩
      | false =>
        have hts : t ≠ s := fun e => by subst e; simp at hb
        exact ⟨r', ys, b, lst hts ht, by rw [upd_other _ _ hts]; exact hf, hi, hv⟩
    | iptr r' x off =>
      obtain ⟨b, o, hN, hr, hv⟩ := hx
      exact ⟨b, o, hI b hN, RepR.mono (fun b hb _ => ⟨rfl, hI b hb⟩) r' x b o rfl hr, hv⟩
  refine ⟨⟨fun t b hb => ?_, fun t ht => ?_, fun t t' b ht ht' => ?_, fun t b ht => ?_, k.old⟩, hcell⟩
  · by_cases hts : t = s
    · subst hts; rw [hgets] at hb; cases hb
    · rw [hget' t hts] at hb
      rw [upd_other _ _ hts]
      cases hx : hget h t with
      | none => rw [hx] at hb; cases hb
      | some x =>
        have hk := k.blk t x hx
        rw [hx] at hb
        cases x with
        | row cs =>
          simp [mapB] at hb
          subst hb
          obtain ⟨b', c, hf, hc, hwm, hk⟩ := hk
          exact ⟨b', c, hf, hc, hwm, mapCells_ok hcell hk⟩
        | lst r' ys =>
          simp [mapB] at hb
          subst hb
          cases hf : φ t with
          | none => rw [hf] at hk; exact hk
          | some b' =>
            rw [hf] at hk
            obtain ⟨cap, c, hc, hwm, hcs, hl, hr⟩ := hk
            exact ⟨cap, c, hc, hwm, hcs, hl, fun i hi => RepR.mono (fun b hb _ => ⟨rfl, hI b hb⟩) r' _ _ _ rfl (hr i hi)⟩
  · by_cases hts : t = s
    · subst hts; exact upd_same _ _ _
    · rw [hget' t hts] at ht
      rw [upd_other _ _ hts]
      refine k.non t ?_
      cases hx : hget h t with
      | none => rfl
      | some x => rw [hx] at ht; cases x <;> simp [mapB] at ht
  · unfold upd at ht ht'
    split at ht
    · cases ht
    · split at ht'
      · cases ht'
      · exact k.inj t t' b ht ht'
  · unfold upd at ht
    split at ht
    · cases ht
    · exact k.own t b ht
end
end Go.AM
