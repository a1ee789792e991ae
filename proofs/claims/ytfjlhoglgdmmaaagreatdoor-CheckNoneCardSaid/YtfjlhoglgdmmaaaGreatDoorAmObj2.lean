/- Calls that may turn objects: what is handed over. -/
import Derived.Test.YtfjlhoglgdmmaaaGreatDoorAmObj
set_option autoImplicit false
set_option linter.unusedVariables false
set_option linter.unusedSimpArgs false
namespace Go.AM
theorem toRow_enc {φ : Nat → Option Nat} {h : Heap} {w : World} {N : Nat → Prop} : ∀ {r : RT} {cs : List Cell} {y : r.I} {vs : List Value}, toRow r cs = some y → CellsOK φ h w N cs vs → CellsOK φ h w N (rowCells r y) vs
  | .one c, [x], y, [v], ht, hk => ⟨castCell_ok ht hk.1, trivial⟩
  | .one c, [x], y, [], _, hk => hk.elim
  | .one c, [x], y, _ :: _ :: _, _, hk => hk.2.elim
  | .one c, [], y, _, ht, _ => by simp [toRow] at ht
  | .one c, _ :: _ :: _, y, _, ht, _ => by simp [toRow] at ht
  | .cons c r, [], y, _, ht, _ => by simp [toRow] at ht
  | .cons c r, x :: l, y, [], _, hk => hk.elim
  | .cons c r, x :: l, y, v :: m, ht, hk => by
    simp only [toRow] at ht
    split at ht
    · rename_i a d h1 h2
      cases ht
      exact ⟨castCell_ok h1 hk.1, toRow_enc h2 hk.2⟩
    · cases ht
theorem dec_ok {φ : Nat → Option Nat} {h : Heap} {w : World} {N : Nat → Prop} {t : AT} {u : V} {x : t.I} {v : Value} (hd : t.dec u = some x) (k : VOK φ h w N u v) : VOK φ h w N (t.enc x) v := by
  cases t with
  | one c =>
    cases u with
    | one y => exact castCell_ok hd k
    | any => cases hd
    | skip => cases hd
    | agg _ => cases hd
    | tup _ => cases hd
  | agg r =>
    cases u with
    | agg cs =>
      obtain ⟨arr, hv, hk⟩ := k
      exact ⟨arr, hv, toRow_enc hd hk⟩
    | any => cases hd
    | skip => cases hd
    | one _ => cases hd
    | tup _ => cases hd
/-- The arguments of a call that may turn objects. -/
def ArgsOwn (w : World) (N : Nat → Prop) : (ts : List PT) → PArgs ts → List Value → List Nat → Prop
  | [], _, vs, B => vs = [] ∧ B = []
  | .v t :: ts, xs, vs, B => ∃ v vs', vs = v :: vs' ∧ VOK (fun _ => none) [] w N (t.enc xs.1) v ∧ ArgsOwn w N ts xs.2 vs' B
  | .ref r :: ts, xs, vs, B => ∃ v vs' B1 B2, vs = v :: vs' ∧ B = B1 ++ B2 ∧ OwnC w N (.obj r) xs.1 v B1 ∧ ArgsOwn w N ts xs.2 vs' B2
section
variable {M : Nat → Prop} {φ : Nat → Option Nat} {h : Heap} {w : World}
theorem readArgs_ok (k : HRel M φ h w) : ∀ (ts : List PT) {us : List V} {vs : List Value} {xs : PArgs ts} {roots ns subs : List Nat}, All2 (VOK φ h w (Imm M φ)) us vs → readArgs h ts us = some (xs, roots, ns, subs) →
    ArgsOwn w (Imm M φ) ts xs vs (ns.filterMap φ) ∧ (∀ s, s ∈ ns ↔ s ∈ roots ∨ s ∈ subs) ∧ roots.Sublist ns ∧ (∀ s ∈ roots, ∃ cs b, hget h s = some (.row cs) ∧ φ s = some b)
  | [], us, vs, xs, roots, ns, subs, hk, hr => by
    match us, vs, hk, hr with
    | [], [], _, hr =>
      simp only [readArgs, Option.some.injEq, Prod.mk.injEq] at hr
      obtain ⟨_, rfl, rfl, rfl⟩ := hr
      exact ⟨⟨rfl, rfl⟩, by simp, by simp, by simp⟩
    | [], _ :: _, hk, _ => exact hk.elim
    | _ :: _, _, _, hr => simp [readArgs] at hr
  | .v t :: ts, us, vs, xs, roots, ns, subs, hk, hr => by
    match us, vs, hk, hr with
    | u :: us, v :: vs, hk, hr =>
      unfold readArgs at hr
      split at hr
      · rename_i x xs' roots' ns' subs' h1 h2
        cases hr
        obtain ⟨h3, h4, h5, h6⟩ := readArgs_ok k ts hk.2 h2
        exact ⟨⟨v, vs, rfl, plain_rows (dec_ok h1 hk.1), h3⟩, h4, h5, h6⟩
      · cases hr
    | u :: us, [], hk, _ => exact hk.elim
    | [], _, _, hr => simp [readArgs] at hr
  | .ref r :: ts, us, vs, xs, roots, ns, subs, hk, hr => by
    match us, vs, hk, hr with
    | u :: us, v :: vs, hk, hr =>
      unfold readArgs at hr
      split at hr
      · split at hr
        · rename_i xs' roots' ns' subs' h2
          cases hr
          obtain ⟨h3, h4, h5, h6⟩ := readArgs_ok k ts hk.2 h2
          exact ⟨⟨v, vs, [], _, rfl, rfl, ⟨hk.1, rfl⟩, h3⟩, h4, h5, h6⟩
        · cases hr
      · rename_i s
        split at hr
        · rename_i cs hs
          split at hr
          · rename_i y ms xs' roots' ns' subs' h1 h2
            cases hr
            obtain ⟨h3, h4, h6, h5⟩ := readArgs_ok k ts hk.2 h2
            obtain ⟨cs0, b, hs0, hf, hv⟩ := hk.1
            obtain ⟨b', c, hf', hc, hw, hkk⟩ := k.blk s _ hs
            rw [hf] at hf'; cases hf'
            refine ⟨⟨v, vs, b :: ms.filterMap φ, ns'.filterMap φ, rfl, by simp [hf], ⟨b, c, ms.filterMap φ, hv, rfl, hc, hw, readR_ok k r hkk h1⟩, h3⟩, fun s' => ?_, List.Sublist.cons_cons _ (h6.trans (List.sublist_append_right _ _)), fun s' hs' => ?_⟩
            · simp only [List.mem_cons, List.mem_append, h4]
              constructor
              · rintro (h | h | h | h)
                · exact .inl (.inl h)
                · exact .inr (.inl h)
                · exact .inl (.inr h)
                · exact .inr (.inr h)
              · rintro ((h | h) | h | h)
                · exact .inl h
                · exact .inr (.inr (.inl h))
                · exact .inr (.inl h)
                · exact .inr (.inr (.inr h))
            · rcases List.mem_cons.1 hs' with rfl | hs'
              · exact ⟨cs, b, hs, hf⟩
              · exact h5 s' hs'
          · cases hr
        · cases hr
      · cases hr
    | u :: us, [], hk, _ => exact hk.elim
    | [], _, _, hr => simp [readArgs] at hr

/-! ### Names that are let go for a while -/
def killCs : List Nat → Cell → Cell
  | [], x => x
  | s :: l, x => killCs l (killCell s x)
theorem MB_also {f : Option Nat} {B : List Nat} : MB (Also M f) B = MB M (f.toList ++ B) := by
  funext b
  refine propext ?_
  cases f with
  | none => simp [MB, Also]
  | some b' =>
    simp only [MB, Also, Option.some.injEq, Option.toList_some, List.singleton_append, List.mem_cons]
    constructor
    · rintro ((h | h) | h)
      · exact .inl h
      · exact .inr (.inl h.symm)
      · exact .inr (.inr h)
    · rintro (h | h | h)
      · exact .inl (.inl h)
      · exact .inl (.inr h.symm)
      · exact .inr h
theorem hget_kill1 {s t : Nat} (hts : t ≠ s) : hget (lset (lmap (mapB (killCell s)) h) s none) t = mapB (killCell s) (hget h t) := by
  rw [show hget (lset (lmap (mapB (killCell s)) h) s none) t = hget (lmap (mapB (killCell s)) h) t from lget_lset_other _ _ _ _ _ (Ne.symm hts)]
  exact hget_lmap _ _ _
theorem mapB_none {f : Cell → Cell} {x : Option Blk} : mapB f x = none ↔ x = none := by
  cases x with
  | none => simp [mapB]
  | some y => cases y <;> simp [mapB]
theorem hget_killH : ∀ (ns : List Nat) (h : Heap) (t : Nat), t ∉ ns → (hget (killH ns h) t = none ↔ hget h t = none)
  | [], h, t, _ => Iff.rfl
  | s :: ns, h, t, ht => by
    have h1 : t ≠ s := fun e => ht (by simp [e])
    have h2 : t ∉ ns := fun e => ht (by simp [e])
    unfold killH
    rw [hget_killH ns _ t h2, hget_kill1 h1, mapB_none]
theorem killH_len : ∀ (ns : List Nat) (h : Heap), (killH ns h).length = h.length
  | [], h => rfl
  | s :: ns, h => by
    unfold killH
    rw [killH_len ns, lset_length, lmap_length]
theorem filterMap_same {f g : Nat → Option Nat} : ∀ (l : List Nat), (∀ t ∈ l, f t = g t) → l.filterMap f = l.filterMap g
  | [], _ => rfl
  | x :: l, h => by simp only [List.filterMap_cons, h x (by simp), filterMap_same l (fun t ht => h t (by simp [ht]))]
theorem forgets_ok : ∀ (ns : List Nat) {M : Nat → Prop} {φ : Nat → Option Nat} {h : Heap}, ns.Nodup → HRel M φ h w → ∃ φ2, HRel (MB M (ns.filterMap φ)) φ2 (killH ns h) w ∧
    (∀ x v, CellOK φ h w (Imm M φ) x v → CellOK φ2 (killH ns h) w (Imm (MB M (ns.filterMap φ)) φ2) (killCs ns x) v) ∧ (∀ t, t ∉ ns → φ2 t = φ t) ∧ (∀ t, t ∈ ns → φ2 t = none ∧ hget (killH ns h) t = none) ∧
    Imm (MB M (ns.filterMap φ)) φ2 = Imm M φ
  | [], M, φ, h, _, k => by
    have he : MB M (([] : List Nat).filterMap φ) = M := by funext b; simp [MB]
    rw [he]
    exact ⟨φ, k, fun _ _ h => h, fun _ _ => rfl, fun t ht => (by cases ht), rfl⟩
  | s :: ns, M, φ, h, hnd, k => by
    rw [List.nodup_cons] at hnd
    obtain ⟨f1, f2⟩ := k.forget (s := s) (w' := w) (Nat.le_refl _) (fun b _ _ _ => rfl) (fun b _ => .inr trivial)
    obtain ⟨φ2, g1, g2, g3, g4, g5⟩ := forgets_ok ns hnd.2 f1
    have hfm : ns.filterMap (upd φ s none) = ns.filterMap φ := by
      exact filterMap_same ns (fun t ht => upd_other _ _ (fun e => hnd.1 (by rw [← e]; exact ht)))
    have hB : (s :: ns).filterMap φ = (φ s).toList ++ ns.filterMap φ := by
      cases hf : φ s <;> simp [hf]
    rw [hfm, MB_also, ← hB] at g1 g2 g5
    refine ⟨φ2, g1, fun x v hx => g2 _ _ (f2 x v hx), fun t ht => ?_, fun t ht => ?_, ?_⟩
    · rw [g3 t (fun e => ht (by simp [e])), upd_other _ _ (fun e => ht (by simp [e]))]
    · by_cases hts : t ∈ ns
      · exact g4 t hts
      · have : t = s := by
          rcases List.mem_cons.1 ht with h | h
          · exact h
          · exact absurd h hts
        subst this
        refine ⟨by rw [g3 t hts, upd_same], ?_⟩
        show hget (killH ns (lset (lmap (mapB (killCell t)) h) t none)) t = none
        rw [hget_killH ns _ t hts]
        by_cases hl : t < h.length
        · exact lget_lset_same _ _ _ _ (by rw [lmap_length]; exact hl)
        · unfold hget
          rw [lget_eq, List.getElem?_eq_none (by rw [lset_length, lmap_length]; omega)]; rfl
    · rw [g5]
      funext b
      exact propext Also.imm
/-- The world turns in others' blocks, and which those are. -/
theorem HRel.move {M M' : Nat → Prop} {w' : World} (k : HRel M φ h w) (hsz : w.heap.size ≤ w'.heap.size) (hw : ∀ b, b < w.heap.size → ¬ M b → w'.heap[b]? = w.heap[b]?) (hI : ∀ b, Imm M φ b → b < w.heap.size → ¬ M' b)
    (ho : ∀ s b, φ s = some b → ¬ M' b) (hold : ∀ b, M' b → b < w'.heap.size) : HRel M' φ h w' ∧ ∀ x v, CellOK φ h w (Imm M φ) x v → CellOK φ h w' (Imm M' φ) x v := by
  have hL : Later φ h w (Imm M φ) φ h w' (Imm M' φ) := ⟨Sub.refl _ _, fun b hb hl => ⟨hw b hl hb.1, hI b hb hl, hb.2⟩, fun s b hs _ c hc => ⟨c, by rw [wcells_of_block (hw b (k.own s b hs).2 (k.own s b hs).1)]; exact hc, rfl⟩⟩
  refine ⟨⟨fun s x hx => ?_, k.non, k.inj, fun s b hs => ⟨ho s b hs, Nat.lt_of_lt_of_le (k.own s b hs).2 hsz⟩, hold⟩, fun x v hx => CellOK.later hL hx⟩
  have hk := k.blk s x hx
  have hb : ∀ b, φ s = some b → w'.heap[b]? = w.heap[b]? := fun b hs => hw b (k.own s b hs).2 (k.own s b hs).1
  cases x with
  | row cs =>
    obtain ⟨b, c, hf, hc, hwm, hk⟩ := hk
    exact ⟨b, c, hf, by rw [wcells_of_block (hb b hf)]; exact hc, warm_of_block (hb b hf) hwm, CellsOK.later hL hk⟩
  | lst r xs =>
    cases hf : φ s with
    | none => rw [hf] at hk; exact hk
    | some b =>
      rw [hf] at hk
      obtain ⟨cap, c, hc, hwm, hcs, hl, hr⟩ := hk
      exact ⟨cap, c, by rw [wcells_of_block (hb b hf)]; exact hc, warm_of_block (hb b hf) hwm, hcs, hl, fun i hi => RepR.mono hL.imm r _ _ _ (hb b hf) (hr i hi)⟩
end
end Go.AM
