/- Stores and appends of the abstract machine, and any operation. -/
import Derived.Test.YtfjlhoglgdmmaaaGreatDoorAmRows
set_option autoImplicit false
set_option linter.unusedVariables false
set_option linter.unusedSimpArgs false
namespace Go.AM
/-- The operation is carried out, and so it stands then. -/
def Does (P : Program) (a : Act) (o : Oper) (w : World) (Q : Act → World → Prop) : Prop :=
  (∃ v w', (execOp a.eval o).run P w = .ok (.value v) w' ∧ Q (a.put o.dst v) w') ∨
  (o.dst = none ∧ ∃ w', (execOp a.eval o).run P w = .ok .skip w' ∧ Q a w') ∨
  (∃ f args, (execOp a.eval o).run P w = .ok (.enter f args) w ∧ Calls P f args w fun e w' => match e with
    | .returned v => Q (a.put o.dst v) w'
    | _ => False)
section
variable {P : Program} {T : List (Nat × TI)} {F : Funs} {R : Type} {w0 : World} {O : Old} {M : Nat → Prop} {φ : Nat → Option Nat} {st : St} {a : Act} {w : World} {o : Oper}
theorem Does.wp {Q : Exit → Act → World → Prop} {next : Act → World → Prop} (h : Does P a o w next) : o.wp P a w next Q := by
  unfold Oper.wp
  rcases h with ⟨v, w', hr, hq⟩ | ⟨hd, w', hr, hq⟩ | ⟨f, args, hr, hq⟩
  · rw [hr]; exact hq
  · rw [hr, Oper.upon_skip, hd]; exact hq
  · rw [hr, Oper.upon_enter]
    exact hq.mono fun e w' he => by cases e <;> first | exact he | exact he.elim
theorem Does.mono {Q Q' : Act → World → Prop} (h : Does P a o w Q) (hq : ∀ a w, Q a w → Q' a w) : Does P a o w Q' := by
  rcases h with ⟨v, w', hr, h⟩ | ⟨hd, w', hr, h⟩ | ⟨f, args, hr, h⟩
  · exact .inl ⟨v, w', hr, hq _ _ h⟩
  · exact .inr (.inl ⟨hd, w', hr, hq _ _ h⟩)
  · exact .inr (.inr ⟨f, args, hr, h.mono fun e w' he => by cases e <;> first | exact hq _ _ he | exact he.elim⟩)
theorem Does.of_yields {post : Value → World → Prop} {Q : Act → World → Prop} (h : Yields P a.eval o w post) (hq : ∀ v w', Ext w w' → post v w' → Q (a.put o.dst v) w') : Does P a o w Q := by
  rcases h with ⟨v, w', hr, he, hp⟩ | ⟨f, args, hr, hp⟩
  · exact .inl ⟨v, w', hr, hq v w' he hp⟩
  · exact .inr (.inr ⟨f, args, hr, hp.mono fun e w' he => by cases e <;> first | exact hq _ _ he.1 he.2 | exact he.elim⟩)

/-! ### Rows that are frozen -/
theorem upd_none_sub {s t b : Nat} (h : upd φ s none t = some b) : t ≠ s ∧ φ t = some b := by
  unfold upd at h
  split at h
  · cases h
  · rename_i hn; exact ⟨hn, h⟩
theorem freeze_ok (k : Rel w0 O M φ st a w) (s : Nat) : ∃ φ', Rel w0 O M φ' (freeze s st) a w := by
  unfold freeze
  split
  · rename_i r xs hs
    obtain ⟨h1, h2⟩ := k.toHRel.freeze hs
    refine ⟨upd φ s none, { toHRel := h1, len := ?_, env := fun t => ?_, defers := k.defers, frm := k.frm, fresh := fun t b hb => k.fresh t b (upd_none_sub hb).2, pin := fun t b ht => ?_ }⟩
    · simp only [mapSt, lmap_length]; exact k.len
    · simp only [mapSt, lget_mapV]; exact mapV_ok h2 (k.env t)
    · obtain ⟨p1, p2, cs, p3⟩ := k.pin t b ht
      have hne : t ≠ s := fun e => by subst e; rw [hs] at p3; cases p3
      refine ⟨by rw [upd_other _ _ hne]; exact p1, by simp only [mapSt, lmap_length]; exact p2, lmap (frzCell s r xs) cs, ?_⟩
      simp only [mapSt, hget_lmap]
      rw [show hget (lset st.heap s none) t = hget st.heap t from lget_lset_other _ _ _ _ _ (Ne.symm hne), p3]; rfl
  · exact ⟨φ, k⟩
theorem freezes_ok : ∀ (ns : List Nat) {φ : Nat → Option Nat} {st : St}, Rel w0 O M φ st a w → ∃ φ', Rel w0 O M φ' (freezes ns st) a w
  | [], φ, st, k => ⟨φ, k⟩
  | s :: ns, φ, st, k => by
    obtain ⟨φ', k'⟩ := freeze_ok k s
    exact freezes_ok ns k'

/-! ### Stores -/
theorem Frame.setCells {b o : Nat} {vs : List Value} (h : Frame w0 O w) (hb : O.blk b ∨ w0.heap.size ≤ b) : Frame w0 O (w.setCells b o vs) := by
  obtain ⟨h1, h2, h3, h4, h5⟩ := setCells_frame b vs o w
  refine ⟨h1.trans h.os, h2.trans h.tape, h3.trans h.output, by rw [h4]; exact h.size, fun b' hlt hO => ?_⟩
  rw [h5 b' (fun e => by subst e; rcases hb with hb | hb; exact hO hb; omega)]
  exact h.block b' hlt hO
theorem run_store_row {t b off : Nat} {x : Operand} {y : Operand} {ti : TI} (hT : TIok P t ti) {c : Array Value} (hc : wcells w b = some c) (hw : warm w b) (ho : o.op = .store t x y) (hx : a.eval x = .pointer (some ⟨b, off, none⟩))
    (hl : (a.eval y).cells.size = ti.size) (hf : off + ti.size ≤ c.size) (h1 : ∀ v ∈ (a.eval y).cells.toList, v.oneCell' = true) :
    (execOp a.eval o).run P w = .ok .skip (w.setCells b off (a.eval y).cells.toList) := by
  have hst := run_storeCells_cells (P := P) b off (a.eval y).cells.toList 0 w (fun j hj => by
      rw [wcells_cell hc]; simp at hj ⊢; omega) (fun j hj => hw c hc _ (by simp at hj; omega)) h1
  simp only [Nat.add_zero] at hst
  unfold execOp
  rw [ho]
  simp only [Instr.storeAt, Instr.sureAddr, storeVar, hx, Sem.run_bind, Sem.run_pure, Result.andThen_ok, hT.sizeOf, hl, ne_eq, not_true, if_false, hst]
/-- Cells in a block turn; the names stay. -/
theorem HRel.turn (k : HRel M φ st.heap w) {s b : Nat} (hs : φ s = some b) {x x' : Blk} (hx : hget st.heap s = some x) (hlike : likeB x x') {off : Nat} {vs : List Value} {c : Array Value} (hc : wcells w b = some c) (hfit : off + vs.length ≤ c.size)
    (hb : Later φ st.heap w (Imm M φ) φ (hset st.heap s x') (w.setCells b off vs) (Imm M φ) → BlkOK φ (hset st.heap s x') (w.setCells b off vs) (Imm M φ) (φ s) x') :
    HRel M φ (hset st.heap s x') (w.setCells b off vs) ∧ Later φ st.heap w (Imm M φ) φ (hset st.heap s x') (w.setCells b off vs) (Imm M φ) := by
  obtain ⟨h1, h2, h3, h4, h5⟩ := setCells_frame b vs off w
  have hsl := hget_lt hx
  have hsub : Sub φ st.heap φ (hset st.heap s x') := ⟨fun t y hy => by
    by_cases hst : s = t
    · subst hst
      rw [hx] at hy; cases hy
      exact ⟨x', hget_hset_same _ _ _ hsl, hlike, rfl⟩
    · exact ⟨y, by rw [hget_hset_other _ _ _ _ hst]; exact hy, likeB.refl y, rfl⟩⟩
  have hL : Later φ st.heap w (Imm M φ) φ (hset st.heap s x') (w.setCells b off vs) (Imm M φ) := by
    refine ⟨hsub, fun b' hb' _ => ⟨h5 b' (fun e => by subst e; exact hb'.2 s hs), hb'⟩, fun t b' ht _ c' hc' => ?_⟩
    by_cases hbb : b' = b
    · subst hbb
      rw [hc] at hc'; cases hc'
      obtain ⟨c'', h6, h7⟩ := wcells_setCells vs off w c hc hfit
      refine ⟨c'', h6, ?_⟩
      have := congrArg List.length h7
      simp at this
      omega
    · exact ⟨c', by rw [wcells_of_block (h5 b' hbb)]; exact hc', rfl⟩
  refine ⟨⟨fun t y hy => ?_, fun t ht => ?_, k.inj, fun t b' ht => ⟨(k.own t b' ht).1, by rw [h4]; exact (k.own t b' ht).2⟩, fun b' hb' => by rw [h4]; exact k.old b' hb'⟩, hL⟩
  · by_cases hst : s = t
    · subst hst
      rw [hget_hset_same _ _ _ hsl] at hy
      cases hy
      exact hb hL
    · rw [hget_hset_other _ _ _ _ hst] at hy
      have hk := k.blk t y hy
      have hne : ∀ b', φ t = some b' → (w.setCells b off vs).heap[b']? = w.heap[b']? := fun b' ht => h5 b' (fun e => by subst e; exact hst (k.inj s t b' hs ht))
      cases y with
      | row cs =>
        obtain ⟨b', c', hf, hc', hw', hk⟩ := hk
        exact ⟨b', c', hf, by rw [wcells_of_block (hne b' hf)]; exact hc', warm_of_block (hne b' hf) hw', CellsOK.later hL hk⟩
      | lst r xs =>
        cases hf : φ t with
        | none => rw [hf] at hk; exact hk
        | some b' =>
          rw [hf] at hk
          obtain ⟨cap, c', hc', hw', hsz, hl, hr⟩ := hk
          exact ⟨cap, c', by rw [wcells_of_block (hne b' hf)]; exact hc', warm_of_block (hne b' hf) hw', hsz, hl, fun i hi => RepR.mono hL.imm r _ _ _ (hne b' hf) (hr i hi)⟩
  · by_cases hst : s = t
    · subst hst
      rw [hget_hset_same _ _ _ hsl] at ht
      cases ht
    · rw [hget_hset_other _ _ _ _ hst] at ht
      exact k.non t ht
theorem splice_get {α : Type} (l ys : List α) (o j : Nat) (h : o + ys.length ≤ l.length) : (l.take o ++ ys ++ l.drop (o + ys.length))[j]? = if o ≤ j ∧ j < o + ys.length then ys[j - o]? else l[j]? := by
  have ht : (l.take o).length = o := by simp; omega
  by_cases h1 : j < o
  · rw [if_neg (by omega), List.append_assoc, List.getElem?_append_left (by omega), List.getElem?_take_of_lt h1]
  · by_cases h2 : j < o + ys.length
    · rw [if_pos ⟨by omega, h2⟩, List.append_assoc, List.getElem?_append_right (by omega), ht, List.getElem?_append_left (by omega)]
    · rw [if_neg (by omega), List.getElem?_append_right (by simp; omega), List.getElem?_drop]
      congr 1
      simp
      omega
theorem wcells_set {b off : Nat} {vs : List Value} {c : Array Value} (hc : wcells w b = some c) (hfit : off + vs.length ≤ c.size) :
    ∃ c', wcells (w.setCells b off vs) b = some c' ∧ c'.size = c.size ∧ c'.toList = c.toList.take off ++ vs ++ c.toList.drop (off + vs.length) ∧ ∀ j : Nat, c'.toList[j]? = if off ≤ j ∧ j < off + vs.length then vs[j - off]? else c.toList[j]? := by
  obtain ⟨c', h1, h2⟩ := wcells_setCells vs off w c hc hfit
  refine ⟨c', h1, ?_, h2, fun j => by rw [h2]; exact splice_get _ _ _ _ (by simpa using hfit)⟩
  have := congrArg List.length h2
  simp only [List.length_append, List.length_take, List.length_drop, Array.length_toList] at this
  omega
theorem warm_setCells {b off : Nat} {vs : List Value} {c : Array Value} (hc : wcells w b = some c) (hfit : off + vs.length ≤ c.size) (hw : warm w b) : warm (w.setCells b off vs) b := by
  intro c' hc' o ho
  obtain ⟨c'', h1, h2⟩ := wcells_setCells vs off w c hc hfit
  rw [h1] at hc'
  cases hc'
  have := congrArg List.length h2
  simp at this
  rw [World.frozen?_setCells]
  exact hw c hc o (by omega)
theorem storeK_ok (hT : TOK P T) (k : Rel w0 O M φ st a w) {t : Nat} {x y : Operand} (ho : o.op = .store t x y) {K : St → Option R} {r : R}
    (he : storeK T t (ev st.env x) (ev st.env y) o.dst st K = some r) : ∃ st', K st' = some r ∧ Does P a o w fun a' w' => ∃ φ', Rel w0 O M φ' st' a' w' := by
  unfold storeK at he
  split at he
  · rename_i ti cs ht hcs hd
    cases hlen : Nat.beq (llen cs) ti.size with
    | false => rw [hlen, cond_false] at he; cases he
    | true =>
    rw [hlen, cond_true] at he
    have hlen := Nat.eq_of_beq_eq_true hlen
    rw [llen_eq] at hlen
    have hcells := cells_ok hcs (k.ev y)
    have hvs : (a.eval y).cells.toList.length = ti.size := by rw [← hcells.length, hlen]
    have hx := k.ev x
    split at he
    · rename_i s off hxs
      rw [hxs] at hx
      split at he
      · rename_i l hs
        cases hle : Nat.ble (off + llen cs) (llen l) with
        | false => rw [hle, cond_false] at he; cases he
        | true =>
        rw [hle, cond_true] at he
        have hle := Nat.le_of_ble_eq_true hle
        rw [llen_eq, llen_eq] at hle
        obtain ⟨cs0, b, hs', hf, hxv⟩ := hx
        have hcl : l = cs0 := by rw [hs] at hs'; cases hs'; rfl
        subst hcl
        have hb := k.blk s _ hs
        rw [hf] at hb
        obtain ⟨b', c, e, hc, hw, hk⟩ := hb
        cases e
        have hcl : l.length = c.size := by rw [hk.length]; simp
        have hfit : off + (a.eval y).cells.toList.length ≤ c.size := by omega
        refine ⟨_, he, .inr (.inl ⟨hd, _, run_store_row (hT t ti ht) hc hw ho hxv (by simpa using hvs) (by omega) (CellsOK.oneCell hcells), φ, ?_⟩)⟩
        obtain ⟨h1, h2⟩ := k.toHRel.turn hf hs (x' := .row (splice l off cs)) trivial hc hfit (fun hL => by
          rw [hf]
          obtain ⟨c', h3, h4⟩ := wcells_setCells _ _ w c hc hfit
          refine ⟨b, c', rfl, h3, warm_setCells hc hfit hw, ?_⟩
          rw [h4]
          show All2 _ (splice l off cs) _
          have hsp := splice_eq l off cs (by omega)
          suffices hg : All2 (CellOK φ (hset st.heap s (.row (splice l off cs))) (w.setCells b off (a.eval y).cells.toList) (Imm M φ)) (l.take off ++ cs ++ l.drop (off + cs.length)) _ by
            rw [← hsp] at hg; exact hg
          refine All2.append (All2.append ?_ ?_) ?_
          · exact All2.take' off (CellsOK.later hL hk)
          · exact CellsOK.later hL hcells
          · rw [hlen, ← hvs]; exact All2.drop' _ (CellsOK.later hL hk))
        exact { toHRel := h1, len := k.len, env := fun t => VOK.later h2 (k.env t), defers := k.defers, frm := k.frm.setCells (k.fresh s b hf), fresh := k.fresh, pin := fun t b ht => (by
          obtain ⟨p1, p2, cs', p3⟩ := k.pin t b ht
          by_cases hst : s = t
          · subst hst; exact ⟨p1, p2, _, hget_hset_same _ _ _ (hget_lt hs)⟩
          · exact ⟨p1, p2, cs', by rw [hget_hset_other _ _ _ _ hst]; exact p3⟩) }
      · cases he
    · rename_i s i off hxs
      rw [hxs] at hx
      split at he
      · rename_i r0 xs hs
        cases hle : Nat.ble (off + llen cs) r0.n with
        | false => rw [hle, cond_false] at he; cases he
        | true =>
        rw [hle, cond_true] at he
        have hle := Nat.le_of_ble_eq_true hle
        rw [llen_eq] at hle
        split at he
        · rename_i y0 hy0
          obtain ⟨r1, xs1, b, hs', hf, hi, hxv⟩ := hx
          rw [hs] at hs'
          cases hs'
          have hb := k.blk s _ hs
          rw [hf] at hb
          obtain ⟨cap, c, hc, hw, hcs', hl, hr⟩ := hb
          have hmul : (i + 1) * r0.n ≤ cap * r0.n := Nat.mul_le_mul_right _ (by omega)
          rw [Nat.add_mul, Nat.one_mul] at hmul
          have hfit : i * r0.n + off + (a.eval y).cells.toList.length ≤ c.size := by omega
          have hg : xs.getD i r0.zero = xs[i] := by simp [List.getD, hi]
          refine ⟨_, he, .inr (.inl ⟨hd, _, run_store_row (hT t ti ht) hc hw ho hxv (by simpa using hvs) (by omega) (CellsOK.oneCell hcells), φ, ?_⟩)⟩
          obtain ⟨h1, h2⟩ := k.toHRel.turn hf hs (x' := .lst r0 (xs.set i y0)) ⟨rfl, by simp⟩ hc hfit (fun hL => by
            rw [hf]
            obtain ⟨c', h3, h4l, _, h4⟩ := wcells_set hc hfit
            refine ⟨cap, c', h3, warm_setCells hc hfit hw, by rw [h4l]; exact hcs', by simpa using hl, fun j hj => ?_⟩
            have hj' : j < xs.length := by simpa using hj
            obtain ⟨vs, ha, hka⟩ := RepR.cells (hr j hj')
            have hvl := hka.length
            rw [rowCells_length] at hvl
            have hka' : CellsOK φ (hset st.heap s (.lst r0 (xs.set i y0))) (w.setCells b (i * r0.n + off) (a.eval y).cells.toList) (Imm M φ) (rowCells r0 (xs[j]'hj')) vs := CellsOK.later hL (rowCells_plain hka)
            have hId : ∀ b', Imm M φ b' → b' < (w.setCells b (i * r0.n + off) (a.eval y).cells.toList).heap.size → (w.setCells b (i * r0.n + off) (a.eval y).cells.toList).heap[b']? = (w.setCells b (i * r0.n + off) (a.eval y).cells.toList).heap[b']? ∧ Imm M φ b' := fun b' hb' _ => ⟨rfl, hb'⟩
            by_cases hij : i = j
            · subst hij
              simp only [List.getElem_set_self]
              rw [hg] at hy0
              rw [splice_eq _ _ _ (by rw [rowCells_length]; omega)] at hy0
              refine toRow_ok (w := w.setCells b (i * r0.n + off) (a.eval y).cells.toList) hId hy0 (vs := vs.take off ++ (a.eval y).cells.toList ++ vs.drop (off + (a.eval y).cells.toList.length)) (All2.append (All2.append (All2.take' off hka') (CellsOK.later hL hcells)) ?_) ?_
              · rw [hlen, ← hvs]; exact All2.drop' _ hka'
              · refine CellsAt.of_get fun p v hp => ?_
                rw [wcells_cell h3, ← Array.getElem?_toList, h4]
                rw [splice_get _ _ _ _ (by omega)] at hp
                split at hp
                · rw [if_pos (by omega)]
                  rw [show i * r0.n + p - (i * r0.n + off) = p - off by omega]; exact hp
                · rw [if_neg (by omega)]
                  have := ha.get p v hp
                  rw [wcells_cell hc, ← Array.getElem?_toList] at this
                  exact this
            · rw [List.getElem_set_ne hij]
              refine toRow_ok (w := w.setCells b (i * r0.n + off) (a.eval y).cells.toList) hId (toRow_rowCells r0 _) hka' ?_
              refine CellsAt.of_get fun p v hp => ?_
              rw [wcells_cell h3, ← Array.getElem?_toList, h4]
              have := ha.get p v hp
              rw [wcells_cell hc, ← Array.getElem?_toList] at this
              have hpl : p < vs.length := (List.getElem?_eq_some_iff.1 hp).1
              rw [if_neg]
              · exact this
              · rcases Nat.lt_or_gt_of_ne hij with hlt | hlt
                · have hm : (i + 1) * r0.n ≤ j * r0.n := Nat.mul_le_mul_right _ hlt
                  rw [Nat.add_mul, Nat.one_mul] at hm
                  omega
                · have hm : (j + 1) * r0.n ≤ i * r0.n := Nat.mul_le_mul_right _ hlt
                  rw [Nat.add_mul, Nat.one_mul] at hm
                  omega)
          exact { toHRel := h1, len := k.len, env := fun t => VOK.later h2 (k.env t), defers := k.defers, frm := k.frm.setCells (k.fresh s b hf), fresh := k.fresh, pin := fun t b ht => (by
            obtain ⟨p1, p2, cs', p3⟩ := k.pin t b ht
            have hst : s ≠ t := fun e => by subst e; rw [hs] at p3; cases p3
            exact ⟨p1, p2, cs', by rw [hget_hset_other _ _ _ _ hst]; exact p3⟩) }
        · cases he
      · cases he
    · cases he
  · cases he
end
end Go.AM
