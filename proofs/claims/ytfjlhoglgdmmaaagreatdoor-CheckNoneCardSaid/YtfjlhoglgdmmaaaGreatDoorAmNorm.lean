/- What is laid down at the head of a loop is true of what was there. -/
import Derived.Test.YtfjlhoglgdmmaaaGreatDoorAmB5
set_option autoImplicit false
set_option linter.unusedVariables false
set_option linter.unusedSimpArgs false
namespace Go.AM
section
variable {P : Program} {T : List (Nat × TI)} {F : Funs} {R : Type} {w0 : World} {O : Old} {M : Nat → Prop} {φ : Nat → Option Nat} {st : St} {a : Act} {w : World} {o : Oper}
theorem Rel.setEnv (k : Rel w0 O M φ st a w) {t : Nat} {u : V} (hu : VOK φ st.heap w (Imm M φ) u (a.tmps.getD t undef)) : Rel w0 O M φ { st with env := lset st.env t u } a w where
  toHRel := k.toHRel
  len := by show (lset _ _ _).length = _; rw [lset_length]; exact k.len
  env := fun t' => by
    show VOK φ st.heap w (Imm M φ) (lget (lset st.env t u) t' .any) _
    rw [lget_lset]
    split
    · rename_i h; rw [← h.1]; exact hu
    · exact k.env t'
  defers := k.defers
  frm := k.frm
  fresh := k.fresh
  pin := fun s b hs => by rw [show (lset st.env t u).length = st.env.length from lset_length _ _ _]; exact k.pin s b hs
theorem applyDead_ok : ∀ (l : List Nat) {st : St}, Rel w0 O M φ st a w → Rel w0 O M φ { st with env := applyDead l st.env } a w
  | [], st, k => k
  | t :: l, st, k => applyDead_ok l (k.setEnv (u := .any) trivial)
/-- A name is let go, and its block does not turn any more. -/
theorem drop_ok (k : Rel w0 O M φ st a w) (s : Nat) (hs : s < st.env.length) : ∃ φ', Rel w0 O M φ' { kill s st with heap := lset (kill s st).heap s none } a w := by
  obtain ⟨f1, f2⟩ := k.toHRel.forget (s := s) (w' := w) (Nat.le_refl _) (fun b _ _ _ => rfl) (fun b _ => .inr trivial)
  obtain ⟨g1, g2⟩ := f1.less (M := M) (fun b hb => .inl hb)
  refine ⟨upd φ s none, { toHRel := g1, len := ?_, env := fun t => ?_, defers := k.defers, frm := k.frm, fresh := fun t b hb => k.fresh t b (upd_none_sub hb).2, pin := fun t b ht => ?_ }⟩
  · simp only [kill, mapSt, lmap_length]; exact k.len
  · simp only [kill, mapSt, lget_mapV]; exact mapV_ok (fun x v hx => g2 _ _ (f2 x v hx)) (k.env t)
  · obtain ⟨p1, p2, cs, p3⟩ := k.pin t b ht
    have hne : t ≠ s := fun e => by have := p2.1; omega
    refine ⟨by rw [upd_other _ _ hne]; exact p1, by simp only [kill, mapSt, lmap_length]; exact p2, lmap (killCell s) cs, ?_⟩
    rw [show hget (lset (kill s st).heap s none) t = hget (kill s st).heap t from lget_lset_other _ _ _ _ _ (Ne.symm hne)]
    simp only [kill, mapSt, hget_lmap, p3]; rfl
theorem applyDrop_ok : ∀ (l : List Nat) {φ : Nat → Option Nat} {st : St}, Rel w0 O M φ st a w → ∃ φ', Rel w0 O M φ' (applyDrop l st) a w
  | [], φ, st, k => ⟨φ, k⟩
  | t :: l, φ, st, k => by
    unfold applyDrop
    split
    · exact applyDrop_ok l k
    · cases hb : Nat.blt t (llen st.env) with
      | false => simp only [cond_false]; exact applyDrop_ok l k
      | true =>
        simp only [cond_true]
        obtain ⟨φ', k'⟩ := drop_ok k t (by rw [llen_eq] at hb; exact Nat.le_of_ble_eq_true hb)
        exact applyDrop_ok l k'
/-- A name comes for nothing. -/
theorem Rel.nameNil (k : Rel w0 O M φ st a w) {s : Nat} (hs : hget st.heap s = none) (hl : s < st.heap.length) (r : RT) :
    Rel w0 O M (upd φ s none) { st with heap := hset st.heap s (.lst r []) } a w := by
  have g1 := k.toHRel.name (Ext.refl w) hs (f := none) (x := .lst r []) (fun b hb => by cases hb) rfl hl
  have hφ : ∀ t b, upd φ s none t = some b → b < w.heap.size → φ t = some b := fun t b ht _ => (upd_none_sub ht).2
  have hL : Later φ st.heap w (Imm M φ) (upd φ s none) (hset st.heap s (.lst r [])) w (Imm M (upd φ s none)) := Later.grow (Ext.refl w) (Sub.name hs) hφ
  exact { toHRel := g1, len := k.len, env := fun t => VOK.later hL (k.env t), defers := k.defers, frm := k.frm, fresh := fun t b hb => k.fresh t b (upd_none_sub hb).2, pin := fun t b ht => (by
    obtain ⟨p1, p2, cs, p3⟩ := k.pin t b ht
    have hne : t ≠ s := fun e => by subst e; rw [hs] at p3; cases p3
    exact ⟨by rw [upd_other _ _ hne]; exact p1, p2, cs, by rw [hget_hset_other _ _ _ _ (Ne.symm hne)]; exact p3⟩) }
theorem retract_ok (k : Rel w0 O M φ st a w) {s n : Nat} {r : RT} {xs : List r.I} (hs : hget st.heap s = some (.lst r xs)) (hn : n ≤ xs.length) :
    Rel w0 O M φ (retract s n st) a w ∧ hget (retract s n st).heap s = some (.lst r (xs.take n)) ∧ (∀ v, HeadOK w r (φ s) n v → VOK φ (retract s n st).heap w (Imm M φ) (.one (.vec s)) v) := by
  have hsl := hget_lt hs
  have hblk := k.toHRel.blk s _ hs
  have hlen : (xs.take n).length = n := by simp; omega
  have hH0 : hget (lset (lmap (mapB (killCell s)) st.heap) s none) s = none := by
    unfold hget
    rw [lget_lset_same _ _ _ _ (by rw [lmap_length]; exact hsl)]
  have hHl : s < (lset (lmap (mapB (killCell s)) st.heap) s none).length := by rw [lset_length, lmap_length]; exact hsl
  obtain ⟨f1, f2⟩ := k.toHRel.forget (s := s) (w' := w) (Nat.le_refl _) (fun b _ _ _ => rfl) (fun b _ => .inr trivial)
  obtain ⟨g1, g2⟩ := f1.readd (s := s) hH0 hHl (x := .lst r (xs.take n)) (fun b hb => (k.toHRel.own s b hb).1) (by
    rw [upd_self rfl]
    cases hf : φ s with
    | none => rw [hf] at hblk; rw [show xs = [] from hblk]; simp [BlkOK]
    | some b =>
      rw [hf] at hblk
      obtain ⟨cap, c', h1, h2, h3, h4, h5⟩ := hblk
      exact ⟨cap, c', h1, h2, h3, by simp; omega, fun i hi => by
        have := h5 i (by simp at hi; omega)
        simpa using this⟩)
  rw [upd_self rfl] at g1 g2
  have hst : retract s n st = kill s { st with heap := hset st.heap s (.lst r (xs.take n)) } := by unfold retract; rw [hs]
  have hheap : (retract s n st).heap = hset (lset (lmap (mapB (killCell s)) st.heap) s none) s (.lst r (xs.take n)) := by
    rw [hst]; exact kill_heap _ _ _ _
  have hget' : hget (retract s n st).heap s = some (.lst r (xs.take n)) := by rw [hheap]; exact hget_hset_same _ _ _ hHl
  refine ⟨{ toHRel := ?_, len := ?_, env := fun t => ?_, defers := k.defers, frm := k.frm, fresh := k.fresh, pin := fun t b ht => ?_ }, hget', fun v hv => ⟨r, _, hget', by rw [hlen]; exact hv⟩⟩
  · rw [hheap]; exact g1
  · rw [hst]; simp only [kill, mapSt, lmap_length]; exact k.len
  · rw [hheap, hst]
    simp only [kill, mapSt, lget_mapV]
    exact mapV_ok (fun x v hx => g2 _ _ (f2 x v hx)) (k.env t)
  · obtain ⟨p1, p2, cs, p3⟩ := k.pin t b ht
    have hne : t ≠ s := fun e => by subst e; rw [hs] at p3; cases p3
    refine ⟨p1, ?_, lmap (killCell s) cs, ?_⟩
    · rw [hst]; simp only [kill, mapSt, lmap_length]; exact p2
    · rw [hheap, hget_hset_other _ _ _ _ (Ne.symm hne), show hget (lset (lmap (mapB (killCell s)) st.heap) s none) t = hget (lmap (mapB (killCell s)) st.heap) t from lget_lset_other _ _ _ _ _ (Ne.symm hne), hget_lmap, p3]; rfl
theorem applyVecT_ok : ∀ (l : List (Nat × Nat × RT)) {φ : Nat → Option Nat} {st : St}, Rel w0 O M φ st a w → ∃ φ', Rel w0 O M φ' (applyVecT l st) a w
  | [], φ, st, k => ⟨φ, k⟩
  | (t, s, r) :: l, φ, st, k => by
    unfold applyVecT
    split
    · rename_i hn
      split
      · rename_i hs
        cases hr : room st.heap s with
        | false => simp only [hr, cond_false]; exact applyVecT_ok l k
        | true =>
          simp only [hr, cond_true]
          have hv : a.tmps.getD t undef = .slice none 0 0 := by have := k.env t; rw [hn] at this; exact this
          have k1 := k.nameNil hs (room_lt hr) r
          refine applyVecT_ok l (k1.setEnv (t := t) (u := .one (.vec s)) ?_)
          exact ⟨r, [], hget_hset_same _ _ _ (room_lt hr), by rw [upd_same]; exact ⟨hv, rfl⟩⟩
      · exact applyVecT_ok l k
    · rename_i s' n hn
      cases hb : Nat.beq s s' with
      | false => simp only [cond_false]; exact applyVecT_ok l k
      | true =>
        simp only [cond_true]
        have := Nat.eq_of_beq_eq_true hb
        subst this
        have hv := k.env t
        rw [hn] at hv
        obtain ⟨r0, xs, hs, hl, hz, _⟩ := hv
        obtain ⟨k1, _, k3⟩ := retract_ok k hs (n := n) (by omega)
        exact applyVecT_ok l (k1.setEnv (t := t) (u := .one (.vec s)) (k3 _ (hz rfl)))
    · exact applyVecT_ok l k
theorem Rel.cellVec (k : Rel w0 O M φ st a w) {b o s : Nat} {cs : List Cell} {r : RT} (hb : hget st.heap b = some (.row cs)) (hc : lget cs o .any = .nils) (hs : hget st.heap s = none) (hl : s < st.heap.length) :
    Rel w0 O M (upd φ s none) { st with heap := hset (hset st.heap b (.row (lset cs o (.vec s)))) s (.lst r []) } a w := by
  have k1 := k.nameNil hs hl r
  have hne : s ≠ b := fun e => by subst e; rw [hs] at hb; cases hb
  have hcomm : hset (hset st.heap b (.row (lset cs o (.vec s)))) s (.lst r []) = hset (hset st.heap s (.lst r [])) b (.row (lset cs o (.vec s))) := by
    unfold hset
    simp only [lset_eq]
    exact List.set_comm _ _ (Ne.symm hne)
  have hb1 : hget (hset st.heap s (.lst r [])) b = some (.row cs) := by rw [hget_hset_other _ _ _ _ hne]; exact hb
  have hbl := hget_lt hb1
  have hs1 : hget (hset st.heap s (.lst r [])) s = some (.lst r []) := hget_hset_same _ _ _ hl
  have hL : Later (upd φ s none) (hset st.heap s (.lst r [])) w (Imm M (upd φ s none)) (upd φ s none) (hset (hset st.heap s (.lst r [])) b (.row (lset cs o (.vec s)))) w (Imm M (upd φ s none)) := by
    refine ⟨⟨fun t y hy => ?_⟩, fun b' hb' _ => ⟨rfl, hb'⟩, fun t b' _ _ c hc => ⟨c, hc, rfl⟩⟩
    by_cases hbt : b = t
    · subst hbt
      rw [hb1] at hy; cases hy
      exact ⟨_, hget_hset_same _ _ _ hbl, trivial, rfl⟩
    · exact ⟨y, by rw [hget_hset_other _ _ _ _ hbt]; exact hy, likeB.refl y, rfl⟩
  rw [hcomm]
  refine { k1 with blk := fun t y hy => ?_, non := fun t ht => ?_, env := fun t => VOK.later hL (k1.env t), pin := fun t b' ht => ?_ }
  · by_cases hbt : b = t
    · subst hbt
      have hy' : y = .row (lset cs o (.vec s)) := by
        have h2 : hget (hset (hset st.heap s (.lst r [])) b (.row (lset cs o (.vec s)))) b = some (.row (lset cs o (.vec s))) := hget_hset_same _ _ _ hbl
        rw [h2] at hy; cases hy; rfl
      subst hy'
      obtain ⟨b', c, hf, hc', hw, hk⟩ := k1.toHRel.blk b _ hb1
      refine ⟨b', c, hf, hc', hw, ?_⟩
      have hk' := CellsOK.later hL hk
      refine All2.of_get (by rw [lset_length]; exact hk'.length) fun i x y hx hy => ?_
      rw [lset_eq, List.getElem?_set] at hx
      by_cases hoi : o = i
      · subst hoi
        by_cases hol : o < cs.length
        · rw [if_pos rfl, if_pos hol] at hx
          cases hx
          have hco : cs[o]? = some .nils := by
            rw [lget_eq] at hc
            have : cs[o]? = some cs[o] := List.getElem?_eq_getElem hol
            rw [this] at hc ⊢
            simpa using hc
          have hy0 := All2.get hk o _ _ hco hy
          refine ⟨r, [], ?_, by rw [upd_same]; exact ⟨hy0, rfl⟩⟩
          rw [hget_hset_other _ _ _ _ (Ne.symm hne)]; exact hs1
        · rw [if_pos rfl, if_neg hol] at hx; cases hx
      · rw [if_neg hoi] at hx
        exact All2.get hk' i x y hx hy
    · have hy' : hget (hset st.heap s (.lst r [])) t = some y := by
        have h2 : hget (hset (hset st.heap s (.lst r [])) b (.row (lset cs o (.vec s)))) t = hget (hset st.heap s (.lst r [])) t := hget_hset_other _ _ _ _ hbt
        rw [← h2]; exact hy
      have hk := k1.toHRel.blk t y hy'
      cases y with
      | row cs' =>
        obtain ⟨b', c, hf, hc', hw, hk⟩ := hk
        exact ⟨b', c, hf, hc', hw, CellsOK.later hL hk⟩
      | lst r' xs =>
        cases hf : upd φ s none t with
        | none => rw [hf] at hk; exact hk
        | some b' =>
          rw [hf] at hk
          obtain ⟨cap, c, hc', hw, hsz, hl', hr⟩ := hk
          exact ⟨cap, c, hc', hw, hsz, hl', fun i hi => RepR.mono hL.imm r' _ _ _ rfl (hr i hi)⟩
  · have hbt : b ≠ t := fun e => by
      subst e
      have h2 : hget (hset (hset st.heap s (.lst r [])) b (.row (lset cs o (.vec s)))) b = some (.row (lset cs o (.vec s))) := hget_hset_same _ _ _ hbl
      rw [h2] at ht; cases ht
    refine k1.toHRel.non t ?_
    have h2 : hget (hset (hset st.heap s (.lst r [])) b (.row (lset cs o (.vec s)))) t = hget (hset st.heap s (.lst r [])) t := hget_hset_other _ _ _ _ hbt
    rw [← h2]; exact ht
  · obtain ⟨p1, p2, cs', p3⟩ := k1.pin t b' ht
    by_cases hbt : b = t
    · subst hbt
      exact ⟨p1, p2, _, hget_hset_same _ _ _ hbl⟩
    · exact ⟨p1, p2, cs', by
        rw [show hget (hset (hset st.heap s (.lst r [])) b (.row (lset cs o (.vec s)))) t = hget (hset st.heap s (.lst r [])) t from hget_hset_other _ _ _ _ hbt]; exact p3⟩
theorem applyVecC_ok : ∀ (l : List (Nat × Nat × Nat × RT)) {φ : Nat → Option Nat} {st : St}, Rel w0 O M φ st a w → ∃ φ', Rel w0 O M φ' (applyVecC l st) a w
  | [], φ, st, k => ⟨φ, k⟩
  | (b, o, s, r) :: l, φ, st, k => by
    unfold applyVecC
    split
    · rename_i cs hb
      split
      · rename_i hc
        split
        · rename_i hs
          cases hr : room st.heap s with
          | false => simp only [hr, cond_false]; exact applyVecC_ok l k
          | true => simp only [hr, cond_true]; exact applyVecC_ok l (k.cellVec hb hc hs (room_lt hr))
        · exact applyVecC_ok l k
      · exact applyVecC_ok l k
    · exact applyVecC_ok l k
theorem norm_ok (H : Hint) (k : Rel w0 O M φ st a w) : ∃ φ', Rel w0 O M φ' (norm H st) a w := by
  obtain ⟨φ1, k1⟩ := applyDrop_ok H.drop (applyDead_ok H.dead k)
  obtain ⟨φ2, k2⟩ := applyVecT_ok H.vecT k1
  exact applyVecC_ok H.vecC k2
end
end Go.AM
