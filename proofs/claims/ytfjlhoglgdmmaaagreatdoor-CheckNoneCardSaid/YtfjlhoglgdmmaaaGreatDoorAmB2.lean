/- Any operation of the abstract machine. -/
import Derived.Test.YtfjlhoglgdmmaaaGreatDoorAmB
set_option autoImplicit false
set_option linter.unusedVariables false
set_option linter.unusedSimpArgs false
namespace Go.AM
section
variable {P : Program} {T : List (Nat × TI)} {F : Funs} {R : Type} {w0 : World} {O : Old} {M : Nat → Prop} {φ : Nat → Option Nat} {st : St} {a : Act} {w : World}

theorem room_lt {h : Heap} {s : Nat} (k : room h s = true) : s < h.length := by
  unfold room at k
  rw [llen_eq] at k
  exact Nat.le_of_ble_eq_true k
theorem Frame.ext {w' : World} (h : Frame w0 O w) (e : Ext w w') : Frame w0 O w' :=
  ⟨e.os.trans h.os, e.tape.trans h.tape, e.output.trans h.output, Nat.le_trans h.size e.size, fun b hb hO => (e.block b (Nat.lt_of_lt_of_le hb h.size)).trans (h.block b hb hO)⟩
theorem Rel.ev (k : Rel w0 O M φ st a w) (x : Operand) : VOK φ st.heap w (Imm M φ) (ev st.env x) (a.eval x) := by
  cases x with
  | tmp t => exact k.env t
  | const v => exact ofConst_ok v
  | global g => trivial
  | func f => trivial
theorem put_get (tmps : Array Value) (d t : Nat) (v : Value) : (tmps.setIfInBounds d v).getD t undef = if d = t ∧ d < tmps.size then v else tmps.getD t undef := by
  simp only [Array.getD_eq_getD_getElem?, Array.getElem?_setIfInBounds]
  by_cases h : d = t
  · subst h
    by_cases h2 : d < tmps.size
    · simp [h2]
    · simp [h2]
  · simp [h]
/-- A value comes into a slot. -/
theorem env_put {N : Nat → Prop} {h : Heap} {env : List V} {tmps : Array Value} (hl : env.length = tmps.size) (he : ∀ t, VOK φ h w N (lget env t .any) (tmps.getD t undef)) {d : Nat} {u : V} {v : Value} (hu : VOK φ h w N u v) (t : Nat) :
    VOK φ h w N (lget (lset env d u) t .any) ((tmps.setIfInBounds d v).getD t undef) := by
  rw [lget_lset, put_get, hl]
  split
  · exact hu
  · exact he t
theorem putA_ok (k : Rel w0 O M φ st a w) {d : Option Nat} {u : V} {nb : Option Blk} {K : St → Option R} {r : R} (he : putA d st K u nb = some r) :
    ∃ st', K st' = some r ∧ ∀ v w', Ext w w' → Made M φ st.heap w d u nb v w' → ∃ φ', Rel w0 O M φ' st' (a.put d v) w' := by
  unfold putA at he
  split at he
  · rename_i d
    refine ⟨_, he, fun v w' hx hm => ⟨φ, { k.toHRel.grow hx with len := ?_, env := ?_, defers := k.defers, frm := k.frm.ext hx, fresh := k.fresh, pin := fun s b hs => by rw [show (lset st.env d u).length = st.env.length from lset_length _ _ _]; exact k.pin s b hs }⟩⟩
    · show (lset _ _ _).length = (a.tmps.setIfInBounds d v).size
      rw [lset_length]; simp [k.len]
    · have hL : Later φ st.heap w (Imm M φ) φ st.heap w' (Imm M φ) := Later.grow hx (Sub.refl _ _) (fun _ _ h _ => h)
      exact fun t => env_put k.len (fun t => VOK.later hL (k.env t)) hm t
  · refine ⟨_, he, fun v w' hx hm => ⟨φ, { k.toHRel.grow hx with len := k.len, env := ?_, defers := k.defers, frm := k.frm.ext hx, fresh := k.fresh, pin := k.pin }⟩⟩
    have hL : Later φ st.heap w (Imm M φ) φ st.heap w' (Imm M φ) := Later.grow hx (Sub.refl _ _) (fun _ _ h _ => h)
    exact fun t => VOK.later hL (k.env t)
  · rename_i d x
    split at he
    · rename_i hd
      cases hr : room st.heap d with
      | false => rw [hr, cond_false] at he; cases he
      | true =>
      rw [hr, cond_true] at he
      refine ⟨_, he, fun v w' hx hm => ?_⟩
      obtain ⟨d', hdd, hm⟩ := hm
      cases hdd
      have hl : d < st.heap.length := room_lt hr
      obtain ⟨f, hf, hb, hu⟩ := hm hd hl
      have hφ : ∀ s b, upd φ d f s = some b → b < w.heap.size → φ s = some b := fun s b hs hb => by
        unfold upd at hs
        split at hs
        · have := (hf b hs).1; omega
        · exact hs
      have hL : Later φ st.heap w (Imm M φ) (upd φ d f) (hset st.heap d x) w' (Imm M (upd φ d f)) := Later.grow hx (Sub.name hd) hφ
      refine ⟨upd φ d f, { k.toHRel.name hx hd hf hb hl with len := ?_, env := ?_, defers := k.defers, frm := k.frm.ext hx, fresh := fun s b hs => ?_, pin := fun s b hs => ?_ }⟩
      · show (lset _ _ _).length = (a.tmps.setIfInBounds d v).size
        rw [lset_length]; simp [k.len]
      · exact fun t => env_put k.len (fun t => VOK.later hL (k.env t)) hu t
      · unfold upd at hs
        split at hs
        · exact .inr (Nat.le_trans k.frm.size (hf b hs).1)
        · exact k.fresh s b hs
      · obtain ⟨h1, h2, cs, h3⟩ := k.pin s b hs
        have hne : s ≠ d := fun e => by subst e; rw [hd] at h3; cases h3
        exact ⟨by rw [upd_other _ _ hne]; exact h1, by rw [show (lset st.env d u).length = st.env.length from lset_length _ _ _]; exact h2, cs, by rw [hget_hset_other _ _ _ _ (Ne.symm hne)]; exact h3⟩
    · cases he
  · cases he
theorem Rel.put (k : Rel w0 O M φ st a w) {d : Nat} {u : V} {v : Value} (hu : VOK φ st.heap w (Imm M φ) u v) : Rel w0 O M φ { st with env := lset st.env d u } (a.put (some d) v) w where
  toHRel := k.toHRel
  len := by
    show (lset _ _ _).length = (a.tmps.setIfInBounds d v).size
    rw [lset_length, k.len]; simp
  env := fun t => env_put k.len k.env hu t
  defers := k.defers
  frm := k.frm
  fresh := k.fresh
  pin := fun s b hs => by rw [show (lset st.env d u).length = st.env.length from lset_length _ _ _]; exact k.pin s b hs
end
end Go.AM
