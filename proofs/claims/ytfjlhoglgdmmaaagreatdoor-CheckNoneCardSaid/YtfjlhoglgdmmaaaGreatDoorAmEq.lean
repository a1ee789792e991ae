/- Arrays and structs that are compared, pointers that are held against nil. -/
import Derived.Test.YtfjlhoglgdmmaaaGreatDoorAmOps
import Derived.Laws.StructEq
import Derived.Laws.Pointers
import Derived.ChangeKeysEq
set_option autoImplicit false
set_option linter.unusedVariables false
set_option linter.unusedSimpArgs false
namespace Go.AM
section
variable {P : Program} {T : List (Nat × TI)} {R : Type} {φ : Nat → Option Nat} {h : Heap} {w : World} {N : Nat → Prop}
theorem fieldsOf_types : ∀ {gs : List Field} {fs : List (Nat × Nat)}, fieldsOf P gs fs = true → fs = gs.map fun f => (f.type, f.offset)
  | [], [], _ => rfl
  | [], _ :: _, h => by simp [fieldsOf] at h
  | _ :: _, [], h => by simp [fieldsOf] at h
  | g :: gs, f :: fs, h => by
    simp only [fieldsOf, Bool.and_eq_true] at h
    rw [List.map_cons, ← fieldsOf_types h.2]
    have h1 := Nat.eq_of_beq_eq_true h.1.1.1
    have h2 := Nat.eq_of_beq_eq_true h.1.1.2
    rw [h1, h2]
/-- What it means that two values are compared so. -/
def EqOK (P : Program) (T : List (Nat × TI)) (φ : Nat → Option Nat) (h : Heap) (w : World) (N : Nat → Prop) (m d t : Nat) : Prop :=
  ∀ (u v : V) (x y : Value) (b : Bool), eqT T d t u v = some b → VOK φ h w N u x → VOK φ h w N v y → (Op.equalIn (m + d) t x y).run P w = .ok b w
theorem eqFs_ok (hT : TOK P T) {m d : Nat} (ih : ∀ t, EqOK P T φ h w N m d t) {cs ds : List Cell} {xs ys : Array Value} (hx : CellsOK φ h w N cs xs.toList) (hy : CellsOK φ h w N ds ys.toList) :
    ∀ (gs : List Field) {b : Bool}, (∀ f ∈ gs, f.name ≠ "_") → eqFs T (eqT T d) (gs.map fun f => (f.type, f.offset)) cs ds = some b → (Op.eqFields (m + d) xs ys gs).run P w = .ok b w
  | [], b, _, he => by cases he; simp [Op.eqFields]
  | g :: gs, b, hn, he => by
    simp only [List.map_cons, eqFs] at he
    split at he
    · rename_i ti ht
      split at he
      · rename_i u v hu hv
        split at he
        · rename_i p q hp hq
          cases he
          obtain ⟨x, hx1, hx2⟩ := run_part (hT _ _ ht) hx hu
          obtain ⟨y, hy1, hy2⟩ := run_part (hT _ _ ht) hy hv
          have h1 := ih g.type _ _ _ _ _ hp hx2 hy2
          have h2 := eqFs_ok hT ih hx hy gs (fun f hf => hn f (by simp [hf])) hq
          simp only [Op.eqFields, hn g (by simp), ne_eq, not_false_eq_true, if_true, Sem.run_bind, hx1, hy1, h1, Result.andThen_ok]
          cases p
          · simp
          · simpa using h2
        · cases he
      · cases he
    · cases he
theorem eqArr_ok {e : Nat} {te : TI} (hE : TIok P e te) {m d : Nat} (ih : EqOK P T φ h w N m d e) {cs ds : List Cell} {xs ys : Array Value} (hx : CellsOK φ h w N cs xs.toList) (hy : CellsOK φ h w N ds ys.toList) :
    ∀ (n i : Nat) {b : Bool}, eqArr (eqT T d e) te n i cs ds = some b → (Op.eqItems (m + d) e te.size xs ys (List.range' i n)).run P w = .ok b w
  | 0, i, b, he => by cases he; simp [Op.eqItems]
  | n + 1, i, b, he => by
    simp only [eqArr] at he
    split at he
    · rename_i u v hu hv
      split at he
      · rename_i p q hp hq
        cases he
        obtain ⟨x, hx1, hx2⟩ := run_part hE hx hu
        obtain ⟨y, hy1, hy2⟩ := run_part hE hy hv
        have h1 := ih _ _ _ _ _ hp hx2 hy2
        have h2 := eqArr_ok hE ih hx hy n (i + 1) hq
        simp only [List.range'_succ, Op.eqItems, Sem.run_bind, hx1, hy1, h1, Result.andThen_ok]
        cases p
        · simp
        · simpa using h2
      · cases he
    · cases he
theorem eqLeaf_ok {t : Nat} {ti : TI} (hT : TIok P t ti) (d : Nat) {u v : V} {x y : Value} {b : Bool} (he : eqLeaf ti.d u v = some b) (hx : VOK φ h w N u x) (hy : VOK φ h w N v y) : (Op.equalIn (d + 1) t x y).run P w = .ok b w := by
  unfold eqLeaf at he
  split at he
  · rename_i k' k m k2 n hd
    cases hk : kindEq k k2 with
    | false => rw [hk] at he; cases he
    | true =>
      rw [hk, cond_true] at he
      cases he
      have := kindEq_eq hk
      subst this
      have e1 : x = .int k m := hx
      have e2 : y = .int k n := hy
      rw [e1, e2]
      exact run_equalIn_int w d t k k' m n (hT.under_int hd)
  · rename_i m n hd
    cases he
    have e1 : x = .bool m := hx
    have e2 : y = .bool n := hy
    rw [e1, e2]
    obtain ⟨e, he, hc⟩ := hT.desc
    rw [hd] at hc
    exact run_equalIn_bool' w d t m n (by cases e <;> simp [descCheck] at hc; exact he)
  · rename_i m n hd
    cases he
    have e1 : x = .string ⟨m.toArray⟩ := hx
    have e2 : y = .string ⟨n.toArray⟩ := hy
    rw [e1, e2, run_equalIn_string w d t _ _ (hT.under_str hd), ByteArray.toList_eq, ByteArray.toList_eq]
  · cases he
theorem eqT_ok (hT : TOK P T) (m : Nat) : ∀ (d t : Nat), EqOK P T φ h w N m d t
  | 0, t => fun _ _ _ _ _ he => by cases he
  | d + 1, t => by
    intro u v x y b he hx hy
    simp only [eqT] at he
    split at he
    · cases he
    · rename_i ti ht
      have hI := hT t ti ht
      split at he
      · rename_i fs hd
        split at he
        · rename_i cs ds
          cases hq : ti.eq with
          | false => rw [hq] at he; cases he
          | true =>
            rw [hq, cond_true] at he
            obtain ⟨xs, rfl, hx⟩ := hx
            obtain ⟨ys, rfl, hy⟩ := hy
            obtain ⟨gs, hgs, hf⟩ := hI.under_struct hd
            have hc := hI.eqok
            simp only [eqCheck, hq, hgs, Bool.not_true, Bool.false_or, Bool.and_eq_true, Bool.not_eq_true', List.all_eq_true, bne_iff_ne] at hc
            have hfo : P.fieldsOf t = gs := by simp [Program.fieldsOf, hgs]
            rw [fieldsOf_types hf] at he
            rw [show m + (d + 1) = (m + d) + 1 from rfl, run_equalIn_struct w (m + d) t xs ys (by rw [hfo]; exact hgs) hc.2.1, hfo]
            exact eqFs_ok hT (eqT_ok hT m d) hx hy gs.toList hc.2.2 he
        · cases he
      · rename_i n e hd
        split at he
        · rename_i cs ds te hte
          obtain ⟨xs, rfl, hx⟩ := hx
          obtain ⟨ys, rfl, hy⟩ := hy
          obtain ⟨i, hi, hs, _⟩ := (hT e te hte).info
          have hcs : P.cellsOf e = te.size := by simp [Program.cellsOf, hi, hs]
          rw [show m + (d + 1) = (m + d) + 1 from rfl, run_equalIn_array w (m + d) xs ys (hI.under_arr hd) hi, hcs, List.range_eq_range']
          exact eqArr_ok (hT e te hte) (eqT_ok hT m d e) hx hy n 0 he
        · cases he
      · exact eqLeaf_ok hI (m + d) he hx hy
theorem eqK_ok {op : BinOp} {b : Bool} {K : V → Option R} {r : R} (he : eqK op b K = some r) {t : Nat} {x y : Value} (h1 : (binOp .eql t x y).run P w = .ok (.bool b) w) (h2 : (binOp .neq t x y).run P w = .ok (.bool (!b)) w) :
    ∃ u, K u = some r ∧ ∃ v, (binOp op t x y).run P w = .ok v w ∧ VOK φ h w N u v := by
  unfold eqK at he
  split at he
  · exact ⟨_, he, _, h1, rfl⟩
  · exact ⟨_, he, _, h2, rfl⟩
  · cases he
theorem isNilV_ok {u : V} {x : Value} {b : Bool} (he : isNilV u = some b) (hx : VOK φ h w N u x) : ∃ p, x = .pointer p ∧ b = p.isNone := by
  unfold isNilV at he
  split at he <;> cases he
  · obtain ⟨_, _, _, _, hv⟩ := hx; exact ⟨_, hv, rfl⟩
  · obtain ⟨_, _, _, _, _, _, hv⟩ := hx; exact ⟨_, hv, rfl⟩
  · obtain ⟨_, _, _, _, hv⟩ := hx; exact ⟨_, hv, rfl⟩
  · rename_i r y
    cases y with
    | none => exact ⟨none, hx, rfl⟩
    | some y => obtain ⟨b, o, hv, _⟩ := hx; exact ⟨_, hv, rfl⟩
  · exact ⟨none, hx, rfl⟩
end
end Go.AM
