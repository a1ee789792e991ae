/- Guards, and regions whose order is fixed. -/
import Derived.Test.YtfjlhoglgdmmaaaGreatDoorAmNorm
set_option autoImplicit false
set_option linter.unusedVariables false
set_option linter.unusedSimpArgs false
namespace Go.AM
section
variable {P : Program} {T : List (Nat × TI)} {F : Funs} {R : Type} {w0 : World} {O : Old} {M : Nat → Prop} {φ : Nat → Option Nat} {st : St} {a : Act} {w : World} {o : Oper} {ops : List Oper}
theorem skipOp_ok (k : Rel w0 O M φ st a w) : Rel w0 O M φ (skipOp o st) (a.put o.dst undef) w := by
  unfold skipOp
  cases hd : o.dst with
  | none => exact k
  | some d => exact k.put (u := .skip) rfl
theorem gdst_some {j d : Nat} (h : gdst ops j = some d) : ∃ o, ops[j]? = some o ∧ o.dst = some d := by
  unfold gdst at h
  rw [lget_eq] at h
  cases ho : ops[j]? with
  | none => rw [ho] at h; cases h
  | some o => rw [ho] at h; exact ⟨o, rfl, h⟩
theorem yielded_bool {j d : Nat} (h : gdst ops j = some d) {tmps : Array Value} {b : Bool} (hb : tmps.getD d undef = .bool b) : yielded ops.toArray tmps j = some b := by
  obtain ⟨o, ho, hd⟩ := gdst_some h
  have : tmps[d]? = some (.bool b) := by
    rw [Array.getD_eq_getD_getElem?] at hb
    cases ht : tmps[d]? with
    | none => rw [ht] at hb; cases hb
    | some v => rw [ht] at hb; simp at hb; rw [hb]
  simp [yielded, ho, hd, this]
theorem yielded_undef {j d : Nat} (h : gdst ops j = some d) {tmps : Array Value} (hb : tmps.getD d undef = undef) : yielded ops.toArray tmps j = none := by
  obtain ⟨o, ho, hd⟩ := gdst_some h
  simp only [yielded, List.getElem?_toArray, ho, Option.bind_some, hd]
  rw [Array.getD_eq_getD_getElem?] at hb
  cases ht : tmps[d]? with
  | none => rfl
  | some v => rw [ht] at hb; simp at hb; rw [hb]; rfl
theorem setB_ok (k : Rel w0 O M φ st a w) {d : Nat} {b : Bool} (hb : a.tmps.getD d undef = .bool b) : Rel w0 O M φ (setB st d b) a w := k.setEnv hb
theorem guardK_ok (k : Rel w0 O M φ st a w) {yes no : St → Option R} {q : R} (he : guardK ops o st yes no = some q) :
    (Region.wanted o (yielded ops.toArray a.tmps) = true ∧ ∃ st', Rel w0 O M φ st' a w ∧ yes st' = some q) ∨
    (Region.wanted o (yielded ops.toArray a.tmps) = false ∧ ∃ st', Rel w0 O M φ st' a w ∧ no st' = some q) := by
  unfold guardK at he
  split at he
  · rename_i hg
    exact .inl ⟨by simp [Region.wanted, hg], st, k, he⟩
  · rename_i j want hg
    split at he
    · cases he
    · rename_i d hd
      split at he
      · rename_i b hb
        have hv := k.env d
        rw [hb] at hv
        have hv : a.tmps.getD d undef = .bool b := hv
        have hy := yielded_bool hd hv
        cases b <;> cases want <;> simp only [cond_true, cond_false] at he <;> first
          | exact .inl ⟨by simp [Region.wanted, hg, hy], _, setB_ok k hv, he⟩
          | exact .inr ⟨by simp [Region.wanted, hg, hy], _, setB_ok k hv, he⟩
      · rename_i hb
        have hv := k.env d
        rw [hb] at hv
        have hy := yielded_undef hd (show a.tmps.getD d undef = undef from hv)
        exact .inr ⟨by simp [Region.wanted, hg, hy], st, k, he⟩
      · cases he
theorem pre_ok (o : Oper) {φ : Nat → Option Nat} {st : St} {a : Act} {w : World} (k : Rel w0 O M φ st a w) : ∃ φ', Rel w0 O M φ' (pre o st) a w := by
  unfold pre
  split
  · rename_i d hd
    cases makes o st.env with
    | true => exact applyDrop_ok [d] k
    | false => exact ⟨φ, k⟩
  · exact ⟨φ, k⟩
theorem opsK_ok (hT : TOK P T) (hF : FOK P F) (hG : GlobW F.g w0 O M) {Q : Exit → Act → World → Prop} {K : St → Option R} {q : R} : ∀ (l : List Oper) {φ : Nat → Option Nat} {st : St} {a : Act} {w : World}, Rel w0 O M φ st a w → opsK T F ops l st K = some q →
    (∀ st' φ' a' w', Rel w0 O M φ' st' a' w' → K st' = some q → Q .normal a' w') → wpList P ops.toArray Q l a w
  | [], φ, st, a, w, k, he, hK => hK st φ a w k he
  | o :: l, φ, st, a, w, k, he, hK => by
    unfold opsK at he
    unfold wpList
    rcases guardK_ok k he with ⟨hw, st1, k1, h1⟩ | ⟨hw, st1, k1, h1⟩
    · rw [if_pos hw]
      obtain ⟨φ2, k2⟩ := pre_ok o k1
      obtain ⟨st2, h2, h3⟩ := opK_ok hT hF hG k2 h1
      exact .inl (h3.mono fun a' w' ⟨φ', k'⟩ => opsK_ok hT hF hG l k' h2 hK).wp
    · rw [if_neg (by rw [hw]; simp)]
      exact opsK_ok hT hF hG l (skipOp_ok k1) h1 hK
end
end Go.AM
