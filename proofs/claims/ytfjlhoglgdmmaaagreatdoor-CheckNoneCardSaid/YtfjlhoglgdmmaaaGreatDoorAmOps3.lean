/- Operations of the abstract machine on numbers, texts and new memory. -/
import Derived.Test.YtfjlhoglgdmmaaaGreatDoorAmOps2
import Derived.Test.YtfjlhoglgdmmaaaGreatDoorAmEq
import Derived.Laws.Concat
set_option autoImplicit false
set_option linter.unusedVariables false
set_option linter.unusedSimpArgs false
namespace Go.AM
section
variable {P : Program} {T : List (Nat × TI)} {R : Type} {M : Nat → Prop} {φ : Nat → Option Nat} {h : Heap} {w : World}

theorem binInt_ok {op : BinOp} {k : IntKind} {x y : Int} {K : V → Option R} {r : R} {N : Nat → Prop} {t : Nat} (hop : op ≠ .shl) (hop' : op ≠ .shr) (he : binInt op k x y K = some r) :
    ∃ u, K u = some r ∧ ∃ v, (binOp op t (.int k x) (.int k y)).run P w = .ok v w ∧ VOK φ h w N u v := by
  unfold binInt at he
  split at he
  · exact ⟨_, he, _, by simp [binOp, Op.intArith], rfl⟩
  · exact ⟨_, he, _, by simp [binOp, Op.intArith], rfl⟩
  · exact ⟨_, he, _, by simp [binOp, Op.intArith], rfl⟩
  · by_cases hy : y = 0
    · rw [decide_eq_true hy] at he; cases he
    · rw [decide_eq_false hy, cond_false] at he
      exact ⟨_, he, _, by simp [binOp, Op.intDiv, hy], rfl⟩
  · by_cases hy : y = 0
    · rw [decide_eq_true hy] at he; cases he
    · rw [decide_eq_false hy, cond_false] at he
      exact ⟨_, he, _, by simp [binOp, Op.intDiv, hy], rfl⟩
  · exact ⟨_, he, _, by simp [binOp, Op.intCmp], rfl⟩
  · exact ⟨_, he, _, by simp [binOp, Op.intCmp], rfl⟩
  · exact ⟨_, he, _, by simp [binOp, Op.intCmp], rfl⟩
  · exact ⟨_, he, _, by simp [binOp, Op.intCmp], rfl⟩
  · exact ⟨_, he, _, by simp [binOp, Op.intCmp], rfl⟩
  · exact ⟨_, he, _, by simp [binOp, Op.intCmp], rfl⟩
  · exact ⟨_, he, _, by simp only [binOp, Op.intBits]; simp, rfl⟩
  · exact ⟨_, he, _, by simp only [binOp, Op.intBits]; simp, rfl⟩
  · exact ⟨_, he, _, by simp only [binOp, Op.intBits]; simp, rfl⟩
  · exact ⟨_, he, _, by simp only [binOp, Op.intBits]; simp, rfl⟩
  · cases he
theorem shiftInt_ok {op : BinOp} {k q : IntKind} {x y : Int} {K : V → Option R} {r : R} {N : Nat → Prop} {t : Nat} (hop : op = .shl ∨ op = .shr) (he : shiftInt op k x y K = some r) :
    ∃ u, K u = some r ∧ ∃ v, (binOp op t (.int k x) (.int q y)).run P w = .ok v w ∧ VOK φ h w N u v := by
  unfold shiftInt at he
  by_cases hy : y < 0
  · rw [decide_eq_true hy] at he; cases he
  · rw [decide_eq_false hy, cond_false] at he
    rcases hop with rfl | rfl
    · exact ⟨_, he, _, by simp [binOp, Op.shift, hy]; rfl, by show _ = _; simp⟩
    · exact ⟨_, he, _, by simp [binOp, Op.shift, hy]; rfl, by show _ = _; simp⟩
theorem binStr_ok {op : BinOp} {x y : List UInt8} {K : V → Option R} {r : R} {N : Nat → Prop} {t : Nat} (he : binStr op x y K = some r) :
    ∃ u, K u = some r ∧ ∃ v, (binOp op t (.string ⟨x.toArray⟩) (.string ⟨y.toArray⟩)).run P w = .ok v w ∧ VOK φ h w N u v := by
  unfold binStr at he
  split at he
  · by_cases hl : x.length + y.length ≤ 9223372036854775807
    · rw [decide_eq_true hl, cond_true] at he
      refine ⟨_, he, .string ⟨(x ++ y).toArray⟩, ?_, rfl⟩
      have h1 : (binOp .add t (.string ⟨x.toArray⟩) (.string ⟨y.toArray⟩)) = Op.stringOp .add ⟨x.toArray⟩ ⟨y.toArray⟩ := rfl
      have h2 : (⟨x.toArray⟩ ++ ⟨y.toArray⟩ : ByteArray) = ⟨(x ++ y).toArray⟩ := by
        apply ByteArray.ext
        simp
      rw [h1, run_string_add_sum w _ _ (by show x.toArray.size + y.toArray.size ≤ _; simpa using hl), h2]
    · rw [decide_eq_false hl] at he; cases he
  · refine ⟨_, he, _, ?_, rfl⟩
    have h1 : (binOp .eql t (.string ⟨x.toArray⟩) (.string ⟨y.toArray⟩)) = Op.stringOp .eql ⟨x.toArray⟩ ⟨y.toArray⟩ := rfl
    rw [h1]
    simp [Op.stringOp]
  · refine ⟨_, he, _, ?_, rfl⟩
    have h1 : (binOp .neq t (.string ⟨x.toArray⟩) (.string ⟨y.toArray⟩)) = Op.stringOp .neq ⟨x.toArray⟩ ⟨y.toArray⟩ := rfl
    rw [h1]
    simp [Op.stringOp]
  · cases he
theorem eqGuard_plain {op : BinOp} {t : Nat} {x y : Operand} {v u : Value} (hv : v.oneCell' = true) (hn : v ≠ .nilIface) : (eqGuard op t x y v u).run P w = .ok () w := by
  cases v <;> first | exact absurd rfl hn | (simp [Value.oneCell'] at hv; done) | (cases op <;> rfl)
theorem run_equalIn_bool {t : Nat} (hu : P.underlying t = some .bool) (d : Nat) (m n : Bool) : (Op.equalIn (d + 1) t (.bool m) (.bool n)).run P w = .ok (m == n) w := by
  simp only [Op.equalIn, Sem.run_bind, run_underlying hu, Result.andThen_ok, Sem.run_pure]
theorem binK_ok (hT : TOK P T) {op : BinOp} {t : Nat} {a b : V} {va vb : Value} {N : Nat → Prop} (ha : VOK φ h w N a va) (hb : VOK φ h w N b vb) {K : V → Option R} {r : R} (x y : Operand)
    (he : binK T op t a b K = some r) : ∃ u, K u = some r ∧ ∃ v, (do eqGuard op t x y va vb; binOp op t va vb : Sem Value).run P w = .ok v w ∧ VOK φ h w N u v := by
  unfold binK at he
  have key : ∀ {va vb : Value}, va.oneCell' = true → va ≠ .nilIface → (∃ u, K u = some r ∧ ∃ v, (binOp op t va vb).run P w = .ok v w ∧ VOK φ h w N u v) →
      ∃ u, K u = some r ∧ ∃ v, (do eqGuard op t x y va vb; binOp op t va vb : Sem Value).run P w = .ok v w ∧ VOK φ h w N u v := by
    intro va vb h1 h2 ⟨u, hu, v, hv, hk⟩
    exact ⟨u, hu, v, by simp only [Sem.run_bind, eqGuard_plain h1 h2, Result.andThen_ok, hv], hk⟩
  split at he
  · rename_i k m k' n
    have e1 : va = .int k m := ha
    have e2 : vb = .int k' n := hb
    subst e1 e2
    refine key rfl (by simp) ?_
    split at he
    · exact shiftInt_ok (.inl rfl) he
    · exact shiftInt_ok (.inr rfl) he
    · rename_i h1 h2
      cases hk : kindEq k k' with
      | false => rw [hk] at he; cases he
      | true =>
        rw [hk, cond_true] at he
        have := kindEq_eq hk
        subst this
        exact binInt_ok (fun e => h1 (by rw [e])) (fun e => h2 (by rw [e])) he
  · rename_i m n
    have e1 : va = .string ⟨m.toArray⟩ := ha
    have e2 : vb = .string ⟨n.toArray⟩ := hb
    subst e1 e2
    exact key rfl (by simp) (binStr_ok he)
  · rename_i m n
    have e1 : va = .bool m := ha
    have e2 : vb = .bool n := hb
    subst e1 e2
    refine key rfl (by simp) ?_
    split at he
    · rename_i ti ht
      split at he
      · rename_i hd
        obtain ⟨d, hd', hc⟩ := (hT t ti ht).desc
        rw [hd] at hc
        have hu : P.underlying t = some .bool := by cases d <;> simp [descCheck] at hc; exact hd'
        have heq : (Op.equal t (.bool m) (.bool n)).run P w = .ok (m == n) w := run_equalIn_bool hu 9999 m n
        split at he
        · refine ⟨_, he, .bool (m == n), ?_, rfl⟩
          show (do pure (.bool (← Op.equal t (.bool m) (.bool n))) : Sem Value).run P w = _
          simp only [Sem.run_bind, heq, Result.andThen_ok, Sem.run_pure]
        · refine ⟨_, he, .bool (!(m == n)), ?_, rfl⟩
          show (do pure (.bool (!(← Op.equal t (.bool m) (.bool n)))) : Sem Value).run P w = _
          simp only [Sem.run_bind, heq, Result.andThen_ok, Sem.run_pure]
        · cases he
      · cases he
    · cases he
  · rename_i z hne1
    split at he
    · rename_i ti b ht hn
      split at he
      · rename_i e hd
        obtain ⟨p, rfl, rfl⟩ := isNilV_ok hn ha
        have e2 : vb = .pointer none := hb
        subst e2
        obtain ⟨dd, hd', hc⟩ := (hT t ti ht).desc
        rw [hd] at hc
        have hu : P.underlying t = some (.pointer (P.pointee t)) := by
          cases dd <;> simp [descCheck] at hc
          rw [hd']
          simp [Program.pointee, hd']
        exact key rfl (by simp) (eqK_ok he (run_eql_pointer_nil w t p hu) (run_neq_pointer_nil w t p hu))
      · cases he
    · cases he
  · rename_i cs ds
    split at he
    · rename_i ti b ht hq
      cases hte : ti.eq with
      | false => rw [hte] at he; cases he
      | true =>
        rw [hte, cond_true] at he
        have hc := (hT t ti ht).eqok
        simp only [eqCheck, hte, Bool.not_true, Bool.false_or, Bool.and_eq_true, Bool.not_eq_true'] at hc
        obtain ⟨xs, rfl, hx⟩ := ha
        obtain ⟨ys, rfl, hy⟩ := hb
        have hr : (Op.equalIn 10000 t (.agg xs) (.agg ys)).run P w = .ok b w := eqT_ok (w := w) hT 9994 6 t _ _ _ _ _ hq (show VOK φ h w N (.agg cs) (.agg xs) from ⟨xs, rfl, hx⟩) (show VOK φ h w N (.agg ds) (.agg ys) from ⟨ys, rfl, hy⟩)
        obtain ⟨u, hu, v, hv, hk⟩ := eqK_ok (φ := φ) (h := h) (N := N) (P := P) (w := w) (t := t) (x := .agg xs) (y := .agg ys) he (by rw [run_eql_struct, hr]; rfl) (by rw [run_neq_struct, hr]; rfl)
        exact ⟨u, hu, v, by simp only [Sem.run_bind, run_eqGuard_agg w op t x y xs ys hc.1, Result.andThen_ok, hv], hk⟩
    · cases he
  · cases he
theorem lenV_ok (hT : TOK P T) {u : V} {v : Value} {N : Nat → Prop} (hu : VOK φ h w N u v) {t : Nat} {ti : TI} (ht : tfind T t = some ti) {n : Int} (hn : lenV h ti.d u = some n) (ty : Nat) :
    (Builtin.len_ #[t] ty #[v]).run P w = .ok (.int .i64 n) w := by
  have hs : ∀ e a m c, ti.d = .slice e → v = .slice a m c → (Builtin.len_ #[t] ty #[v]).run P w = .ok (.int .i64 m) w := fun e a m c hd hv => by
    subst hv
    unfold Builtin.len_
    simp [Sem.run_bind, run_underlying ((hT t ti ht).under_slice hd), goInt]
  unfold lenV at hn
  split at hn
  · rename_i e s hd
    obtain ⟨r, xs, hx, hk⟩ := hu
    rw [hx] at hn
    cases hn
    obtain ⟨a, cap, hv, _⟩ := hk.slice
    exact hs _ _ _ _ hd hv
  · rename_i hd
    cases hn
    obtain ⟨r, xs, hx, hl, hz, a, cap, hv, _⟩ := hu
    exact hs _ _ _ _ hd hv
  · rename_i hd
    cases hn
    obtain ⟨a, cap, hv, _⟩ := hu
    exact hs _ _ _ _ hd hv
  · rename_i hd
    cases hn
    have hv : v = .slice none 0 0 := hu
    exact hs _ _ _ _ hd hv
  · rename_i l hd
    cases hn
    have hv : v = .string ⟨l.toArray⟩ := hu
    subst hv
    have hz : (⟨l.toArray⟩ : ByteArray).size = l.length := by show l.toArray.size = _; simp
    rw [run_len_string _ _ _ _ ((hT t ti ht).under_str hd)]
    show Result.ok (Value.int .i64 ((⟨l.toArray⟩ : ByteArray).size : Int)) w = _
    rw [hz]
  · cases hn
end
end Go.AM
