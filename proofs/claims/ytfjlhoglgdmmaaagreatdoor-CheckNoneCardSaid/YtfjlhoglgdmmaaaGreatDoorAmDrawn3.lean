/- Regions whose order Go leaves open: masks, and what the abstract run of the heads says. -/
import Derived.Test.YtfjlhoglgdmmaaaGreatDoorAmDrawn2
set_option autoImplicit false
set_option linter.unusedVariables false
set_option linter.unusedSimpArgs false
set_option linter.unusedSectionVars false
namespace Go.AM
theorem maskOf_bit (ms : List Nat) (o : Oper) (j : Nat) : (maskOf ms o).testBit j = true ↔ ∃ e ∈ o.after.toList, bindsAny e = true ∧ (e.on = j ∨ (lget ms e.on 0).testBit j = true) := by
  unfold maskOf
  induction o.after.toList with
  | nil => simp
  | cons e l ih =>
    simp only [List.foldr_cons, List.mem_cons, exists_eq_or_imp]
    cases hb : bindsAny e with
    | false => simp only [cond_false, ih]; simp
    | true =>
      simp only [cond_true]
      have h1 : ∀ a b : Nat, Nat.lor a b = a ||| b := fun _ _ => rfl
      rw [h1, h1, Nat.testBit_or, Nat.testBit_or, Nat.testBit_two_pow]
      simp only [Bool.or_eq_true, decide_eq_true_eq, ih, true_and]
      constructor
      · rintro (h | h | h)
        · exact .inr h
        · exact .inl (.inl h)
        · exact .inl (.inr h)
      · rintro ((h | h) | h)
        · exact .inr (.inl h)
        · exact .inr (.inr h)
        · exact .inl h
theorem masks_spec : ∀ (l : List Oper) (pre : List Nat), (masks l pre).length = pre.length + l.length ∧ (masks l pre).take pre.length = pre ∧
    ∀ (i : Nat) (o : Oper), l[i]? = some o → lget (masks l pre) (pre.length + i) 0 = maskOf ((masks l pre).take (pre.length + i)) o
  | [], pre => ⟨rfl, by simp [masks], fun i o h => by simp at h⟩
  | p :: l, pre => by
    obtain ⟨h1, h2, h3⟩ := masks_spec l (pre ++ [maskOf pre p])
    simp only [List.length_append, List.length_cons, List.length_nil, Nat.zero_add] at h1 h2 h3
    have h4 : (masks (p :: l) pre) = masks l (pre ++ [maskOf pre p]) := rfl
    have h5 : (masks l (pre ++ [maskOf pre p])).take pre.length = pre := by
      have := congrArg (List.take pre.length) h2
      rw [List.take_take, Nat.min_eq_left (by omega)] at this
      rw [this]; simp
    refine ⟨by rw [h4, h1]; simp; omega, by rw [h4]; exact h5, fun i o h => ?_⟩
    rw [h4]
    cases i with
    | zero =>
      simp at h; subst h
      rw [Nat.add_zero, h5, lget_eq]
      have : (masks l (pre ++ [maskOf pre p]))[pre.length]? = ((masks l (pre ++ [maskOf pre p])).take (pre.length + 1))[pre.length]? := by rw [List.getElem?_take_of_lt (by omega)]
      rw [this, h2]; simp
    | succ i =>
      have := h3 i o (by simpa using h)
      rw [show pre.length + (i + 1) = pre.length + 1 + i by omega]
      exact this
theorem edgesOk_spec : ∀ (l : List Oper) (k : Nat), edgesOk k l = true → ∀ (i : Nat) (o : Oper), l[i]? = some o → ∀ e ∈ o.after.toList, bindsAny e = true → e.on < k + i
  | [], k, _, i, o, h, _, _, _ => by simp at h
  | p :: l, k, hk, i, o, h, e, he, hb => by
    simp only [edgesOk, Bool.and_eq_true, List.all_eq_true] at hk
    cases i with
    | zero =>
      simp at h; subst h
      have := hk.1 e he
      rw [hb] at this
      simpa using this
    | succ i =>
      have := edgesOk_spec l (k + 1) hk.2 i o (by simpa using h) e he hb
      omega
section
variable {ops : List Oper} (hE : edgesOk 0 ops = true)
include hE
theorem mask_bit {i : Nat} {o : Oper} (hi : ops[i]? = some o) (j : Nat) : (lget (masks ops []) i 0).testBit j = true ↔ ∃ e ∈ o.after.toList, bindsAny e = true ∧ (e.on = j ∨ (lget (masks ops []) e.on 0).testBit j = true) := by
  obtain ⟨h1, h2, h3⟩ := masks_spec ops []
  have := h3 i o hi
  simp only [List.length_nil, Nat.zero_add] at this
  rw [this, maskOf_bit]
  have key : ∀ e ∈ o.after.toList, bindsAny e = true → lget ((masks ops []).take i) e.on 0 = lget (masks ops []) e.on 0 := fun e he hb => by
    have hlt := edgesOk_spec ops 0 hE i o hi e he hb
    rw [lget_eq, lget_eq, List.getElem?_take_of_lt (by omega)]
  constructor
  · rintro ⟨e, he, hb, h⟩; exact ⟨e, he, hb, by rw [key e he hb] at h; exact h⟩
  · rintro ⟨e, he, hb, h⟩; exact ⟨e, he, hb, by rw [key e he hb]; exact h⟩
theorem mask_far {i : Nat} (hi : ops[i]? = none) : lget (masks ops []) i 0 = 0 := by
  obtain ⟨h1, _, _⟩ := masks_spec ops []
  rw [lget_eq, List.getElem?_eq_none (by rw [h1]; simp at hi ⊢; exact hi)]; rfl
theorem mask_lt : ∀ (i j : Nat), (lget (masks ops []) i 0).testBit j = true → j < i := by
  intro i
  induction i using Nat.strongRecOn with
  | _ i ih =>
    intro j h
    cases hi : ops[i]? with
    | none => rw [mask_far hE hi] at h; simp at h
    | some o =>
      obtain ⟨e, he, hb, h⟩ := (mask_bit hE hi j).1 h
      have hlt := edgesOk_spec ops 0 hE i o hi e he hb
      rw [Nat.zero_add] at hlt
      rcases h with h | h
      · omega
      · have := ih _ hlt j h; omega
theorem mask_closed (i : Nat) : Closed (masks ops []) (lget (masks ops []) i 0) := by
  induction i using Nat.strongRecOn with
  | _ i ih =>
    intro k hk j hj
    cases hi : ops[i]? with
    | none => rw [mask_far hE hi] at hk; simp at hk
    | some o =>
      obtain ⟨e, he, hb, h⟩ := (mask_bit hE hi k).1 hk
      have hlt := edgesOk_spec ops 0 hE i o hi e he hb
      rw [Nat.zero_add] at hlt
      refine (mask_bit hE hi j).2 ⟨e, he, hb, .inr ?_⟩
      rcases h with h | h
      · rw [h]; exact hj
      · exact ih _ hlt k h j hj
end

/-! ### The heads' run -/
section
variable {T : List (Nat × TI)} {F : Funs} {R : Type} {heads : List Oper} {ms : List Nat} {st0 : St}
def RanA (T : List (Nat × TI)) (F : Funs) (heads : List Oper) (ms : List Nat) (st0 : St) (acc : Acc) (i : Nat) (o : Oper) : Prop :=
  opA T F o (rhoE heads (lget ms i 0) acc st0.env) (restrH (lget ms i 0) 0 heads acc st0.heap) (fun u nb => some (u, nb)) = some (lget acc i (.any, none))
def HF (T : List (Nat × TI)) (F : Funs) (heads : List Oper) (ms : List Nat) (st0 : St) (acc : Acc) (i : Nat) (o : Oper) : Prop :=
  (isP0 o = true → lget acc i (.any, none) = (.any, none)) ∧ (isP0 o = false →
    (o.guard = none ∧ RanA T F heads ms st0 acc i o) ∨
    (∃ j want, o.guard = some (j, want) ∧ (lget ms i 0).testBit j = true ∧ gOk heads j st0.env = true ∧
      ((∃ b, lget acc j (.any, none) = (.one (.c .bool b), none) ∧ ((b = want ∧ RanA T F heads ms st0 acc i o) ∨ (b ≠ want ∧ lget acc i (.any, none) = (.skip, none)))) ∨
       (lget acc j (.any, none) = (.skip, none) ∧ lget acc i (.any, none) = (.skip, none)))))
theorem lset_self {α : Type} {l : List α} {n : Nat} {y d : α} (h : lget l n d = y) : lset l n y = l := by
  by_cases hl : n < l.length
  · rw [lset_eq]
    rw [lget_eq, List.getElem?_eq_getElem hl] at h
    simp at h
    rw [← h]
    simp
  · rw [lset_eq, List.set_eq_of_length_le (by omega)]
theorem lget_append_left {α : Type} {l m : List α} {j : Nat} {d : α} (h : j < l.length) : lget (l ++ m) j d = lget l j d := by
  rw [lget_eq, lget_eq, List.getElem?_append_left h]
theorem lget_append_at {α : Type} {l : List α} {x d : α} : lget (l ++ [x]) l.length d = x := by
  rw [lget_eq]; simp
theorem headsK_run (hlt : ∀ i j, (lget ms i 0).testBit j = true → j < i) {K : Acc → Option R} {q : R} : ∀ (l : List Oper) (acc : Acc) (i : Nat), acc.length = i → headsK T F heads ms st0 i l acc K = some q →
    ∃ acc' : Acc, K acc' = some q ∧ acc'.length = i + l.length ∧ (∀ j, j < i → lget acc' j (.any, none) = lget acc j (.any, none)) ∧ ∀ (j : Nat) (o : Oper), l[j]? = some o → HF T F heads ms st0 acc' (i + j) o
  | [], acc, i, hl, h => ⟨acc, h, by simpa using hl, fun _ _ => rfl, fun j o h => by simp at h⟩
  | o :: l, acc, i, hl, h => by
    -- the rest, once this one's result stands
    have go : ∀ x : V × Option Blk, headsK T F heads ms st0 (i + 1) l (acc ++ [x]) K = some q →
        (∀ acc' : Acc, (∀ j, j < i → lget acc' j (.any, none) = lget acc j (.any, none)) → lget acc' i (.any, none) = x → HF T F heads ms st0 acc' i o) →
        ∃ acc' : Acc, K acc' = some q ∧ acc'.length = i + (o :: l).length ∧ (∀ j, j < i → lget acc' j (.any, none) = lget acc j (.any, none)) ∧ ∀ (j : Nat) (p : Oper), (o :: l)[j]? = some p → HF T F heads ms st0 acc' (i + j) p := by
      intro x hx hf
      obtain ⟨acc', h1, h2, h3, h4⟩ := headsK_run hlt l (acc ++ [x]) (i + 1) (by simp [hl]) hx
      have h5 : ∀ j, j < i → lget acc' j (.any, none) = lget acc j (.any, none) := fun j hj => by rw [h3 j (by omega), lget_append_left (by omega)]
      have h6 : lget acc' i (.any, none) = x := by
        rw [h3 i (by omega)]
        subst hl
        exact lget_append_at
      refine ⟨acc', h1, by rw [h2]; simp; omega, h5, fun j p hj => ?_⟩
      cases j with
      | zero => simp at hj; subst hj; exact hf acc' h5 h6
      | succ j =>
        have := h4 j p (by simpa using hj)
        rw [show i + (j + 1) = i + 1 + j by omega]; exact this
    have ran : ∀ acc' : Acc, (∀ j, j < i → lget acc' j (.any, none) = lget acc j (.any, none)) →
        opA T F o (rhoE heads (lget ms i 0) acc st0.env) (restrH (lget ms i 0) 0 heads acc st0.heap) (fun u nb => some (u, nb)) = some (lget acc' i (.any, none)) → RanA T F heads ms st0 acc' i o := by
      intro acc' h1 h2
      unfold RanA
      rw [rhoE_congr (acc := acc') (acc' := acc) heads st0.env (fun j hj => h1 j (hlt i j hj)), restrH_congr (acc := acc') (acc' := acc) heads 0 st0.heap (fun j hj => h1 j (hlt i j hj))]
      exact h2
    -- it is carried out, or left out
    have yes : ∀ {G : Acc → Prop}, opA T F o (rhoE heads (lget ms i 0) acc st0.env) (restrH (lget ms i 0) 0 heads acc st0.heap) (fun v nb => headsK T F heads ms st0 (i + 1) l (acc ++ [(v, nb)]) K) = some q →
        (∀ acc' : Acc, (∀ j, j < i → lget acc' j (.any, none) = lget acc j (.any, none)) → RanA T F heads ms st0 acc' i o → HF T F heads ms st0 acc' i o) →
        ∃ acc' : Acc, K acc' = some q ∧ acc'.length = i + (o :: l).length ∧ (∀ j, j < i → lget acc' j (.any, none) = lget acc j (.any, none)) ∧ ∀ (j : Nat) (p : Oper), (o :: l)[j]? = some p → HF T F heads ms st0 acc' (i + j) p := by
      intro _ hop hf
      rw [opA_run] at hop
      cases hx : opA T F o (rhoE heads (lget ms i 0) acc st0.env) (restrH (lget ms i 0) 0 heads acc st0.heap) (fun u nb => some (u, nb)) with
      | none => rw [hx] at hop; cases hop
      | some x =>
        rw [hx] at hop
        exact go x hop (fun acc' h5 h6 => hf acc' h5 (ran acc' h5 (by rw [hx, h6])))
    have no : headsK T F heads ms st0 (i + 1) l (acc ++ [(.skip, none)]) K = some q →
        (∀ acc' : Acc, (∀ j, j < i → lget acc' j (.any, none) = lget acc j (.any, none)) → lget acc' i (.any, none) = (.skip, none) → HF T F heads ms st0 acc' i o) →
        ∃ acc' : Acc, K acc' = some q ∧ acc'.length = i + (o :: l).length ∧ (∀ j, j < i → lget acc' j (.any, none) = lget acc j (.any, none)) ∧ ∀ (j : Nat) (p : Oper), (o :: l)[j]? = some p → HF T F heads ms st0 acc' (i + j) p := fun hn hf => go _ hn hf
    unfold headsK at h
    cases hp : isP0 o with
    | true =>
      rw [hp, cond_true] at h
      exact go _ h (fun acc' _ h6 => ⟨fun _ => h6, fun hn => (by rw [hp] at hn; cases hn)⟩)
    | false =>
      rw [hp, cond_false] at h
      simp only at h
      split at h
      · rename_i hg
        exact yes (G := fun _ => True) h (fun acc' _ hr => ⟨fun hn => (by rw [hp] at hn; cases hn), fun _ => .inl ⟨hg, hr⟩⟩)
      · rename_i j want hg
        cases hgo : (Nat.testBit (lget ms i 0) j && gOk heads j st0.env) with
        | false => rw [hgo, cond_false] at h; cases h
        | true =>
        rw [hgo, cond_true] at h
        rw [Bool.and_eq_true] at hgo
        have hj := hlt i j hgo.1
        have mk : ∀ acc' : Acc, (∀ j, j < i → lget acc' j (.any, none) = lget acc j (.any, none)) → (∃ b, lget acc j (.any, none) = (.one (.c .bool b), none) ∧ ((b = want ∧ RanA T F heads ms st0 acc' i o) ∨ (b ≠ want ∧ lget acc' i (.any, none) = (.skip, none)))) ∨
            (lget acc j (.any, none) = (.skip, none) ∧ lget acc' i (.any, none) = (.skip, none)) → HF T F heads ms st0 acc' i o := fun acc' h5 hh =>
          ⟨fun hn => (by rw [hp] at hn; cases hn), fun _ => .inr ⟨j, want, hg, hgo.1, hgo.2, by rw [h5 j hj]; exact hh⟩⟩
        split at h
        · rename_i b hb
          cases b with
          | true =>
            simp only [cond_true] at h
            rw [lset_self hb] at h
            cases want with
            | true => exact yes (G := fun _ => True) h (fun acc' h5 hr => mk acc' h5 (.inl ⟨true, hb, .inl ⟨rfl, hr⟩⟩))
            | false => exact no h (fun acc' h5 hr => mk acc' h5 (.inl ⟨true, hb, .inr ⟨by simp, hr⟩⟩))
          | false =>
            simp only [cond_false] at h
            rw [lset_self hb] at h
            cases want with
            | true => exact no h (fun acc' h5 hr => mk acc' h5 (.inl ⟨false, hb, .inr ⟨by simp, hr⟩⟩))
            | false => exact yes (G := fun _ => True) h (fun acc' h5 hr => mk acc' h5 (.inl ⟨false, hb, .inl ⟨rfl, hr⟩⟩))
        · rename_i hb
          exact no h (fun acc' h5 hr => mk acc' h5 (.inr ⟨hb, hr⟩))
        · cases h
end
end Go.AM
