/- Regions whose order Go leaves open: what is known of them while they run. -/
import Derived.Test.YtfjlhoglgdmmaaaGreatDoorAmPar
set_option autoImplicit false
set_option linter.unusedVariables false
set_option linter.unusedSimpArgs false
namespace Go.AM

/-! ### Slots, each once -/
theorem memN_iff : ∀ (l : List Nat) (x : Nat), memN x l = true ↔ x ∈ l
  | [], x => by simp [memN]
  | y :: l, x => by simp [memN, memN_iff l x]
theorem nodupN_cons {x : Nat} {l : List Nat} (h : nodupN (x :: l) = true) : x ∉ l ∧ nodupN l = true := by
  simp only [nodupN, Bool.and_eq_true, Bool.not_eq_true'] at h
  refine ⟨fun hx => ?_, h.2⟩
  have h1 := h.1
  rw [(memN_iff l x).2 hx] at h1
  cases h1
theorem dsts_mem : ∀ {l : List Oper} {o : Oper} {t : Nat}, o ∈ l → o.dst = some t → t ∈ dsts l
  | [], o, t, ho, hd => by cases ho
  | p :: l, o, t, ho, hd => by
    unfold dsts
    rcases List.mem_cons.1 ho with rfl | ho
    · rw [hd]; simp
    · have ih := dsts_mem ho hd
      cases p.dst with
      | none => exact ih
      | some d => exact List.mem_cons_of_mem _ ih
theorem dsts_tail {o : Oper} {l : List Oper} (h : nodupN (dsts (o :: l)) = true) : nodupN (dsts l) = true ∧ ∀ t, o.dst = some t → ∀ o' ∈ l, o'.dst ≠ some t := by
  unfold dsts at h
  cases hd : o.dst with
  | none => rw [hd] at h; exact ⟨h, fun t ht => by cases ht⟩
  | some d =>
    rw [hd] at h
    obtain ⟨h1, h2⟩ := nodupN_cons h
    exact ⟨h2, fun t ht o' ho' hd' => by cases ht; exact h1 (dsts_mem ho' hd')⟩
theorem dst_unique : ∀ {l : List Oper}, nodupN (dsts l) = true → ∀ {i j : Nat} {o o' : Oper} {t : Nat}, l[i]? = some o → l[j]? = some o' → o.dst = some t → o'.dst = some t → i = j
  | [], _, i, j, o, o', t, hi, _, _, _ => by simp at hi
  | p :: l, h, 0, 0, o, o', t, hi, hj, hd, hd' => rfl
  | p :: l, h, 0, j + 1, o, o', t, hi, hj, hd, hd' => by
    simp at hi hj; subst hi
    exact absurd hd' ((dsts_tail h).2 t hd o' (List.mem_of_getElem? hj))
  | p :: l, h, i + 1, 0, o, o', t, hi, hj, hd, hd' => by
    simp at hi hj; subst hj
    exact absurd hd ((dsts_tail h).2 t hd' o (List.mem_of_getElem? hi))
  | p :: l, h, i + 1, j + 1, o, o', t, hi, hj, hd, hd' => by
    exact congrArg (· + 1) (dst_unique (dsts_tail h).1 (i := i) (j := j) (by simpa using hi) (by simpa using hj) hd hd')

section
variable {ops : List Oper} {acc : Acc} {m : Nat}
theorem restrE_len : ∀ (l : List Oper) (j : Nat) (env : List V), (restrE ops m j l acc env).length = env.length
  | [], j, env => rfl
  | o :: l, j, env => by
    unfold restrE
    cases hd : o.dst with
    | none => exact restrE_len l _ _
    | some d =>
      simp only
      rw [restrE_len l]
      cases isP0 o
      · simp [lset_length]
      · rfl
theorem restrE_other {t : Nat} : ∀ (l : List Oper) (j : Nat) (env : List V), (∀ o ∈ l, isP0 o = false → o.dst ≠ some t) → lget (restrE ops m j l acc env) t .any = lget env t .any
  | [], j, env, _ => rfl
  | o :: l, j, env, h => by
    unfold restrE
    have ih := fun env => restrE_other l (j + 1) env (fun o' ho' => h o' (List.mem_cons_of_mem _ ho'))
    cases hd : o.dst with
    | none => exact ih env
    | some d =>
      simp only
      rw [ih]
      cases hp : isP0 o with
      | true => rfl
      | false =>
        have : d ≠ t := fun e => h o (by simp) hp (by rw [hd, e])
        simp only [cond_false]
        rw [lget_lset_other _ _ _ _ _ this]
theorem restrE_at {t : Nat} : ∀ (l : List Oper) (j i : Nat) (env : List V) (o : Oper), l[i]? = some o → isP0 o = false → o.dst = some t → nodupN (dsts l) = true → t < env.length →
    lget (restrE ops m j l acc env) t .any = if m.testBit (j + i) = true then (lget acc (j + i) (.any, none)).1 else .any
  | [], j, i, env, o, h, _, _, _, _ => by simp at h
  | p :: l, j, 0, env, o, h, hp, hd, hn, hl => by
    simp at h; subst h
    unfold restrE
    rw [hd]
    simp only [hp, cond_false]
    rw [restrE_other l _ _ (fun o' ho' _ => (dsts_tail hn).2 t hd o' ho'), lget_lset_same _ _ _ _ hl]
    simp only [Nat.add_zero]
    cases m.testBit j <;> rfl
  | p :: l, j, i + 1, env, o, h, hp, hd, hn, hl => by
    unfold restrE
    have h' : l[i]? = some o := by simpa using h
    have ih := fun env hl => restrE_at l (j + 1) i env o h' hp hd (dsts_tail hn).1 hl
    rw [show j + (i + 1) = j + 1 + i by omega]
    cases hd' : p.dst with
    | none => exact ih env hl
    | some d =>
      simp only
      refine ih _ ?_
      cases isP0 p
      · simp [lset_length, hl]
      · exact hl
theorem restrH_len : ∀ (l : List Oper) (j : Nat) (h : Heap), (restrH m j l acc h).length = h.length
  | [], j, h => rfl
  | o :: l, j, h => by
    unfold restrH
    cases hd : o.dst with
    | none => exact restrH_len l _ _
    | some d =>
      simp only
      rw [restrH_len l]
      cases isP0 o
      · simp only [cond_false]
        split
        · cases m.testBit j
          · rfl
          · simp [hset, lset_length]
        · rfl
      · rfl
theorem restrH_other {t : Nat} : ∀ (l : List Oper) (j : Nat) (h : Heap), (∀ i o x, l[i]? = some o → isP0 o = false → o.dst = some t → (lget acc (j + i) (.any, none)).2 = some x → m.testBit (j + i) = false) →
    hget (restrH m j l acc h) t = hget h t
  | [], j, h, _ => rfl
  | o :: l, j, h, hh => by
    unfold restrH
    have ih := fun h => restrH_other l (j + 1) h (fun i o' x h1 h2 h3 h4 => by
      have := hh (i + 1) o' x (by simpa using h1) h2 h3
      rw [show j + (i + 1) = j + 1 + i by omega] at this
      exact this h4)
    cases hd : o.dst with
    | none => exact ih h
    | some d =>
      simp only
      rw [ih]
      cases hp : isP0 o with
      | true => rfl
      | false =>
        simp only [cond_false]
        split
        · rename_i b hb
          cases hm : m.testBit j with
          | false => rfl
          | true =>
            simp only [cond_true]
            refine hget_hset_other _ _ _ _ (fun e => ?_)
            have := hh 0 o b (by simp) hp (by rw [hd, e]) (by rw [Nat.add_zero, hb])
            rw [Nat.add_zero, hm] at this
            cases this
        · rfl
theorem restrH_at {t : Nat} : ∀ (l : List Oper) (j i : Nat) (h : Heap) (o : Oper) (x : Blk), l[i]? = some o → isP0 o = false → o.dst = some t → (lget acc (j + i) (.any, none)).2 = some x → m.testBit (j + i) = true → nodupN (dsts l) = true → t < h.length →
    hget (restrH m j l acc h) t = some x
  | [], j, i, h, o, x, h1, _, _, _, _, _, _ => by simp at h1
  | p :: l, j, 0, h, o, x, h1, hp, hd, hx, hm, hn, hl => by
    simp at h1; subst h1
    unfold restrH
    rw [hd]
    simp only [hp, cond_false, Nat.add_zero] at hx hm ⊢
    rw [restrH_other l _ _ (fun i o' x' g1 g2 g3 _ => absurd g3 ((dsts_tail hn).2 t hd o' (List.mem_of_getElem? g1)))]
    split
    · rename_i b hb
      rw [hb] at hx
      simp at hx
      subst hx
      rw [hm, cond_true, hget_hset_same _ _ _ hl]
    · rename_i hb
      have : lget acc j (.any, none) = ((lget acc j (.any, none)).1, some x) := by rw [← hx]
      exact absurd this (hb _ _)
  | p :: l, j, i + 1, h, o, x, h1, hp, hd, hx, hm, hn, hl => by
    unfold restrH
    have h' : l[i]? = some o := by simpa using h1
    rw [show j + (i + 1) = j + 1 + i by omega] at hx hm
    have ih := fun h hl => restrH_at l (j + 1) i h o x h' hp hd hx hm (dsts_tail hn).1 hl
    cases hd' : p.dst with
    | none => exact ih h hl
    | some d =>
      simp only
      refine ih _ ?_
      cases isP0 p
      · simp only [cond_false]
        split
        · cases m.testBit j
          · exact hl
          · simpa [hset, lset_length] using hl
        · exact hl
      · exact hl
/-- Only those that are told of count. -/
theorem restrE_congr {acc acc' : Acc} : ∀ (l : List Oper) (j : Nat) (env : List V), (∀ i, m.testBit i = true → lget acc i (.any, none) = lget acc' i (.any, none)) → restrE ops m j l acc env = restrE ops m j l acc' env
  | [], j, env, _ => rfl
  | o :: l, j, env, h => by
    unfold restrE
    cases hd : o.dst with
    | none => exact restrE_congr l _ _ h
    | some d =>
      simp only
      rw [restrE_congr l _ _ h]
      cases hm : m.testBit j with
      | true => rw [h j hm]
      | false => rfl
theorem findD_some : ∀ {l : List Oper} {j t i : Nat}, findD l j t = some i → ∃ n o, i = j + n ∧ l[n]? = some o ∧ isP0 o = false ∧ o.dst = some t
  | [], j, t, i, h => by cases h
  | o :: l, j, t, i, h => by
    have next : findD l (j + 1) t = some i → ∃ n p, i = j + n ∧ (o :: l)[n]? = some p ∧ isP0 p = false ∧ p.dst = some t := fun h => by
      obtain ⟨n, p, h1, h2, h3, h4⟩ := findD_some h
      exact ⟨n + 1, p, by omega, by simpa using h2, h3, h4⟩
    unfold findD at h
    split at h
    · rename_i d hd
      cases hb : (Nat.beq d t && !(isP0 o)) with
      | true =>
        rw [hb, cond_true] at h
        simp only [Bool.and_eq_true, Bool.not_eq_true'] at hb
        have hdt : d = t := Nat.eq_of_beq_eq_true hb.1
        subst hdt
        cases h
        exact ⟨0, o, rfl, rfl, hb.2, hd⟩
      | false =>
        rw [hb, cond_false] at h
        exact next h
    · exact next h
theorem findD_none : ∀ {l : List Oper} {j t : Nat}, findD l j t = none → ∀ o ∈ l, isP0 o = false → o.dst ≠ some t
  | [], j, t, h, o, ho => by cases ho
  | p :: l, j, t, h, o, ho => by
    unfold findD at h
    split at h
    · rename_i d hd
      cases hb : (Nat.beq d t && !(isP0 p)) with
      | true => rw [hb] at h; cases h
      | false =>
        rw [hb, cond_false] at h
        rcases List.mem_cons.1 ho with rfl | ho
        · intro hp he
          rw [hd] at he
          cases he
          simp [hp] at hb
        · exact findD_none h o ho
    · rename_i hd
      rcases List.mem_cons.1 ho with rfl | ho
      · intro _ he
        rw [hd] at he; cases he
      · exact findD_none h o ho
theorem rhoE_congr {acc acc' : Acc} (l : List Oper) (env : List V) (h : ∀ i, m.testBit i = true → lget acc i (.any, none) = lget acc' i (.any, none)) : rhoE l m acc env = rhoE l m acc' env := by
  funext x
  cases x with
  | tmp t =>
    simp only [rhoE]
    split
    · rename_i j _
      cases hm : m.testBit j with
      | true => rw [h j hm]
      | false => rfl
    · rfl
  | _ => rfl
theorem rhoE_eq (l : List Oper) (env : List V) (hn : nodupN (dsts l) = true) (x : Operand) : rhoE l m acc env x = ev (restrE l m 0 l acc env) x := by
  cases x with
  | tmp t =>
    simp only [rhoE, ev]
    split
    · rename_i j hj
      obtain ⟨n, o, h1, h2, h3, h4⟩ := findD_some hj
      rw [Nat.zero_add] at h1
      subst h1
      by_cases hl : t < env.length
      · have := restrE_at (ops := l) (acc := acc) (m := m) l 0 j env o h2 h3 h4 hn hl
        rw [Nat.zero_add] at this
        have hb : Nat.blt t (llen env) = true := by rw [llen_eq]; exact Nat.ble_eq_true_of_le hl
        rw [this, hb, Bool.and_true]
        cases m.testBit j <;> rfl
      · have hb : Nat.blt t (llen env) = false := by
          rw [llen_eq]
          cases hb : Nat.blt t env.length with
          | false => rfl
          | true => exact absurd (Nat.le_of_ble_eq_true hb) hl
        rw [hb, Bool.and_false, cond_false, lget_eq, List.getElem?_eq_none (by rw [restrE_len]; exact Nat.le_of_not_lt hl)]
        rfl
    · rename_i hj
      rw [restrE_other l 0 env (findD_none hj)]
  | _ => rfl
theorem restrH_congr {acc acc' : Acc} : ∀ (l : List Oper) (j : Nat) (hp : Heap), (∀ i, m.testBit i = true → lget acc i (.any, none) = lget acc' i (.any, none)) → restrH m j l acc hp = restrH m j l acc' hp
  | [], j, hp, _ => rfl
  | o :: l, j, hp, h => by
    unfold restrH
    cases hd : o.dst with
    | none => exact restrH_congr l _ _ h
    | some d =>
      simp only
      rw [restrH_congr l _ _ h]
      congr 1
      cases isP0 o with
      | true => rfl
      | false =>
        simp only [cond_false]
        cases hm : m.testBit j with
        | true => rw [h j hm]
        | false =>
          simp only [cond_false]
          split <;> split <;> rfl
end
end Go.AM
