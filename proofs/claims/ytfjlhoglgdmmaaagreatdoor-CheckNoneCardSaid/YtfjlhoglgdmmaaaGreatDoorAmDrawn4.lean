/- Regions whose order Go leaves open: whatever order is drawn, the state behind them is the one reckoned. -/
import Derived.Test.YtfjlhoglgdmmaaaGreatDoorAmDrawn3
set_option autoImplicit false
set_option linter.unusedVariables false
set_option linter.unusedSimpArgs false
namespace Go.AM
/-- How many are listed. -/
def cnt (listed : Array Bool) : Nat := listed.toList.countP id
theorem getD_lt {listed : Array Bool} {i : Nat} (h : listed.getD i true = false) : i < listed.size := by
  rcases Nat.lt_or_ge i listed.size with h' | h'
  · exact h'
  · simp [Array.getElem?_eq_none h'] at h
theorem cnt_set {listed : Array Bool} {i : Nat} (h : listed.getD i true = false) : cnt (listed.setIfInBounds i true) = cnt listed + 1 := by
  have hl := getD_lt h
  have hv : listed.toList[i]'(by simpa using hl) = false := by simpa [hl] using h
  unfold cnt
  rw [Array.toList_setIfInBounds, List.countP_set (by simpa using hl), hv]
  simp
theorem cnt_le (listed : Array Bool) : cnt listed ≤ listed.size := by
  unfold cnt
  have := List.countP_le_length (p := id) (l := listed.toList)
  simpa using this
theorem cnt_full {listed : Array Bool} (h : cnt listed = listed.size) (j : Nat) : listed.getD j true = true := by
  unfold cnt at h
  have h2 : listed.toList.countP id = listed.toList.length := by simpa using h
  rw [List.countP_eq_length] at h2
  by_cases hj : j < listed.size
  · have := h2 (listed.toList[j]'(by simpa using hj)) (List.getElem_mem _)
    simpa [hj] using this
  · simp [Array.getElem?_eq_none (by omega : listed.size ≤ j)]
theorem getD_two {listed : Array Bool} {j : Nat} (hj : j < listed.size) : listed.getD j true = listed.getD j false := by simp [hj]
theorem binds_eq (e : Edge) : Region.binds .any e = bindsAny e := by
  unfold Region.binds bindsAny
  cases e.ground <;> rfl
section
variable {P : Program} {T : List (Nat × TI)} {F : Funs} {R : Type} {w0 : World} {O : Old} {M : Nat → Prop} {ops : List Oper} {Q : Exit → Act → World → Prop}
theorem ready_iff {listed : Array Bool} {j : Nat} : j ∈ Region.ready .any ops.toArray listed ↔ listed.getD j true = false ∧ ∃ o, ops[j]? = some o ∧ ∀ e ∈ o.after.toList, bindsAny e = true → listed.getD e.on false = true := by
  rw [mem_ready]
  simp only [List.getElem?_toArray, Array.mem_toList_iff, binds_eq]

/-! ### The tail, one behind the other -/
theorem tailOk_spec {p0 : Nat} : ∀ (l : List Nat) (t : Nat), tailOk p0 t l = true → ∀ (i m : Nat), l[i]? = some m → ∀ j, j < t + i → m.testBit j = true ∨ p0.testBit j = true
  | [], t, _, i, m, h, _, _ => by simp at h
  | x :: l, t, ht, i, m, h, j, hj => by
    simp only [tailOk, Bool.and_eq_true] at ht
    cases i with
    | zero =>
      simp at h; subst h
      have h1 := Nat.eq_of_beq_eq_true ht.1
      have h2 := congrArg (fun n => n.testBit j) h1
      have h3 : ∀ a b : Nat, Nat.lor a b = a ||| b := fun _ _ => rfl
      simp only [h3, Nat.testBit_or, Nat.testBit_two_pow_sub_one] at h2
      have hj' : decide (j < t) = true := by simpa using hj
      rw [hj'] at h2
      simpa using h2
    | succ i => exact tailOk_spec l (t + 1) ht.2 i m (by simpa using h) j (by omega)
theorem drawn_tail (hT : TOK P T) (hF : FOK P F) (hG : GlobW F.g w0 O M) (hE : edgesOk 0 ops = true) {p0 n : Nat} (htl : ∀ (t : Nat) (o : Oper), n ≤ t → ops[t]? = some o → ∀ j, j < t → (lget (masks ops []) t 0).testBit j = true ∨ p0.testBit j = true) (hp0 : ∀ j, p0.testBit j = true → j < n)
    {K : St → Option R} {q : R} (hK : ∀ st' φ' a' w', Rel w0 O M φ' st' a' w' → K st' = some q → Q .normal a' w') : ∀ (fuel t : Nat) (listed : Array Bool) {φ : Nat → Option Nat} {st : St} {a : Act} {w : World}, n ≤ t → t ≤ ops.length → listed.size = ops.length →
      (∀ j, j < t → listed.getD j false = true) → (∀ j, t ≤ j → j < ops.length → listed.getD j true = false) → fuel + t = ops.length → Rel w0 O M φ st a w → opsK T F ops (ops.drop t) st K = some q → wpAny P .any ops.toArray Q fuel listed a w := by
  intro fuel
  induction fuel with
  | zero =>
    intro t listed φ st a w hn htl' hsz hlow hhigh hfu k he
    have ht : t = ops.length := by omega
    refine ⟨?_, ?_⟩
    · apply List.eq_nil_iff_forall_not_mem.2
      intro j hj
      have h1 := (ready_iff.1 hj).1
      have hjl := getD_lt h1
      rw [getD_two hjl, hlow j (by omega)] at h1
      cases h1
    · rw [ht, List.drop_length] at he
      exact hK st φ a w k he
  | succ fuel ih =>
    intro t listed φ st a w hn htl' hsz hlow hhigh hfu k he
    have ht : t < ops.length := by omega
    refine ⟨fun hr => ?_, fun i hi => ?_⟩
    · have : t ∈ Region.ready .any ops.toArray listed := ready_iff.2 ⟨hhigh t (Nat.le_refl _) ht, ops[t], List.getElem?_eq_getElem ht, fun e he hb => hlow _ (by
        have := edgesOk_spec ops 0 hE t ops[t] (List.getElem?_eq_getElem ht) e he hb
        omega)⟩
      rw [hr] at this; cases this
    · obtain ⟨hun, o, ho, hedge⟩ := ready_iff.1 hi
      have hil := getD_lt hun
      have hge : t ≤ i := Nat.le_of_not_lt fun h => by rw [getD_two hil, hlow i h] at hun; cases hun
      have hit : i = t := by
        rcases Nat.lt_or_ge t i with h | h
        · exfalso
          have hbit := htl i o (by omega) ho t h
          have : listed.getD t false = true := by
            rcases hbit with hb | hb
            · obtain ⟨e, he', hbe, hh⟩ := (mask_bit hE ho t).1 hb
              have hl := hedge e he' hbe
              rcases hh with hh | hh
              · rw [← hh]; exact hl
              · have h2 := mask_lt hE _ _ hh
                have h3 : e.on < t := Nat.lt_of_not_le fun h4 => by
                  have h5 := edgesOk_spec ops 0 hE i o ho e he' hbe
                  have := hhigh e.on h4 (by omega)
                  rw [getD_two (getD_lt this), hl] at this; cases this
                omega
            · have := hp0 t hb; omega
          have h2 := hhigh t (Nat.le_refl _) ht
          rw [getD_two (getD_lt h2), this] at h2; cases h2
        · omega
      subst hit
      unfold wpOp
      simp only [List.getElem?_toArray, ho]
      have hdrop : ops.drop i = o :: ops.drop (i + 1) := by
        rw [List.drop_eq_getElem_cons ht]
        rw [List.getElem?_eq_getElem ht] at ho
        cases ho; rfl
      rw [hdrop] at he
      unfold opsK at he
      have next : ∀ {φ' : Nat → Option Nat} {st' : St} {a' : Act} {w' : World}, Rel w0 O M φ' st' a' w' → opsK T F ops (ops.drop (i + 1)) st' K = some q → wpAny P .any ops.toArray Q fuel (listed.setIfInBounds i true) a' w' := fun k' he' => by
        refine ih (i + 1) _ (by omega) (by omega) (by simpa using hsz) (fun j hj => ?_) (fun j hj hjl => ?_) (by omega) k' he'
        · by_cases hji : i = j
          · subst hji; simp [hil]
          · exact getD_set_true (hlow j (by omega))
        · rw [getD_set_ne true (by omega)]; exact hhigh j (by omega) hjl
      rcases guardK_ok k he with ⟨hw, st1, k1, h1⟩ | ⟨hw, st1, k1, h1⟩
      · rw [if_pos hw]
        obtain ⟨φ2, k2⟩ := pre_ok o k1
        obtain ⟨st2, h2, h3⟩ := opK_ok hT hF hG k2 h1
        exact .inl (h3.mono fun a' w' ⟨φ', k'⟩ => next k' h2).wp
      · rw [if_neg (by rw [hw]; simp)]
        exact next (skipOp_ok k1) h1

/-! ### The heads, in any order -/
theorem gOk_spec {heads : List Oper} {j : Nat} {env : List V} (h : gOk heads j env = true) : ∃ p d, heads[j]? = some p ∧ p.dst = some d ∧ d < env.length := by
  unfold gOk at h
  split at h
  · rename_i d hd
    obtain ⟨p, hp, hpd⟩ := gdst_some hd
    rw [llen_eq] at h
    exact ⟨p, d, hp, hpd, Nat.le_of_ble_eq_true h⟩
  · cases h
theorem cnt_eq {listed : Array Bool} {n : Nat} (h1 : ∀ j, j < n → listed.getD j false = true) (h2 : ∀ j, n ≤ j → j < listed.size → listed.getD j true = false) (hn : n ≤ listed.size) : cnt listed = n := by
  have : listed.toList = List.replicate n true ++ List.replicate (listed.size - n) false := by
    apply List.ext_getElem
    · simp; omega
    · intro j hj hj'
      have hjs : j < listed.size := by simpa using hj
      by_cases hjn : j < n
      · have := h1 j hjn
        rw [List.getElem_append_left (by simpa using hjn)]
        simp [hjs] at this
        simp [this]
      · have := h2 j (by omega) hjs
        rw [List.getElem_append_right (by simp; omega)]
        simp [hjs] at this
        simp [this]
  unfold cnt
  rw [this, List.countP_append, List.countP_replicate, List.countP_replicate]
  simp
theorem exists_ready (hE : edgesOk 0 ops = true) {listed : Array Bool} (hsz : listed.size = ops.length) : ∀ j, j < ops.length → listed.getD j true = false → Region.ready .any ops.toArray listed ≠ [] := by
  intro j
  induction j using Nat.strongRecOn with
  | _ j ih =>
    intro hj hun
    have hoj : ops[j]? = some ops[j] := List.getElem?_eq_getElem hj
    by_cases hall : ∃ e ∈ ops[j].after.toList, bindsAny e = true ∧ ¬ listed.getD e.on false = true
    case neg =>
      intro hr
      have : j ∈ Region.ready .any ops.toArray listed := ready_iff.2 ⟨hun, ops[j], hoj, fun e he hb => Classical.byContradiction fun hn => hall ⟨e, he, hb, hn⟩⟩
      rw [hr] at this; cases this
    case pos =>
      obtain ⟨e, he, hb, hno⟩ := hall
      have hlt := edgesOk_spec ops 0 hE j ops[j] hoj e he hb
      rw [Nat.zero_add] at hlt
      refine ih e.on hlt (by omega) ?_
      rw [getD_two (by omega)]
      cases h : listed.getD e.on false with
      | false => rfl
      | true => exact absurd h hno
section
variable {heads : List Oper} {ms : List Nat} {acc : Acc} {st0 : St} {S S' : Nat → Prop} {φ : Nat → Option Nat} {a : Act} {w : World}
theorem Inv.fewer (k : Inv w0 O M heads ms acc st0 S φ a w) (h : ∀ j, S' j → S j) : Inv w0 O M heads ms acc st0 S' φ a w :=
  { k with facts := fun m hc hs => k.facts m hc (fun j hj => h j (hs j hj)) }
theorem Inv.full (k : Inv w0 O M heads ms acc st0 S φ a w) (hfr : ∀ i' o' x t, heads[i']? = some o' → isP0 o' = false → o'.dst = some t → (lget acc i' (.any, none)).2 = some x → hget st0.heap t = none ∧ t < st0.heap.length) (hS : ∀ j, j < heads.length → S j) (hlt : ∀ i j, (lget ms i 0).testBit j = true → j < i) : Rel w0 O M φ (hst heads acc st0 (2 ^ heads.length - 1)) a w := by
  have f := k.facts (2 ^ heads.length - 1) (fun l hl j hj => by
    rw [Nat.testBit_two_pow_sub_one] at hl ⊢
    have := hlt l j hj
    simp at hl ⊢; omega) (fun j hj => by rw [Nat.testBit_two_pow_sub_one] at hj; exact hS j (by simpa using hj))
  have hphi : phim heads acc φ (2 ^ heads.length - 1) = φ := by
    funext t
    unfold phim
    rw [if_neg]
    rintro ⟨i, o, x, hi, _, _, _, hb⟩
    rw [Nat.testBit_two_pow_sub_one] at hb
    have := (List.getElem?_eq_some_iff.1 hi).1
    simp at hb; omega
  have hM : Mm M heads acc φ (2 ^ heads.length - 1) = M := by
    funext b
    refine propext ⟨fun h => ?_, fun h => .inl h⟩
    rcases h with h | ⟨t, ht, hn⟩
    · exact h
    · rw [hphi, ht] at hn; cases hn
  have hr := k.hrel f
  rw [hM, hphi] at hr
  have henv := f.env
  rw [hphi] at henv
  exact { toHRel := hr, len := by show (restrE _ _ _ _ _ _).length = _; rw [restrE_len]; exact k.len, env := henv, defers := k.defers, frm := k.frm, fresh := k.fresh, pin := fun t b ht => (by
    obtain ⟨p1, p2, cs, p3⟩ := k.pin t b ht
    refine ⟨p1, by show InPin (restrE _ _ _ _ _ _).length t; rw [restrE_len]; exact p2, cs, ?_⟩
    rw [← p3]
    refine restrH_other heads 0 st0.heap (fun i o x hi hp hd hx => ?_)
    rw [Nat.zero_add] at hx
    have := (hfr i o x t hi hp hd hx).1
    rw [p3] at this; cases this) }
end
theorem drawn_heads (hT : TOK P T) (hF : FOK P F) (hG : GlobW F.g w0 O M) (hE : edgesOk 0 ops = true) {p0 n : Nat} (htl : ∀ (t : Nat) (o : Oper), n ≤ t → ops[t]? = some o → ∀ j, j < t → (lget (masks ops []) t 0).testBit j = true ∨ p0.testBit j = true) (hp0 : ∀ j, p0.testBit j = true → j < n) (hp0s : ∀ j, p0.testBit j = true → ∃ o, (ops.take n)[j]? = some o ∧ isP0 o = true)
    (hn : n ≤ ops.length) {acc : Acc} {st0 : St} (hnd : nodupN (dsts (ops.take n)) = true) (hlen : acc.length = n)
    (hHF : ∀ (j : Nat) (o : Oper), (ops.take n)[j]? = some o → HF T F (ops.take n) (masks ops []) st0 acc j o)
    (hfr : ∀ i' o' x t, (ops.take n)[i']? = some o' → isP0 o' = false → o'.dst = some t → (lget acc i' (.any, none)).2 = some x → hget st0.heap t = none ∧ t < st0.heap.length)
    {K : St → Option R} {q : R} (hfin : opsK T F ops (ops.drop n) (hst (ops.take n) acc st0 (2 ^ n - 1)) K = some q)
    (hK : ∀ st' φ' a' w', Rel w0 O M φ' st' a' w' → K st' = some q → Q .normal a' w') : ∀ (fuel : Nat) (listed : Array Bool) {φ : Nat → Option Nat} {a : Act} {w : World}, listed.size = ops.length → fuel + cnt listed = ops.length →
      (∀ j, n ≤ j → j < ops.length → listed.getD j true = false) → (∀ j o, (ops.take n)[j]? = some o → isP0 o = true → listed.getD j false = true) →
      (∀ j, listed.getD j false = true → ∀ l, (lget (masks ops []) j 0).testBit l = true → listed.getD l false = true) →
      Inv w0 O M (ops.take n) (masks ops []) acc st0 (fun j => listed.getD j false = true) φ a w → wpAny P .any ops.toArray Q fuel listed a w := by
  intro fuel
  have hhl : (ops.take n).length = n := by simp; omega
  have hlt : ∀ i j, (lget (masks ops []) i 0).testBit j = true → j < i := mask_lt hE
  have full : ∀ (fuel : Nat) (listed : Array Bool) {φ : Nat → Option Nat} {a : Act} {w : World}, listed.size = ops.length → fuel + cnt listed = ops.length → (∀ j, n ≤ j → j < ops.length → listed.getD j true = false) →
      (∀ j, j < n → listed.getD j false = true) → Inv w0 O M (ops.take n) (masks ops []) acc st0 (fun j => listed.getD j false = true) φ a w → wpAny P .any ops.toArray Q fuel listed a w := by
    intro fuel listed φ a w hsz hfu hhigh hall k
    have hc := cnt_eq hall (fun j hj hjs => hhigh j hj (by omega)) (by omega)
    have hr := k.full hfr (fun j hj => hall j (by omega)) hlt
    rw [hhl] at hr
    exact drawn_tail hT hF hG hE htl hp0 hK fuel n listed (Nat.le_refl _) hn hsz hall hhigh (by omega) hr hfin
  induction fuel with
  | zero =>
    intro listed φ a w hsz hfu hhigh hp0l hcl k
    refine full 0 listed hsz hfu hhigh (fun j hj => ?_) k
    have := cnt_full (listed := listed) (by omega) j
    rw [getD_two (by omega)] at this; exact this
  | succ fuel ih =>
    intro listed φ a w hsz hfu hhigh hp0l hcl k
    by_cases hall : ∀ j, j < n → listed.getD j false = true
    · exact full _ listed hsz hfu hhigh hall k
    · have hall' := hall
      obtain ⟨j0, hj0, hno⟩ : ∃ j0, j0 < n ∧ ¬ listed.getD j0 false = true := Classical.byContradiction fun hn => hall fun j hj => Classical.byContradiction fun hnn => hn ⟨j, hj, hnn⟩
      have hun0 : listed.getD j0 true = false := by
        rw [getD_two (by omega)]
        cases h : listed.getD j0 false with
        | false => rfl
        | true => exact absurd h hno
      refine ⟨fun hr => absurd hr (exists_ready hE hsz j0 (by omega) hun0), fun i hi => ?_⟩
      obtain ⟨hun, o, ho, hedge⟩ := ready_iff.1 hi
      have hil := getD_lt hun
      have hmi : ∀ j, (lget (masks ops []) i 0).testBit j = true → listed.getD j false = true := fun j hj => by
        obtain ⟨e, he', hbe, hh⟩ := (mask_bit hE ho j).1 hj
        have hl := hedge e he' hbe
        rcases hh with hh | hh
        · rw [← hh]; exact hl
        · exact hcl _ hl j hh
      have hp0l' : ∀ j, p0.testBit j = true → n ≤ i → listed.getD j false = true := fun j hj hni => by
        obtain ⟨p, hp, hpp⟩ := hp0s j hj
        exact hp0l j p hp hpp
      have hin : i < n := Nat.lt_of_not_le fun hni => hall' fun j hj => by
        rcases htl i o hni ho j (by omega) with hb | hb
        · exact hmi j hb
        · exact hp0l' j hb hni
      have hoh : (ops.take n)[i]? = some o := by rw [List.getElem?_take_of_lt hin]; exact ho
      have hnp : isP0 o = false := by
        cases hp : isP0 o with
        | false => rfl
        | true => have := hp0l i o hoh hp; rw [getD_two hil, this] at hun; cases hun
      have hunf : ¬ listed.getD i false = true := fun h => by rw [getD_two hil, h] at hun; cases hun
      have s : Step (ops.take n) (masks ops []) acc st0 i o (lget acc i (.any, none)).1 (lget acc i (.any, none)).2 :=
        { at_ := hoh, np := hnp, res := rfl, nodup := hnd, fresh := hfr, closed := mask_closed hE i, self := by
            cases h : (lget (masks ops []) i 0).testBit i with
            | false => rfl
            | true => have := hlt i i h; omega }
      have next : ∀ {v : Value} {w' : World}, Ext w w' → Made (Mm M (ops.take n) acc φ (lget (masks ops []) i 0)) (phim (ops.take n) acc φ (lget (masks ops []) i 0)) (hst (ops.take n) acc st0 (lget (masks ops []) i 0)).heap w o.dst (lget acc i (.any, none)).1 (lget acc i (.any, none)).2 v w' →
          wpAny P .any ops.toArray Q fuel (listed.setIfInBounds i true) (a.put o.dst v) w' := fun he hM => by
        obtain ⟨φ', k'⟩ := k.step s hmi (fun j hj l hl => hcl j hj l hl) hunf he hM
        have hback : ∀ j, (listed.setIfInBounds i true).getD j false = true → listed.getD j false = true ∨ j = i := fun j hj => by
          by_cases hji : i = j
          · exact .inr hji.symm
          · rw [getD_set_ne false hji] at hj; exact .inl hj
        refine ih _ (by simpa using hsz) (by rw [cnt_set hun]; omega) (fun j hj hjl => by rw [getD_set_ne true (by omega)]; exact hhigh j hj hjl) (fun j p hj hp => getD_set_true (hp0l j p hj hp)) (fun j hj l hl => ?_) (k'.fewer hback)
        rcases hback j hj with h | h
        · exact getD_set_true (hcl j h l hl)
        · subst h; exact getD_set_true (hmi l hl)
      have f := k.facts _ (mask_closed hE i) hmi
      have hrel := k.hrel f
      have hev : ∀ x, VOK (phim (ops.take n) acc φ (lget (masks ops []) i 0)) (hst (ops.take n) acc st0 (lget (masks ops []) i 0)).heap w (Imm (Mm M (ops.take n) acc φ (lget (masks ops []) i 0)) (phim (ops.take n) acc φ (lget (masks ops []) i 0))) (ev (hst (ops.take n) acc st0 (lget (masks ops []) i 0)).env x) (a.eval x) := fun x => by
        rw [imm_m]
        cases x with
        | tmp t => exact f.env t
        | const v => exact ofConst_ok v
        | global g => trivial
        | func f => trivial
      have yes : RanA T F (ops.take n) (masks ops []) st0 acc i o → Region.wanted o (yielded ops.toArray a.tmps) = true → wpOp P ops.toArray Q i (wpAny P .any ops.toArray Q fuel (listed.setIfInBounds i true)) a w := fun hr hw => by
        unfold wpOp
        simp only [List.getElem?_toArray, ho]
        rw [if_pos hw]
        obtain ⟨u, nb, h1, h2⟩ := opA_ok hT hF.v (by rw [imm_m]; exact hG.ok k.frm k.fresh) hrel (env := rhoE (ops.take n) (lget (masks ops []) i 0) acc st0.env) (fun x => by rw [rhoE_eq _ _ hnd]; exact hev x) (o := o) (K := fun u nb => some (u, nb)) hr
        have h1 := Option.some.inj h1
        rw [← h1] at next
        exact .inl (Does.of_yields h2 (fun v w' he hm => next he hm)).wp
      have no : lget acc i (.any, none) = (.skip, none) → Region.wanted o (yielded ops.toArray a.tmps) = false → wpOp P ops.toArray Q i (wpAny P .any ops.toArray Q fuel (listed.setIfInBounds i true)) a w := fun hr hw => by
        unfold wpOp
        simp only [List.getElem?_toArray, ho]
        rw [if_neg (by rw [hw]; simp)]
        rw [hr] at next
        exact next (Ext.refl w) (rfl : undef = undef)
      rcases (hHF i o hoh).2 hnp with ⟨hg, hr⟩ | ⟨j, want, hg, hbit, hgo, hh⟩
      · exact yes hr (by simp [Region.wanted, hg])
      · obtain ⟨p, d, hp, hpd, hdl⟩ := gOk_spec hgo
        have hjn : j < n := by have := hlt i j hbit; omega
        have hpo : ops[j]? = some p := by rw [List.getElem?_take_of_lt hjn] at hp; exact hp
        have hgd : gdst ops j = some d := by unfold gdst; rw [lget_eq, hpo]; exact hpd
        have hval : isP0 p = false → VOK (phim (ops.take n) acc φ (lget (masks ops []) i 0)) (hst (ops.take n) acc st0 (lget (masks ops []) i 0)).heap w (Imm M φ) (lget acc j (.any, none)).1 (a.tmps.getD d undef) := fun hpp => by
          have h1 := f.env d
          have h2 := restrE_at (ops := ops.take n) (acc := acc) (m := lget (masks ops []) i 0) (ops.take n) 0 j st0.env p hp hpp hpd hnd hdl
          rw [Nat.zero_add, if_pos hbit] at h2
          rw [← h2]; exact h1
        have hnpj : (lget acc j (.any, none)).1 ≠ .any → isP0 p = false := fun hne => by
          cases hpp : isP0 p with
          | false => rfl
          | true => have := (hHF j p hp).1 hpp; rw [this] at hne; exact absurd rfl hne
        rcases hh with ⟨b, hb, hh⟩ | ⟨hb, hr⟩
        · have hv := hval (hnpj (by rw [hb]; simp))
          rw [hb] at hv
          have hy := yielded_bool hgd (show a.tmps.getD d undef = .bool b from hv)
          rcases hh with ⟨hbw, hr⟩ | ⟨hbw, hr⟩
          · exact yes hr (by simp [Region.wanted, hg, hy, hbw])
          · exact no hr (by simp [Region.wanted, hg, hy, hbw])
        · have hv := hval (hnpj (by rw [hb]; simp))
          rw [hb] at hv
          have hy := yielded_undef hgd (show a.tmps.getD d undef = undef from hv)
          exact no hr (by simp [Region.wanted, hg, hy])
end
end Go.AM
