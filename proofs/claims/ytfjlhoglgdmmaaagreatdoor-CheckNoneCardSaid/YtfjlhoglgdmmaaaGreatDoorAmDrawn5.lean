/- Regions whose order Go leaves open: the whole of it. -/
import Derived.Test.YtfjlhoglgdmmaaaGreatDoorAmDrawn4
set_option autoImplicit false
set_option linter.unusedVariables false
set_option linter.unusedSimpArgs false
namespace Go.AM
section
variable {P : Program} {T : List (Nat × TI)} {F : Funs} {R : Type} {w0 : World} {O : Old} {M : Nat → Prop} {ops : List Oper} {Q : Exit → Act → World → Prop}
theorem freshNames_spec : ∀ (l : List Oper) (acc : Acc) (h : Heap), freshNames l acc h = true → ∀ (i : Nat) (o : Oper) (x : Blk) (t : Nat), l[i]? = some o → o.dst = some t → (lget acc i (.any, none)).2 = some x → hget h t = none ∧ t < h.length
  | [], acc, h, _, i, o, x, t, hi, _, _ => by simp at hi
  | p :: l, [], h, _, i, o, x, t, hi, _, hx => by rw [lget_nil] at hx; cases hx
  | p :: l, (u, nb) :: acc, h, hf, 0, o, x, t, hi, hd, hx => by
    simp at hi; subst hi
    simp only [lget] at hx
    subst hx
    simp only [freshNames, Bool.and_eq_true] at hf
    rw [hd] at hf
    have h1 := hf.1
    simp only at h1
    split at h1
    · rename_i hn; exact ⟨hn, room_lt h1⟩
    · cases h1
  | p :: l, (u, nb) :: acc, h, hf, i + 1, o, x, t, hi, hd, hx => by
    refine freshNames_spec l acc h ?_ i o x t (by simpa using hi) hd hx
    cases nb with
    | none => exact hf
    | some y => simp only [freshNames, Bool.and_eq_true] at hf; exact hf.2
theorem p0Mask_spec : ∀ (l : List Oper) (i j : Nat), (p0Mask i l).testBit j = true → i ≤ j ∧ ∃ o, l[j - i]? = some o ∧ isP0 o = true
  | [], i, j, h => by simp [p0Mask] at h
  | o :: l, i, j, h => by
    have rest : (p0Mask (i + 1) l).testBit j = true → i ≤ j ∧ ∃ p, (o :: l)[j - i]? = some p ∧ isP0 p = true := fun h => by
      obtain ⟨h1, p, hp, hpp⟩ := p0Mask_spec l (i + 1) j h
      refine ⟨by omega, p, ?_, hpp⟩
      rw [show j - i = (j - (i + 1)) + 1 by omega]; simpa using hp
    unfold p0Mask at h
    cases hp : isP0 o with
    | false => rw [hp, cond_false] at h; exact rest h
    | true =>
      rw [hp, cond_true] at h
      have h1 : ∀ a b : Nat, Nat.lor a b = a ||| b := fun _ _ => rfl
      rw [h1, Nat.testBit_or, Nat.testBit_two_pow, Bool.or_eq_true] at h
      rcases h with h | h
      · have : i = j := by simpa using h
        subst this
        exact ⟨Nat.le_refl _, o, by simp, hp⟩
      · exact rest h
theorem p0sFree_spec {arr : Array Oper} {listed : Array Bool} : ∀ (l : List Oper) (i : Nat), p0sFree arr listed i l = true → ∀ (j : Nat) (o : Oper), l[j]? = some o → isP0 o = true → Region.free .any arr listed (i + j) = true
  | [], i, _, j, o, h, _ => by simp at h
  | p :: l, i, hf, j, o, h, hp => by
    simp only [p0sFree, Bool.and_eq_true] at hf
    cases j with
    | zero => simp at h; subst h; have := hf.1; rw [hp] at this; exact this
    | succ j =>
      have := p0sFree_spec l (i + 1) hf.2 j o (by simpa using h) hp
      rw [show i + (j + 1) = i + 1 + j by omega]; exact this
theorem isP0_spec {o : Oper} (h : isP0 o = true) : ∃ x d, o.op = .move (.tmp x) ∧ o.after.toList = [] ∧ o.guard = none ∧ o.dst = some d := by
  unfold isP0 at h
  split at h
  · rename_i x d h1 h2 h3 h4; exact ⟨x, d, h1, h2, h3, h4⟩
  · cases h
/-- The copies, ahead of all else. -/
theorem p0_go (hns : Region.noSelect ops.toArray = true) (hQp : ∀ c a w, ¬ Q (.panic c) a w) {heads : List Oper} (hh : ∀ (j : Nat) (o : Oper), heads[j]? = some o → ops[j]? = some o)
    (hfree : ∀ (j : Nat) (o : Oper), heads[j]? = some o → isP0 o = true → Region.free .any ops.toArray (Array.replicate ops.length false) j = true) {φ : Nat → Option Nat} {h : Heap} {w : World} {envF : List V}
    (hgo : ∀ (fuel : Nat) (listed : Array Bool) (a : Act), listed.size = ops.length → fuel + cnt listed = ops.length → (∀ j, listed.getD j false = true ↔ ∃ o, heads[j]? = some o ∧ isP0 o = true) →
      Rel w0 O M φ ⟨envF, h⟩ a w → wpAny P .any ops.toArray Q fuel listed a w) :
    ∀ (l : List Oper) (i : Nat) (fuel : Nat) (listed : Array Bool) (a : Act) (env : List V), heads.drop i = l → p0Env l env = envF → listed.size = ops.length → fuel + cnt listed = ops.length →
      (∀ j, listed.getD j false = true ↔ j < i ∧ ∃ o, heads[j]? = some o ∧ isP0 o = true) → Rel w0 O M φ ⟨env, h⟩ a w → wpAny P .any ops.toArray Q fuel listed a w
  | [], i, fuel, listed, a, env, hl, henv, hsz, hfu, hli, k => by
    refine hgo fuel listed a hsz hfu (fun j => ?_) (by rw [← henv]; exact k)
    rw [hli j]
    refine ⟨fun h => h.2, fun ⟨o, ho, hp⟩ => ⟨?_, o, ho, hp⟩⟩
    have h1 := congrArg List.length hl
    simp at h1
    have := (List.getElem?_eq_some_iff.1 ho).1
    omega
  | o :: l, i, fuel, listed, a, env, hl, henv, hsz, hfu, hli, k => by
    have hoi : heads[i]? = some o := by
      have := congrArg (fun x => x[0]?) hl
      simpa using this
    have hl' : heads.drop (i + 1) = l := by
      have := congrArg (List.drop 1) hl
      simpa [Nat.add_comm] using this
    unfold p0Env at henv
    cases hp : isP0 o with
    | false =>
      rw [hp, cond_false] at henv
      refine p0_go hns hQp hh hfree hgo l (i + 1) fuel listed a env hl' henv hsz hfu (fun j => ?_) k
      rw [hli j]
      refine ⟨fun h => ⟨by omega, h.2⟩, fun ⟨hlt, p, hpj, hpp⟩ => ⟨?_, p, hpj, hpp⟩⟩
      rcases Nat.lt_or_ge j i with h | h
      · exact h
      · have : j = i := by omega
        subst this
        rw [hoi] at hpj; cases hpj
        rw [hp] at hpp; cases hpp
    | true =>
      rw [hp, cond_true] at henv
      obtain ⟨x, d, h1, h2, h3, h4⟩ := isP0_spec hp
      rw [h1, h4] at henv
      simp only at henv
      have hopi := hh i o hoi
      have hil : i < listed.size := by rw [hsz]; exact (List.getElem?_eq_some_iff.1 hopi).1
      have hun : listed.getD i true = false := by
        rw [getD_two hil]
        cases hx : listed.getD i false with
        | false => rfl
        | true => have := ((hli i).1 hx).1; omega
      have hcs := cnt_set hun
      have hcl := cnt_le (listed.setIfInBounds i true)
      have hsz' : (listed.setIfInBounds i true).size = ops.length := by simpa using hsz
      obtain ⟨f, rfl⟩ : ∃ f, fuel = f + 1 := ⟨fuel - 1, by omega⟩
      refine wpAny_first (oi := o) (v := a.eval (.tmp x)) (by simpa using hopi) (Region.noSelect_spec hns) (fun c a w hq => absurd hq (hQp _ _ _)) f listed a w (fun j oj hj hne _ hno => ?_) (ready_iff.2 ⟨hun, o, hopi, fun e he => by rw [h2] at he; cases he⟩) (.inl ⟨by simp [Region.wanted, h3], fun w => by unfold execOp; rw [h1]; rfl⟩) ?_
      · refine Region.free_spec (by simpa using hopi) (hfree i o hoi hp) j oj hj hne ?_ hno
        have : j < ops.length := by
          have := (Array.getElem?_eq_some_iff.1 hj).1
          simpa using this
        simp [this]
      · refine p0_go hns hQp hh hfree hgo l (i + 1) f _ _ _ hl' henv hsz' (by omega) (fun j => ?_) (by rw [h4]; exact k.put (k.ev (.tmp x)))
        by_cases hij : i = j
        · subst hij
          simp only [show (listed.setIfInBounds i true).getD i false = true by simp [hil], true_iff]
          exact ⟨by omega, o, hoi, hp⟩
        · rw [getD_set_ne false hij, hli j]
          exact ⟨fun h => ⟨by omega, h.2⟩, fun h => ⟨by omega, h.2⟩⟩
/-- What is true ahead of the heads. -/
theorem Inv.init {heads : List Oper} {ms : List Nat} {acc : Acc} {st0 : St} {S : Nat → Prop} {φ : Nat → Option Nat} {a : Act} {w : World} (k : Rel w0 O M φ st0 a w) (hn : nodupN (dsts heads) = true)
    (hS : ∀ j, S j → ∃ o, heads[j]? = some o ∧ isP0 o = true) (hfr : ∀ i' o' x t, heads[i']? = some o' → isP0 o' = false → o'.dst = some t → (lget acc i' (.any, none)).2 = some x → hget st0.heap t = none ∧ t < st0.heap.length) :
    Inv w0 O M heads ms acc st0 S φ a w := by
  refine ⟨k.len, k.defers, k.frm, k.fresh, k.pin, k.toHRel.inj, k.toHRel.own, k.toHRel.old, fun m hc hs => ?_⟩
  have hout : ∀ i o, heads[i]? = some o → isP0 o = false → m.testBit i = false := fun i o hi hp => by
    cases hb : m.testBit i with
    | false => rfl
    | true =>
      obtain ⟨p, hpj, hpp⟩ := hS i (hs i hb)
      rw [hi] at hpj; cases hpj
      rw [hp] at hpp; cases hpp
  have hphi : phim heads acc φ m = φ := by
    funext t
    unfold phim
    split
    · rename_i hh
      obtain ⟨i, o, x, hi, hp, hd, hx, _⟩ := hh
      exact (k.toHRel.non t (hfr i o x t hi hp hd hx).1).symm
    · rfl
  have hheap : ∀ t, hget (hst heads acc st0 m).heap t = hget st0.heap t := fun t => restrH_other heads 0 st0.heap (fun i o x hi hp _ _ => by rw [Nat.zero_add]; exact hout i o hi hp)
  have hL : Later φ st0.heap w (Imm M φ) φ (hst heads acc st0 m).heap w (Imm M φ) := Later.of_ext (Ext.refl w) ⟨fun t b hb => ⟨b, by rw [hheap]; exact hb, likeB.refl b, rfl⟩⟩ (fun b hb _ => hb)
  refine ⟨fun t b hb => ?_, fun t ht => ?_, fun t => ?_⟩
  · rw [hheap] at hb; rw [hphi]; exact (k.toHRel.blk t b hb).of_ext (Ext.refl w) hL
  · rw [hheap] at ht; rw [hphi]; exact k.toHRel.non t ht
  · rw [hphi]
    by_cases hex : ∃ (i : Nat) (o : Oper), heads[i]? = some o ∧ isP0 o = false ∧ o.dst = some t
    · obtain ⟨i, o, hi, hp, hd⟩ := hex
      by_cases hl : t < st0.env.length
      · have h1 := restrE_at (ops := heads) (acc := acc) (m := m) heads 0 i st0.env o hi hp hd hn hl
        rw [Nat.zero_add, hout i o hi hp] at h1
        show VOK φ _ w _ (lget (restrE heads m 0 heads acc st0.env) t .any) _
        rw [h1]; trivial
      · rw [hst_env_far hl]; trivial
    · have h1 := restrE_other (ops := heads) (acc := acc) (m := m) (t := t) heads 0 st0.env (fun p hp hnp hpd => by
        obtain ⟨j, hj⟩ := List.getElem?_of_mem hp
        exact hex ⟨j, p, hj, hnp, hpd⟩)
      show VOK φ _ w _ (lget (restrE heads m 0 heads acc st0.env) t .any) _
      rw [h1]
      exact VOK.later hL (k.env t)
theorem Rel.grow {φ : Nat → Option Nat} {st : St} {a : Act} {w w' : World} (k : Rel w0 O M φ st a w) (he : Ext w w') : Rel w0 O M φ st a w' :=
  { toHRel := k.toHRel.grow he, len := k.len, env := fun t => VOK.later (Later.grow he (Sub.refl _ _) (fun _ _ h _ => h)) (k.env t), defers := k.defers, frm := k.frm.ext he, fresh := k.fresh, pin := k.pin }
theorem drawnK_ok (hm : P.follows .mixedOrders = true) (hT : TOK P T) (hF : FOK P F) (hG : GlobW F.g w0 O M) (hQp : ∀ c a w, ¬ Q (.panic c) a w) {K : St → Option R} {q : R} (hK : ∀ st' φ' a' w', Rel w0 O M φ' st' a' w' → K st' = some q → Q .normal a' w')
    {φ : Nat → Option Nat} {st : St} {a : Act} {w : World} (k : Rel w0 O M φ st a w) (he : drawnK T F ops st K = some q) (id : Nat) : (Code.region id ops.toArray true).wp P Q a w := by
  unfold drawnK at he
  simp only at he
  cases hg : (nodupN (dsts (ltake ops (headLen F ops))) && (tailOk (p0Mask 0 (ltake ops (headLen F ops))) (headLen F ops) (ldrop (masks ops []) (headLen F ops)) && (edgesOk 0 ops && (Region.noSelect ops.toArray && p0sFree ops.toArray (Array.replicate ops.length false) 0 (ltake ops (headLen F ops)))))) with
  | false => rw [hg, cond_false] at he; cases he
  | true =>
  rw [hg, cond_true] at he
  simp only [Bool.and_eq_true, ltake_eq, ldrop_eq] at hg he
  obtain ⟨hnd, htail, hE, hns, hfree⟩ := hg
  have hms := (masks_spec ops []).1
  have hhl : headLen F ops ≤ ops.length := by
    clear he hnd htail hE hns hfree hms
    induction ops with
    | nil => simp [headLen]
    | cons o l ih => unfold headLen; cases isB F o <;> simp; omega
  have hlt := mask_lt hE
  obtain ⟨acc, h1, h2, _, h4⟩ := headsK_run (hlt) (ops.take (headLen F ops)) [] 0 rfl he
  cases hfn : freshNames (ops.take (headLen F ops)) acc st.heap with
  | false => rw [hfn, cond_false] at h1; cases h1
  | true =>
  rw [hfn, cond_true] at h1
  have htk : (ops.take (headLen F ops)).length = headLen F ops := by simp; omega
  have hfr : ∀ i' o' x t, (ops.take (headLen F ops))[i']? = some o' → isP0 o' = false → o'.dst = some t → (lget acc i' (.any, none)).2 = some x → hget st.heap t = none ∧ t < st.heap.length :=
    fun i o x t hi _ hd hx => freshNames_spec _ acc st.heap hfn i o x t hi hd hx
  have hh : ∀ (j : Nat) (o : Oper), (ops.take (headLen F ops))[j]? = some o → ops[j]? = some o := fun j o hj => by
    have hj' := (List.getElem?_eq_some_iff.1 hj).1
    rw [List.getElem?_take_of_lt (by omega)] at hj; exact hj
  refine wp_region_any hm ?_
  have hsz : ops.toArray.size = ops.length := by simp
  rw [hsz]
  refine p0_go (heads := ops.take (headLen F ops)) (envF := p0Env (ops.take (headLen F ops)) st.env) hns hQp hh (fun j o hj hp => by
      have := p0sFree_spec _ 0 hfree j o hj hp
      rw [Nat.zero_add] at this; exact this) (fun fuel listed a' hlsz hfu hli k' => ?_) (ops.take (headLen F ops)) 0 ops.length (Array.replicate ops.length false) a st.env (by simp) rfl (by simp) (by simp [cnt]) (fun j => ?_) (k.grow (Ext.drew w))
  · have hinv := Inv.init (heads := ops.take (headLen F ops)) (ms := masks ops []) (acc := acc) (S := fun j => listed.getD j false = true) k' hnd (fun j hj => (hli j).1 hj) hfr
    refine drawn_heads (st0 := ⟨p0Env (ops.take (headLen F ops)) st.env, st.heap⟩) (p0 := p0Mask 0 (ops.take (headLen F ops))) hT hF hG hE (fun t o hnt ho j hj => ?_) (fun j hj => ?_) (fun j hj => ?_) hhl hnd (by rw [h2]; omega) (fun j o hj => ?_) hfr h1 hK fuel listed hlsz hfu (fun j hj hjl => ?_) (fun j o hj hp => (hli j).2 ⟨o, hj, hp⟩) (fun j hj l hl => ?_) hinv
    · have htl : t < (masks ops []).length := by rw [hms]; simp; exact (List.getElem?_eq_some_iff.1 ho).1
      refine tailOk_spec _ _ htail (t - headLen F ops) (lget (masks ops []) t 0) ?_ j (by omega)
      rw [List.getElem?_drop, show headLen F ops + (t - headLen F ops) = t by omega, lget_eq, List.getElem?_eq_getElem htl]
      rfl
    · obtain ⟨_, o, ho, _⟩ := p0Mask_spec _ 0 j hj
      have := (List.getElem?_eq_some_iff.1 ho).1
      omega
    · obtain ⟨_, o, ho, hp⟩ := p0Mask_spec _ 0 j hj
      exact ⟨o, by simpa using ho, hp⟩
    · have := h4 j o hj
      rw [Nat.zero_add] at this; exact this
    · rw [getD_two (by omega)]
      cases hx : listed.getD j false with
      | false => rfl
      | true =>
        obtain ⟨o, ho, _⟩ := (hli j).1 hx
        have := (List.getElem?_eq_some_iff.1 ho).1
        omega
    · obtain ⟨o, ho, hp⟩ := (hli j).1 hj
      obtain ⟨x, d, _, haf, _⟩ := isP0_spec hp
      obtain ⟨e, he', _⟩ := (mask_bit hE (hh j o ho) l).1 hl
      rw [haf] at he'; cases he'
  · refine ⟨fun h => ?_, fun h => absurd h.1 (by omega)⟩
    by_cases hjl : j < ops.length <;> simp [hjl] at h
end
end Go.AM
