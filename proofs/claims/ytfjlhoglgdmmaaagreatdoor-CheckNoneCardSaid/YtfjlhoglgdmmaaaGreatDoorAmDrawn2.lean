/- Regions whose order Go leaves open: what stays true while they run. -/
import Derived.Test.YtfjlhoglgdmmaaaGreatDoorAmDrawn
set_option autoImplicit false
set_option linter.unusedVariables false
set_option linter.unusedSimpArgs false
namespace Go.AM
/-- The state that those in m have made. -/
def hst (heads : List Oper) (acc : Acc) (st0 : St) (m : Nat) : St := { env := restrE heads m 0 heads acc st0.env, heap := restrH m 0 heads acc st0.heap }
/-- A name that one of the others has made. -/
def Hid (heads : List Oper) (acc : Acc) (m t : Nat) : Prop := ∃ i o x, heads[i]? = some o ∧ isP0 o = false ∧ o.dst = some t ∧ (lget acc i (.any, none)).2 = some x ∧ m.testBit i = false
open Classical in
noncomputable def phim (heads : List Oper) (acc : Acc) (φ : Nat → Option Nat) (m t : Nat) : Option Nat := if Hid heads acc m t then none else φ t
def Closed (ms : List Nat) (m : Nat) : Prop := ∀ k, m.testBit k = true → ∀ j, (lget ms k 0).testBit j = true → m.testBit j = true
structure Facts (M : Nat → Prop) (heads : List Oper) (acc : Acc) (st0 : St) (φ : Nat → Option Nat) (a : Act) (w : World) (m : Nat) : Prop where
  blk : ∀ t b, hget (hst heads acc st0 m).heap t = some b → BlkOK (phim heads acc φ m) (hst heads acc st0 m).heap w (Imm M φ) (phim heads acc φ m t) b
  non : ∀ t, hget (hst heads acc st0 m).heap t = none → phim heads acc φ m t = none
  env : ∀ t, VOK (phim heads acc φ m) (hst heads acc st0 m).heap w (Imm M φ) (lget (hst heads acc st0 m).env t .any) (a.tmps.getD t undef)
structure Inv (w0 : World) (O : Old) (M : Nat → Prop) (heads : List Oper) (ms : List Nat) (acc : Acc) (st0 : St) (S : Nat → Prop) (φ : Nat → Option Nat) (a : Act) (w : World) : Prop where
  len : st0.env.length = a.tmps.size
  defers : a.defers = []
  frm : Frame w0 O w
  fresh : ∀ s b, φ s = some b → O.blk b ∨ w0.heap.size ≤ b
  pin : ∀ s b, O.pin s = some b → φ s = some b ∧ InPin st0.env.length s ∧ ∃ cs, hget st0.heap s = some (.row cs)
  inj : ∀ s t b, φ s = some b → φ t = some b → s = t
  own : ∀ s b, φ s = some b → ¬ M b ∧ b < w.heap.size
  old : ∀ b, M b → b < w.heap.size
  facts : ∀ m, Closed ms m → (∀ i, m.testBit i = true → S i) → Facts M heads acc st0 φ a w m
section
variable {P : Program} {T : List (Nat × TI)} {F : Funs} {w0 : World} {O : Old} {M : Nat → Prop} {heads : List Oper} {ms : List Nat} {acc : Acc} {st0 : St} {S : Nat → Prop} {φ : Nat → Option Nat} {a : Act} {w : World} {m : Nat}
theorem phim_some {t b : Nat} (h : phim heads acc φ m t = some b) : φ t = some b ∧ ¬ Hid heads acc m t := by
  unfold phim at h
  split at h
  · cases h
  · rename_i hn; exact ⟨h, hn⟩
/-- Others' blocks, seen from m. -/
def Mm (M : Nat → Prop) (heads : List Oper) (acc : Acc) (φ : Nat → Option Nat) (m b : Nat) : Prop := M b ∨ ∃ t, φ t = some b ∧ phim heads acc φ m t = none
theorem imm_m : Imm (Mm M heads acc φ m) (phim heads acc φ m) = Imm M φ := by
  funext b
  refine propext ⟨fun h => ⟨fun hM => h.1 (.inl hM), fun s hs => ?_⟩, fun h => ⟨fun hM => ?_, fun s hs => h.2 s (phim_some hs).1⟩⟩
  · cases hp : phim heads acc φ m s with
    | none => exact h.1 (.inr ⟨s, hs, hp⟩)
    | some b' =>
      have := (phim_some hp).1
      rw [hs] at this
      cases this
      exact h.2 s hp
  · rcases hM with hM | ⟨t, ht, _⟩
    · exact h.1 hM
    · exact h.2 t ht
theorem Inv.hrel (k : Inv w0 O M heads ms acc st0 S φ a w) (f : Facts M heads acc st0 φ a w m) : HRel (Mm M heads acc φ m) (phim heads acc φ m) (hst heads acc st0 m).heap w where
  blk := fun t b hb => by rw [imm_m]; exact f.blk t b hb
  non := f.non
  inj := fun s t b hs ht => k.inj s t b (phim_some hs).1 (phim_some ht).1
  own := fun s b hs => by
    have hs1 := (phim_some hs).1
    refine ⟨fun hM => ?_, (k.own s b hs1).2⟩
    rcases hM with hM | ⟨t, ht, hp⟩
    · exact (k.own s b hs1).1 hM
    · have := k.inj s t b hs1 ht
      subst this
      rw [hp] at hs
      cases hs
  old := fun b hb => by
    rcases hb with hb | ⟨t, ht, _⟩
    · exact k.old b hb
    · exact (k.own t b ht).2
theorem Later.of_ext {φ φ' : Nat → Option Nat} {h h' : Heap} {w w' : World} {N N' : Nat → Prop} (he : Ext w w') (hs : Sub φ h φ' h') (hN : ∀ b, N b → b < w.heap.size → N' b) : Later φ h w N φ' h' w' N' :=
  ⟨hs, fun b hb hl => ⟨he.block b hl, hN b hb hl⟩, fun s b _ _ c hc => ⟨c, by rw [wcells_of_block (he.block b (wcells_lt hc))]; exact hc, rfl⟩⟩
theorem BlkOK.of_ext {φ φ' : Nat → Option Nat} {h h' : Heap} {w w' : World} {N N' : Nat → Prop} (he : Ext w w') (hL : Later φ h w N φ' h' w' N') {f : Option Nat} {x : Blk} (k : BlkOK φ h w N f x) : BlkOK φ' h' w' N' f x := by
  cases x with
  | row cs =>
    obtain ⟨b, c, hf, hc, hw, k⟩ := k
    have hb := he.block b (wcells_lt hc)
    exact ⟨b, c, hf, by rw [wcells_of_block hb]; exact hc, warm_of_block hb hw, CellsOK.later hL k⟩
  | lst r xs =>
    cases f with
    | none => exact k
    | some b =>
      obtain ⟨cap, c, hc, hw, hsz, hl, k⟩ := k
      have hb := he.block b (wcells_lt hc)
      exact ⟨cap, c, by rw [wcells_of_block hb]; exact hc, warm_of_block hb hw, hsz, hl, fun i hi => RepR.mono hL.imm r _ _ _ hb (k i hi)⟩

/-! ### One more is carried out -/
structure Step (heads : List Oper) (ms : List Nat) (acc : Acc) (st0 : St) (i : Nat) (o : Oper) (u : V) (nb : Option Blk) : Prop where
  at_ : heads[i]? = some o
  np : isP0 o = false
  res : lget acc i (.any, none) = (u, nb)
  nodup : nodupN (dsts heads) = true
  fresh : ∀ i' o' x t, heads[i']? = some o' → isP0 o' = false → o'.dst = some t → (lget acc i' (.any, none)).2 = some x → hget st0.heap t = none ∧ t < st0.heap.length
  closed : Closed ms (lget ms i 0)
  self : (lget ms i 0).testBit i = false
theorem testBit_flip (m i j : Nat) : (m ^^^ 2 ^ i).testBit j = (m.testBit j ^^ decide (i = j)) := by
  rw [Nat.testBit_xor, Nat.testBit_two_pow]
theorem dst_one {i j : Nat} {o p : Oper} {t : Nat} (hn : nodupN (dsts heads) = true) (hi : heads[i]? = some o) (hj : heads[j]? = some p) (hd : o.dst = some t) (hd' : p.dst = some t) : i = j := dst_unique hn hi hj hd hd'
variable {i : Nat} {o : Oper} {u : V} {nb : Option Blk}
/-- The state of m' is that of m, and what i has made. -/
theorem hst_flip_heap (s : Step heads ms acc st0 i o u nb) {m' : Nat} (hm : m'.testBit i = true) (t : Nat) :
    (o.dst = some t → ∀ x, nb = some x → hget (hst heads acc st0 m').heap t = some x ∧ hget (hst heads acc st0 (m' ^^^ 2 ^ i)).heap t = none) ∧
    ((o.dst ≠ some t ∨ nb = none) → hget (hst heads acc st0 m').heap t = hget (hst heads acc st0 (m' ^^^ 2 ^ i)).heap t) := by
  refine ⟨fun hd x hx => ⟨?_, ?_⟩, fun h => ?_⟩
  · have hr : (lget acc i (.any, none)).2 = some x := by rw [s.res]; exact hx
    exact restrH_at heads 0 i st0.heap o x s.at_ s.np hd (by rw [Nat.zero_add]; exact hr) (by rw [Nat.zero_add]; exact hm) s.nodup (s.fresh i o x t s.at_ s.np hd hr).2
  · have hr : (lget acc i (.any, none)).2 = some x := by rw [s.res]; exact hx
    have h0 := (s.fresh i o x t s.at_ s.np hd hr).1
    rw [← h0]
    refine restrH_other heads 0 st0.heap (fun j p y hj hp hpd _ => ?_)
    rw [Nat.zero_add, testBit_flip]
    have : i = j := dst_one s.nodup s.at_ hj hd hpd
    subst this
    simp [hm]
  · by_cases hex : ∃ j p y, heads[j]? = some p ∧ isP0 p = false ∧ p.dst = some t ∧ (lget acc j (.any, none)).2 = some y ∧ m'.testBit j = true
    · obtain ⟨j, p, y, hj, hp, hpd, hy, hmj⟩ := hex
      have hne : i ≠ j := fun e => by
        subst e
        rw [s.at_] at hj; cases hj
        rcases h with h | h
        · exact h hpd
        · rw [s.res, h] at hy; cases hy
      have hl := (s.fresh j p y t hj hp hpd hy).2
      have h1 : hget (hst heads acc st0 m').heap t = some y := restrH_at heads 0 j st0.heap p y hj hp hpd (by rw [Nat.zero_add]; exact hy) (by rw [Nat.zero_add]; exact hmj) s.nodup hl
      have h2 : hget (hst heads acc st0 (m' ^^^ 2 ^ i)).heap t = some y := restrH_at heads 0 j st0.heap p y hj hp hpd (by rw [Nat.zero_add]; exact hy) (by rw [Nat.zero_add, testBit_flip, hmj]; simp [hne]) s.nodup hl
      rw [h1, h2]
    · have h1 : hget (hst heads acc st0 m').heap t = hget st0.heap t := restrH_other heads 0 st0.heap (fun j p y hj hp hpd hy => by
        rw [Nat.zero_add] at hy ⊢
        cases hmj : m'.testBit j with
        | false => rfl
        | true => exact absurd ⟨j, p, y, hj, hp, hpd, hy, hmj⟩ hex)
      have h2 : hget (hst heads acc st0 (m' ^^^ 2 ^ i)).heap t = hget st0.heap t := restrH_other heads 0 st0.heap (fun j p y hj hp hpd hy => by
        rw [Nat.zero_add] at hy ⊢
        rw [testBit_flip]
        cases hmj : m'.testBit j with
        | true => exact absurd ⟨j, p, y, hj, hp, hpd, hy, hmj⟩ hex
        | false =>
          have hne : i ≠ j := fun e => by subst e; rw [hm] at hmj; cases hmj
          simp [hne])
      rw [h1, h2]
theorem hst_flip_env (s : Step heads ms acc st0 i o u nb) {m' : Nat} (hm : m'.testBit i = true) (t : Nat) :
    (o.dst = some t → t < st0.env.length → lget (hst heads acc st0 m').env t .any = u) ∧
    (o.dst ≠ some t → lget (hst heads acc st0 m').env t .any = lget (hst heads acc st0 (m' ^^^ 2 ^ i)).env t .any) := by
  refine ⟨fun hd hl => ?_, fun h => ?_⟩
  · have := restrE_at (ops := heads) (acc := acc) (m := m') heads 0 i st0.env o s.at_ s.np hd s.nodup hl
    rw [Nat.zero_add, hm, if_pos rfl, s.res] at this
    exact this
  · by_cases hex : ∃ (j : Nat) (p : Oper), heads[j]? = some p ∧ isP0 p = false ∧ p.dst = some t
    · obtain ⟨j, p, hj, hp, hpd⟩ := hex
      by_cases hl : t < st0.env.length
      · have h1 := restrE_at (ops := heads) (acc := acc) (m := m') heads 0 j st0.env p hj hp hpd s.nodup hl
        have h2 := restrE_at (ops := heads) (acc := acc) (m := m' ^^^ 2 ^ i) heads 0 j st0.env p hj hp hpd s.nodup hl
        have hne : i ≠ j := fun e => by subst e; rw [s.at_] at hj; cases hj; exact h hpd
        have hb : (m' ^^^ 2 ^ i).testBit (0 + j) = m'.testBit (0 + j) := by rw [testBit_flip]; simp [hne]
        show lget (restrE heads m' 0 heads acc st0.env) t .any = lget (restrE heads (m' ^^^ 2 ^ i) 0 heads acc st0.env) t .any
        rw [h1, h2, hb]
      · show lget (restrE heads m' 0 heads acc st0.env) t .any = lget (restrE heads (m' ^^^ 2 ^ i) 0 heads acc st0.env) t .any
        rw [lget_eq, lget_eq, List.getElem?_eq_none (by rw [restrE_len]; omega), List.getElem?_eq_none (by rw [restrE_len]; omega)]
    · have h1 := restrE_other (ops := heads) (acc := acc) (m := m') (t := t) heads 0 st0.env (fun p hp hnp hpd => by
        obtain ⟨j, hj⟩ := List.getElem?_of_mem hp
        exact hex ⟨j, p, hj, hnp, hpd⟩)
      have h2 := restrE_other (ops := heads) (acc := acc) (m := m' ^^^ 2 ^ i) (t := t) heads 0 st0.env (fun p hp hnp hpd => by
        obtain ⟨j, hj⟩ := List.getElem?_of_mem hp
        exact hex ⟨j, p, hj, hnp, hpd⟩)
      show lget (restrE heads m' 0 heads acc st0.env) t .any = lget (restrE heads (m' ^^^ 2 ^ i) 0 heads acc st0.env) t .any
      rw [h1, h2]
/-- Where i is not among those in m, its slot is not known. -/
theorem hst_out_env (s : Step heads ms acc st0 i o u nb) {m' : Nat} (hm : m'.testBit i = false) {t : Nat} (hd : o.dst = some t) : lget (hst heads acc st0 m').env t .any = .any := by
  by_cases hl : t < st0.env.length
  · have := restrE_at (ops := heads) (acc := acc) (m := m') heads 0 i st0.env o s.at_ s.np hd s.nodup hl
    rw [Nat.zero_add, hm] at this
    exact this
  · show lget (restrE heads m' 0 heads acc st0.env) t .any = .any
    rw [lget_eq, List.getElem?_eq_none (by rw [restrE_len]; omega)]; rfl
/-- Fewer names are known where fewer are carried out. -/
theorem hst_sub (s : Step heads ms acc st0 i o u nb) {m m' : Nat} (hs : ∀ j, m.testBit j = true → m'.testBit j = true) {t : Nat} {y : Blk} (h : hget (hst heads acc st0 m).heap t = some y) :
    hget (hst heads acc st0 m').heap t = some y ∧ (∀ φ : Nat → Option Nat, phim heads acc φ m' t = φ t ∧ phim heads acc φ m t = φ t) := by
  by_cases hex : ∃ j p z, heads[j]? = some p ∧ isP0 p = false ∧ p.dst = some t ∧ (lget acc j (.any, none)).2 = some z
  · obtain ⟨j, p, z, hj, hp, hpd, hz⟩ := hex
    have hfr := s.fresh j p z t hj hp hpd hz
    cases hmj : m.testBit j with
    | false =>
      have : hget (hst heads acc st0 m).heap t = hget st0.heap t := restrH_other heads 0 st0.heap (fun j' p' y' hj' hp' hpd' _ => by
        have : j = j' := dst_one s.nodup hj hj' hpd hpd'
        subst this
        rw [Nat.zero_add]; exact hmj)
      rw [this, hfr.1] at h
      cases h
    | true =>
      have h1 : hget (hst heads acc st0 m).heap t = some z := restrH_at heads 0 j st0.heap p z hj hp hpd (by rw [Nat.zero_add]; exact hz) (by rw [Nat.zero_add]; exact hmj) s.nodup hfr.2
      have h2 : hget (hst heads acc st0 m').heap t = some z := restrH_at heads 0 j st0.heap p z hj hp hpd (by rw [Nat.zero_add]; exact hz) (by rw [Nat.zero_add]; exact hs j hmj) s.nodup hfr.2
      rw [h1] at h
      cases h
      have nh : ∀ m'', m''.testBit j = true → ¬ Hid heads acc m'' t := fun m'' hm'' ⟨j', p', z', hj', hp', hpd', _, hb⟩ => by
        have : j = j' := dst_one s.nodup hj hj' hpd hpd'
        subst this
        rw [hm''] at hb; cases hb
      exact ⟨h2, fun φ => ⟨if_neg (nh m' (hs j hmj)), if_neg (nh m hmj)⟩⟩
  · have h1 : ∀ m'', hget (hst heads acc st0 m'').heap t = hget st0.heap t := fun m'' => restrH_other heads 0 st0.heap (fun j p z hj hp hpd hz => by
      rw [Nat.zero_add] at hz
      exact absurd ⟨j, p, z, hj, hp, hpd, hz⟩ hex)
    have nh : ∀ m'', ¬ Hid heads acc m'' t := fun m'' ⟨j', p', z', hj', hp', hpd', hz', _⟩ => hex ⟨j', p', z', hj', hp', hpd', hz'⟩
    exact ⟨by rw [h1]; rw [h1] at h; exact h, fun φ => ⟨if_neg (nh _), if_neg (nh _)⟩⟩
theorem hid_flip (s : Step heads ms acc st0 i o u nb) {m' : Nat} {t : Nat} (h : o.dst ≠ some t ∨ nb = none) : Hid heads acc m' t ↔ Hid heads acc (m' ^^^ 2 ^ i) t := by
  have key : ∀ (j : Nat) (p : Oper) (x : Blk), heads[j]? = some p → p.dst = some t → (lget acc j (.any, none)).2 = some x → i ≠ j := fun j p x hj hpd hx e => by
    subst e
    rw [s.at_] at hj; cases hj
    rcases h with h | h
    · exact h hpd
    · rw [s.res, h] at hx; cases hx
  constructor
  · rintro ⟨j, p, x, hj, hp, hpd, hx, hb⟩
    exact ⟨j, p, x, hj, hp, hpd, hx, by rw [testBit_flip, hb]; simp [key j p x hj hpd hx]⟩
  · rintro ⟨j, p, x, hj, hp, hpd, hx, hb⟩
    rw [testBit_flip] at hb
    exact ⟨j, p, x, hj, hp, hpd, hx, by simpa [key j p x hj hpd hx] using hb⟩
theorem phim_congr {m' : Nat} {t : Nat} {φ : Nat → Option Nat} (h : Hid heads acc m t ↔ Hid heads acc m' t) : phim heads acc φ m t = phim heads acc φ m' t := by
  unfold phim
  by_cases hh : Hid heads acc m t
  · rw [if_pos hh, if_pos (h.1 hh)]
  · rw [if_neg hh, if_neg (fun h' => hh (h.2 h'))]
theorem closed_flip {m' : Nat} (hSc : ∀ j, S j → ∀ l, (lget ms j 0).testBit l = true → S l) (hiS : ¬ S i) (hc : Closed ms m') (hsub : ∀ j, m'.testBit j = true → S j ∨ j = i) (hm : m'.testBit i = true) :
    Closed ms (m' ^^^ 2 ^ i) ∧ (∀ j, (m' ^^^ 2 ^ i).testBit j = true → S j ∧ m'.testBit j = true) := by
  have h2 : ∀ j, (m' ^^^ 2 ^ i).testBit j = true → S j ∧ m'.testBit j = true := fun j hj => by
    rw [testBit_flip] at hj
    by_cases hij : i = j
    · subst hij; rw [hm] at hj; simp at hj
    · simp [hij] at hj
      exact ⟨(hsub j hj).resolve_right (fun e => hij e.symm), hj⟩
  refine ⟨fun l hl j hj => ?_, h2⟩
  have hSl := (h2 l hl).1
  have hSj := hSc l hSl j hj
  rw [testBit_flip, hc l (h2 l hl).2 j hj]
  have : i ≠ j := fun e => hiS (by rw [e]; exact hSj)
  simp [this]
theorem put_other {a : Act} {d : Option Nat} {v : Value} {t : Nat} (h : d ≠ some t) : (a.put d v).tmps.getD t undef = a.tmps.getD t undef := by
  cases d with
  | none => rfl
  | some d =>
    show (a.tmps.setIfInBounds d v).getD t undef = _
    rw [put_get, if_neg (fun e => h (by rw [e.1]))]
theorem put_same {a : Act} {d : Option Nat} {v : Value} {t : Nat} (h : d = some t) (hl : t < a.tmps.size) : (a.put d v).tmps.getD t undef = v := by
  subst h
  show (a.tmps.setIfInBounds t v).getD t undef = _
  rw [put_get, if_pos ⟨rfl, hl⟩]
theorem put_size {a : Act} {d : Option Nat} {v : Value} : (a.put d v).tmps.size = a.tmps.size := by
  cases d <;> simp [Act.put]
theorem put_defers {a : Act} {d : Option Nat} {v : Value} : (a.put d v).defers = a.defers := by
  cases d <;> rfl
theorem hst_env_far {t : Nat} (h : ¬ t < st0.env.length) : lget (hst heads acc st0 m).env t .any = .any := by
  show lget (restrE heads m 0 heads acc st0.env) t .any = .any
  rw [lget_eq, List.getElem?_eq_none (by rw [restrE_len]; omega)]; rfl
theorem Inv.step (k : Inv w0 O M heads ms acc st0 S φ a w) (s : Step heads ms acc st0 i o u nb) (hS : ∀ j, (lget ms i 0).testBit j = true → S j) (hSc : ∀ j, S j → ∀ l, (lget ms j 0).testBit l = true → S l) (hiS : ¬ S i)
    {v : Value} {w' : World} (he : Ext w w') (hM : Made (Mm M heads acc φ (lget ms i 0)) (phim heads acc φ (lget ms i 0)) (hst heads acc st0 (lget ms i 0)).heap w o.dst u nb v w') :
    ∃ φ', Inv w0 O M heads ms acc st0 (fun j => S j ∨ j = i) φ' (a.put o.dst v) w' := by
  have fmi := k.facts _ s.closed hS
  -- what m' says of the slots and names
  suffices hmain : ∃ φ', (∀ t b, φ' t = some b → φ t = some b ∨ (w.heap.size ≤ b ∧ b < w'.heap.size ∧ ∀ t' b', φ t' = some b' → b' < w.heap.size)) ∧ (∀ t t' b, φ' t = some b → φ' t' = some b → t = t') ∧ (∀ t y, hget st0.heap t = some y → φ' t = φ t) ∧
      ∀ m', Closed ms m' → (∀ j, m'.testBit j = true → S j ∨ j = i) → Facts M heads acc st0 φ' (a.put o.dst v) w' m' by
    obtain ⟨φ', h1, h2, h4, h3⟩ := hmain
    refine ⟨φ', ⟨by rw [put_size]; exact k.len, by rw [put_defers]; exact k.defers, k.frm.ext he, fun t b ht => ?_, fun t b ht => (by
      obtain ⟨p1, p2, cs, p3⟩ := k.pin t b ht
      exact ⟨by rw [h4 t _ p3]; exact p1, p2, cs, p3⟩), h2, fun t b ht => ?_, fun b hb => Nat.lt_of_lt_of_le (k.old b hb) he.size, h3⟩⟩
    · rcases h1 t b ht with h | h
      · exact k.fresh t b h
      · exact .inr (Nat.le_trans k.frm.size h.1)
    · rcases h1 t b ht with h | h
      · exact ⟨(k.own t b h).1, Nat.lt_of_lt_of_le (k.own t b h).2 he.size⟩
      · exact ⟨fun hM => by have := k.old b hM; omega, h.2.1⟩
  cases hnb : nb with
  | none =>
    rw [hnb] at hM
    have hV : VOK (phim heads acc φ (lget ms i 0)) (hst heads acc st0 (lget ms i 0)).heap w' (Imm M φ) u v := by
      have h : VOK (phim heads acc φ (lget ms i 0)) (hst heads acc st0 (lget ms i 0)).heap w' (Imm (Mm M heads acc φ (lget ms i 0)) (phim heads acc φ (lget ms i 0))) u v := hM
      rw [imm_m] at h; exact h
    refine ⟨φ, fun t b ht => .inl ht, k.inj, fun _ _ _ => rfl, fun m' hc hsub => ?_⟩
    cases hm : m'.testBit i with
    | true =>
      obtain ⟨hc', hsub'⟩ := closed_flip hSc hiS hc hsub hm
      have f := k.facts _ hc' (fun j hj => (hsub' j hj).1)
      have hphi : ∀ t, phim heads acc φ m' t = phim heads acc φ (m' ^^^ 2 ^ i) t := fun t => phim_congr (hid_flip s (.inr hnb))
      have hheap : ∀ t, hget (hst heads acc st0 m').heap t = hget (hst heads acc st0 (m' ^^^ 2 ^ i)).heap t := fun t => (hst_flip_heap s hm t).2 (.inr hnb)
      have hL : Later (phim heads acc φ (m' ^^^ 2 ^ i)) (hst heads acc st0 (m' ^^^ 2 ^ i)).heap w (Imm M φ) (phim heads acc φ m') (hst heads acc st0 m').heap w' (Imm M φ) :=
        Later.of_ext he ⟨fun t b hb => ⟨b, by rw [hheap]; exact hb, likeB.refl b, hphi t⟩⟩ (fun b hb _ => hb)
      have hmi : ∀ j, (lget ms i 0).testBit j = true → m'.testBit j = true := hc i hm
      have hL2 : Later (phim heads acc φ (lget ms i 0)) (hst heads acc st0 (lget ms i 0)).heap w' (Imm M φ) (phim heads acc φ m') (hst heads acc st0 m').heap w' (Imm M φ) :=
        Later.of_ext (Ext.refl w') ⟨fun t b hb => by
          obtain ⟨h1, h2⟩ := hst_sub s hmi hb
          exact ⟨b, h1, likeB.refl b, by rw [(h2 φ).1, (h2 φ).2]⟩⟩ (fun b hb _ => hb)
      refine ⟨fun t b hb => ?_, fun t ht => ?_, fun t => ?_⟩
      · rw [hheap] at hb; rw [hphi]; exact (f.blk t b hb).of_ext he hL
      · rw [hheap] at ht; rw [hphi]; exact f.non t ht
      · by_cases hd : o.dst = some t
        · by_cases hl : t < st0.env.length
          · rw [(hst_flip_env s hm t).1 hd hl, put_same hd (by rw [← k.len]; exact hl)]
            exact VOK.later hL2 hV
          · rw [hst_env_far hl]; trivial
        · rw [(hst_flip_env s hm t).2 hd, put_other hd]
          exact VOK.later hL (f.env t)
    | false =>
      have f := k.facts m' hc (fun j hj => (hsub j hj).resolve_right (fun e => by subst e; rw [hm] at hj; cases hj))
      have hL : Later (phim heads acc φ m') (hst heads acc st0 m').heap w (Imm M φ) (phim heads acc φ m') (hst heads acc st0 m').heap w' (Imm M φ) :=
        Later.of_ext he (Sub.refl _ _) (fun b hb _ => hb)
      refine ⟨fun t b hb => (f.blk t b hb).of_ext he hL, f.non, fun t => ?_⟩
      by_cases hd : o.dst = some t
      · rw [hst_out_env s hm hd]; trivial
      · rw [put_other hd]; exact VOK.later hL (f.env t)
  | some x =>
    rw [hnb] at hM
    obtain ⟨d, hd, hM⟩ := hM
    have hres2 : (lget acc i (.any, none)).2 = some x := by rw [s.res]; exact hnb
    have hfr := s.fresh i o x d s.at_ s.np hd hres2
    have hid0 : ∀ m'', m''.testBit i = false → Hid heads acc m'' d := fun m'' hm'' => ⟨i, o, x, s.at_, s.np, hd, hres2, hm''⟩
    have hid1 : ∀ m'', m''.testBit i = true → ¬ Hid heads acc m'' d := fun m'' hm'' ⟨j, p, y, hj, hp, hpd, _, hb⟩ => by
      have : i = j := dst_one s.nodup s.at_ hj hd hpd
      subst this
      rw [hm''] at hb; cases hb
    have hmid : hget (hst heads acc st0 (lget ms i 0)).heap d = none := by
      rw [← hfr.1]
      refine restrH_other heads 0 st0.heap (fun j p y hj hp hpd _ => ?_)
      have : i = j := dst_one s.nodup s.at_ hj hd hpd
      subst this
      rw [Nat.zero_add]; exact s.self
    have hmil : d < (hst heads acc st0 (lget ms i 0)).heap.length := by
      show d < (restrH _ _ _ _ _).length
      rw [restrH_len]; exact hfr.2
    obtain ⟨f, hf, hB, hV⟩ := hM hmid hmil
    -- the new name
    have hN : ∀ b, Imm (Mm M heads acc φ (lget ms i 0)) (upd (phim heads acc φ (lget ms i 0)) d f) b → Imm M (upd φ d f) b := fun b hb => by
      refine ⟨fun hM => hb.1 (.inl hM), fun t ht => ?_⟩
      by_cases htd : t = d
      · subst htd; rw [upd_same] at ht; exact hb.2 t (by rw [upd_same]; exact ht)
      · rw [upd_other _ _ htd] at ht
        cases hp : phim heads acc φ (lget ms i 0) t with
        | none => exact hb.1 (.inr ⟨t, ht, hp⟩)
        | some b' =>
          have := (phim_some hp).1
          rw [ht] at this
          cases this
          exact hb.2 t (by rw [upd_other _ _ htd]; exact hp)
    have hφd : φ d = none ∨ True := .inr trivial
    have himm : ∀ b, Imm M φ b → b < w.heap.size → Imm M (upd φ d f) b := fun b hb hl => ⟨hb.1, fun t ht => by
      by_cases htd : t = d
      · subst htd; rw [upd_same] at ht; have := (hf b ht).1; omega
      · rw [upd_other _ _ htd] at ht; exact hb.2 t ht⟩
    refine ⟨upd φ d f, fun t b ht => ?_, fun t t' b ht ht' => ?_, fun t y ht => upd_other _ _ (fun e => by subst e; rw [hfr.1] at ht; cases ht), fun m' hc hsub => ?_⟩
    · by_cases htd : t = d
      · subst htd; rw [upd_same] at ht
        exact .inr ⟨(hf b ht).1, (hf b ht).2, fun t' b' h => (k.own t' b' h).2⟩
      · rw [upd_other _ _ htd] at ht; exact .inl ht
    · by_cases htd : t = d <;> by_cases htd' : t' = d
      · rw [htd, htd']
      · subst htd; rw [upd_same] at ht; rw [upd_other _ _ htd'] at ht'
        have := (hf b ht).1; have := (k.own t' b ht').2; omega
      · subst htd'; rw [upd_same] at ht'; rw [upd_other _ _ htd] at ht
        have := (hf b ht').1; have := (k.own t b ht).2; omega
      · rw [upd_other _ _ htd] at ht; rw [upd_other _ _ htd'] at ht'; exact k.inj t t' b ht ht'
    · cases hm : m'.testBit i with
      | true =>
        obtain ⟨hc', hsub'⟩ := closed_flip hSc hiS hc hsub hm
        have fm := k.facts _ hc' (fun j hj => (hsub' j hj).1)
        have hphi : ∀ t, t ≠ d → phim heads acc (upd φ d f) m' t = phim heads acc φ (m' ^^^ 2 ^ i) t := fun t htd => by
          have hh := hid_flip s (m' := m') (t := t) (.inl (fun e => htd (by rw [hd] at e; cases e; rfl)))
          rw [phim_congr hh]
          unfold phim
          rw [upd_other _ _ htd]
        have hphid : phim heads acc (upd φ d f) m' d = f := by
          unfold phim
          rw [if_neg (hid1 m' hm), upd_same]
        have hheap : ∀ t, t ≠ d → hget (hst heads acc st0 m').heap t = hget (hst heads acc st0 (m' ^^^ 2 ^ i)).heap t := fun t htd => (hst_flip_heap s hm t).2 (.inl (fun e => htd (by rw [hd] at e; cases e; rfl)))
        have hheapd := (hst_flip_heap s hm d).1 hd x hnb
        have hL : Later (phim heads acc φ (m' ^^^ 2 ^ i)) (hst heads acc st0 (m' ^^^ 2 ^ i)).heap w (Imm M φ) (phim heads acc (upd φ d f) m') (hst heads acc st0 m').heap w' (Imm M (upd φ d f)) :=
          Later.of_ext he ⟨fun t b hb => by
            have htd : t ≠ d := fun e => by subst e; rw [hheapd.2] at hb; cases hb
            exact ⟨b, by rw [hheap t htd]; exact hb, likeB.refl b, hphi t htd⟩⟩ himm
        have hmi : ∀ j, (lget ms i 0).testBit j = true → (m' ^^^ 2 ^ i).testBit j = true := fun j hj => by
          rw [testBit_flip, hc i hm j hj]
          have : i ≠ j := fun e => by subst e; rw [s.self] at hj; cases hj
          simp [this]
        have hL2 : Later (upd (phim heads acc φ (lget ms i 0)) d f) (hset (hst heads acc st0 (lget ms i 0)).heap d x) w' (Imm (Mm M heads acc φ (lget ms i 0)) (upd (phim heads acc φ (lget ms i 0)) d f))
            (phim heads acc (upd φ d f) m') (hst heads acc st0 m').heap w' (Imm M (upd φ d f)) :=
          Later.of_ext (Ext.refl w') ⟨fun t b hb => by
            by_cases htd : t = d
            · subst htd
              rw [hget_hset_same _ _ _ hmil] at hb
              cases hb
              exact ⟨x, hheapd.1, likeB.refl x, by rw [hphid, upd_same]⟩
            · rw [hget_hset_other _ _ _ _ (Ne.symm htd)] at hb
              obtain ⟨h1, h2⟩ := hst_sub s hmi hb
              exact ⟨b, by rw [hheap t htd]; exact h1, likeB.refl b, by rw [hphi t htd, upd_other _ _ htd, (h2 φ).1, (h2 φ).2]⟩⟩ (fun b hb _ => hN b hb)
        refine ⟨fun t b hb => ?_, fun t ht => ?_, fun t => ?_⟩
        · by_cases htd : t = d
          · subst htd
            rw [hheapd.1] at hb
            cases hb
            rw [hphid]
            exact hB.of_ext (Ext.refl w') hL2
          · rw [hheap t htd] at hb; rw [hphi t htd]; exact (fm.blk t b hb).of_ext he hL
        · have htd : t ≠ d := fun e => by subst e; rw [hheapd.1] at ht; cases ht
          rw [hheap t htd] at ht; rw [hphi t htd]; exact fm.non t ht
        · by_cases hdt : o.dst = some t
          · by_cases hl : t < st0.env.length
            · rw [(hst_flip_env s hm t).1 hdt hl, put_same hdt (by rw [← k.len]; exact hl)]
              exact VOK.later hL2 hV
            · rw [hst_env_far hl]; trivial
          · rw [(hst_flip_env s hm t).2 hdt, put_other hdt]
            exact VOK.later hL (fm.env t)
      | false =>
        have fm := k.facts m' hc (fun j hj => (hsub j hj).resolve_right (fun e => by subst e; rw [hm] at hj; cases hj))
        have hphi : ∀ t, phim heads acc (upd φ d f) m' t = phim heads acc φ m' t := fun t => by
          by_cases htd : t = d
          · subst htd
            unfold phim
            rw [if_pos (hid0 m' hm), if_pos (hid0 m' hm)]
          · unfold phim
            rw [upd_other _ _ htd]
        have hL : Later (phim heads acc φ m') (hst heads acc st0 m').heap w (Imm M φ) (phim heads acc (upd φ d f) m') (hst heads acc st0 m').heap w' (Imm M (upd φ d f)) :=
          Later.of_ext he ⟨fun t b hb => ⟨b, hb, likeB.refl b, hphi t⟩⟩ himm
        refine ⟨fun t b hb => by rw [hphi]; exact (fm.blk t b hb).of_ext he hL, fun t ht => by rw [hphi]; exact fm.non t ht, fun t => ?_⟩
        by_cases hdt : o.dst = some t
        · rw [hst_out_env s hm hdt]; trivial
        · rw [put_other hdt]; exact VOK.later hL (fm.env t)
end
end Go.AM
