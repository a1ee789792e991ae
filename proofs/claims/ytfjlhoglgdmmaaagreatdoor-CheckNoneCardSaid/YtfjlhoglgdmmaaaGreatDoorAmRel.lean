/- What the states of the abstract machine say of the model's memory, and that it stays true while memory grows. -/
import Derived.Test.YtfjlhoglgdmmaaaGreatDoorAmDef
import Derived.Laws.Entries
set_option autoImplicit false
set_option linter.unusedVariables false
namespace Go.AM

/-! ### Small lists -/
section
variable {α β : Type}
theorem lget_nil (n : Nat) (d : α) : lget [] n d = d := by cases n <;> rfl
theorem lget_eq : ∀ (l : List α) (n : Nat) (d : α), lget l n d = (l[n]?).getD d
  | [], n, d => by simp [lget_nil]
  | x :: l, 0, d => by simp [lget]
  | x :: l, n + 1, d => by simp [lget, lget_eq l n d]
theorem lset_eq : ∀ (l : List α) (n : Nat) (y : α), lset l n y = l.set n y
  | [], n, y => by cases n <;> rfl
  | x :: l, 0, y => rfl
  | x :: l, n + 1, y => by simp [lset, lset_eq l n y]
theorem lset_length (l : List α) (n : Nat) (y : α) : (lset l n y).length = l.length := by rw [lset_eq]; simp
theorem lget_lset_same (l : List α) (n : Nat) (y d : α) (h : n < l.length) : lget (lset l n y) n d = y := by
  rw [lget_eq, lset_eq]; simp [h]
theorem lget_lset_other (l : List α) (n m : Nat) (y d : α) (h : n ≠ m) : lget (lset l n y) m d = lget l m d := by
  rw [lget_eq, lget_eq, lset_eq, List.getElem?_set_ne h]
theorem lget_lset (l : List α) (n m : Nat) (y d : α) : lget (lset l n y) m d = if n = m ∧ n < l.length then y else lget l m d := by
  by_cases h : n = m
  · subst h
    by_cases hl : n < l.length
    · rw [lget_lset_same _ _ _ _ hl, if_pos ⟨rfl, hl⟩]
    · rw [if_neg (fun h => hl h.2), lset_eq, List.set_eq_of_length_le (by omega)]
  · rw [lget_lset_other _ _ _ _ _ h, if_neg (fun e => h e.1)]
theorem ltake_eq : ∀ (l : List α) (n : Nat), ltake l n = l.take n
  | l, 0 => by simp [ltake]
  | [], n + 1 => rfl
  | x :: l, n + 1 => by simp [ltake, ltake_eq l n]
theorem ldrop_eq : ∀ (l : List α) (n : Nat), ldrop l n = l.drop n
  | l, 0 => by simp [ldrop]
  | [], n + 1 => rfl
  | x :: l, n + 1 => by simp [ldrop, ldrop_eq l n]
theorem llen_eq : ∀ (l : List α), llen l = l.length
  | [] => rfl
  | x :: l => by simp [llen, llen_eq l]
theorem lmap_eq (f : α → β) : ∀ (l : List α), lmap f l = l.map f
  | [] => rfl
  | x :: l => by simp [lmap, lmap_eq f l]
theorem splice_eq : ∀ (l : List α) (n : Nat) (ys : List α), n ≤ l.length → splice l n ys = l.take n ++ ys ++ l.drop (n + ys.length)
  | l, 0, ys, _ => by simp [splice, ldrop_eq, llen_eq]
  | [], n + 1, ys, h => by simp at h
  | x :: l, n + 1, ys, h => by
    have h' : n ≤ l.length := by simpa using h
    rw [splice, splice_eq l n ys h', show n + 1 + ys.length = (n + ys.length) + 1 by omega]
    rfl
end

/-- Two lists, member by member. -/
def All2 {α β : Type} (p : α → β → Prop) : List α → List β → Prop
  | [], [] => True
  | x :: l, y :: m => p x y ∧ All2 p l m
  | _, _ => False
section
variable {α β γ : Type} {p q : α → β → Prop}
theorem All2.length : ∀ {l : List α} {m : List β}, All2 p l m → l.length = m.length
  | [], [], _ => rfl
  | [], _ :: _, h => h.elim
  | _ :: _, [], h => h.elim
  | _ :: l, _ :: m, h => by simp [All2.length h.2]
theorem All2.imp (f : ∀ x y, p x y → q x y) : ∀ {l : List α} {m : List β}, All2 p l m → All2 q l m
  | [], [], _ => trivial
  | [], _ :: _, h => h.elim
  | _ :: _, [], h => h.elim
  | _ :: _, _ :: _, h => ⟨f _ _ h.1, All2.imp f h.2⟩
theorem All2.imp_mem : ∀ {l : List α} {m : List β}, (∀ x y, x ∈ l → p x y → q x y) → All2 p l m → All2 q l m
  | [], [], _, _ => trivial
  | [], _ :: _, _, h => h.elim
  | _ :: _, [], _, h => h.elim
  | _ :: _, _ :: _, f, h => ⟨f _ _ (by simp) h.1, All2.imp_mem (fun x y hx => f x y (by simp [hx])) h.2⟩
theorem All2.get : ∀ {l : List α} {m : List β}, All2 p l m → ∀ (i : Nat) x y, l[i]? = some x → m[i]? = some y → p x y
  | [], [], _, i, x, y, h, _ => by simp at h
  | [], _ :: _, h, _, _, _, _, _ => h.elim
  | _ :: _, [], h, _, _, _, _, _ => h.elim
  | _ :: l, _ :: m, h, 0, x, y, hx, hy => by simp at hx hy; subst hx; subst hy; exact h.1
  | _ :: l, _ :: m, h, i + 1, x, y, hx, hy => All2.get h.2 i x y (by simpa using hx) (by simpa using hy)
theorem All2.of_get : ∀ {l : List α} {m : List β}, l.length = m.length → (∀ (i : Nat) x y, l[i]? = some x → m[i]? = some y → p x y) → All2 p l m
  | [], [], _, _ => trivial
  | [], _ :: _, h, _ => by simp at h
  | _ :: _, [], h, _ => by simp at h
  | x :: l, y :: m, h, f => ⟨f 0 x y rfl rfl, All2.of_get (by simpa using h) fun i a b ha hb => f (i + 1) a b (by simpa using ha) (by simpa using hb)⟩
theorem All2.take' : ∀ {l : List α} {m : List β} (n : Nat), All2 p l m → All2 p (l.take n) (m.take n)
  | [], [], n, _ => by simp [All2]
  | [], _ :: _, _, h => h.elim
  | _ :: _, [], _, h => h.elim
  | _ :: _, _ :: _, 0, _ => trivial
  | _ :: _, _ :: _, n + 1, h => ⟨h.1, All2.take' n h.2⟩
theorem All2.drop' : ∀ {l : List α} {m : List β} (n : Nat), All2 p l m → All2 p (l.drop n) (m.drop n)
  | [], [], n, _ => by simp [All2]
  | [], _ :: _, _, h => h.elim
  | _ :: _, [], _, h => h.elim
  | _ :: _, _ :: _, 0, h => h
  | _ :: _, _ :: _, n + 1, h => All2.drop' n h.2
theorem All2.append : ∀ {l l' : List α} {m m' : List β}, All2 p l m → All2 p l' m' → All2 p (l ++ l') (m ++ m')
  | [], _, [], _, _, h => h
  | [], _, _ :: _, _, h, _ => h.elim
  | _ :: _, _, [], _, h, _ => h.elim
  | _ :: _, _, _ :: _, _, h, h' => ⟨h.1, All2.append h.2 h'⟩
theorem All2.map {f : γ → α} : ∀ {l : List γ} {m : List β}, All2 (fun x y => p (f x) y) l m → All2 p (l.map f) m
  | [], [], _ => trivial
  | [], _ :: _, h => h.elim
  | _ :: _, [], h => h.elim
  | _ :: _, _ :: _, h => ⟨h.1, All2.map h.2⟩
theorem All2.lget : ∀ {l : List α} {m : List β} (d : α) (e : β), All2 p l m → p d e → ∀ i, p (lget l i d) (lget m i e)
  | [], [], d, e, _, h, i => by rw [lget_nil, lget_nil]; exact h
  | [], _ :: _, _, _, h, _, _ => h.elim
  | _ :: _, [], _, _, h, _, _ => h.elim
  | _ :: _, _ :: _, d, e, h, hd, 0 => h.1
  | _ :: _, _ :: _, d, e, h, hd, i + 1 => All2.lget d e h.2 hd i
end

/-! ### Worlds that grow -/
structure Ext (w w' : World) : Prop where
  os : w'.os = w.os
  tape : w'.tape = w.tape
  output : w'.output = w.output
  size : w.heap.size ≤ w'.heap.size
  block : ∀ b, b < w.heap.size → w'.heap[b]? = w.heap[b]?
theorem Ext.refl (w : World) : Ext w w := ⟨rfl, rfl, rfl, Nat.le_refl _, fun _ _ => rfl⟩
theorem Ext.trans {a b c : World} (h : Ext a b) (k : Ext b c) : Ext a c :=
  ⟨k.os.trans h.os, k.tape.trans h.tape, k.output.trans h.output, Nat.le_trans h.size k.size, fun i hi => (k.block i (Nat.lt_of_lt_of_le hi h.size)).trans (h.block i hi)⟩
theorem Ext.alloc (w : World) (o : Obj) : Ext w (w.alloc o) :=
  ⟨rfl, rfl, rfl, by simp, fun b hb => by show (w.heap.push o)[b]? = _; rw [Array.getElem?_push, if_neg (by omega)]⟩
theorem Ext.drew (w : World) : Ext w w.drew := ⟨rfl, rfl, rfl, Nat.le_refl _, fun _ _ => rfl⟩
theorem cell_of_block {w w' : World} {a : Addr} (h : w'.heap[a.block]? = w.heap[a.block]?) : w'.cell? a = w.cell? a := by unfold World.cell?; rw [h]
theorem Ext.cell {w w' : World} (h : Ext w w') {a : Addr} {v : Value} (hc : w.cell? a = some v) : w'.cell? a = some v := by
  rw [cell_of_block (h.block _ (World.block_lt_of_cell? w a hc))]; exact hc

/-! ### Values that are known -/
mutual
/-- The value v, in world w, holds x; what it leads to lies in blocks that meet N. -/
def RepC (w : World) (N : Nat → Prop) : (t : CT) → t.I → Value → Prop
  | .int k, x, v => v = .int k x
  | .bool, x, v => v = .bool x
  | .str, x, v => v = .string ⟨x.toArray⟩
  | .nilp, _, v => v = .pointer none
  | .ref r, x, v => match x with
    | none => v = .pointer none
    | some y => ∃ b o, v = .pointer (some ⟨b, o, none⟩) ∧ N b ∧ RepR w N r y b o
  | .sl r, xs, v => ∃ (a : Option Addr) (cap : Nat), v = .slice a xs.length cap ∧ xs.length ≤ cap ∧
      (xs ≠ [] → ∃ b o, a = some ⟨b, o, none⟩ ∧ N b ∧ ∀ i (h : i < xs.length), RepR w N r (xs[i]'h) b (o + i * r.n))
def RepR (w : World) (N : Nat → Prop) : (r : RT) → r.I → Nat → Nat → Prop
  | .one c, x, b, o => ∃ v, w.cell? ⟨b, o, none⟩ = some v ∧ RepC w N c x v
  | .cons c r, x, b, o => (∃ v, w.cell? ⟨b, o, none⟩ = some v ∧ RepC w N c x.1 v) ∧ RepR w N r x.2 b (o + 1)
end
theorem RepR.lt {w : World} {N : Nat → Prop} : ∀ (r : RT) (x : r.I) (b o : Nat), RepR w N r x b o → b < w.heap.size
  | .one c, x, b, o, h => by
    obtain ⟨v, hv, _⟩ := h
    exact World.block_lt_of_cell? w _ hv
  | .cons c r, x, b, o, h => by
    obtain ⟨⟨v, hv, _⟩, _⟩ := h
    exact World.block_lt_of_cell? w _ hv
section
variable {w w' : World} {N N' : Nat → Prop}
mutual
theorem RepC.mono (hA : ∀ b, N b → b < w.heap.size → w'.heap[b]? = w.heap[b]? ∧ N' b) : ∀ (t : CT) (x : t.I) (v : Value), RepC w N t x v → RepC w' N' t x v
  | .int _, _, _, h => h
  | .bool, _, _, h => h
  | .str, _, _, h => h
  | .nilp, _, _, h => h
  | .ref r, none, v, h => h
  | .ref r, some y, v, h => by
    obtain ⟨b, o, hv, hN, hr⟩ := h
    have hb := RepR.lt r _ _ _ hr
    exact ⟨b, o, hv, (hA b hN hb).2, RepR.mono hA r _ _ _ (hA b hN hb).1 hr⟩
  | .sl r, xs, v, h => by
    obtain ⟨a, cap, hv, hl, hx⟩ := h
    refine ⟨a, cap, hv, hl, fun hne => ?_⟩
    obtain ⟨b, o, ha, hN, hr⟩ := hx hne
    have hb : b < w.heap.size := by
      have hp : 0 < xs.length := by cases xs with
        | nil => exact absurd rfl hne
        | cons _ _ => simp
      have := hr 0 hp
      exact RepR.lt r _ _ _ this
    exact ⟨b, o, ha, (hA b hN hb).2, fun i hi => RepR.mono hA r _ _ _ (hA b hN hb).1 (hr i hi)⟩
theorem RepR.mono (hA : ∀ b, N b → b < w.heap.size → w'.heap[b]? = w.heap[b]? ∧ N' b) : ∀ (r : RT) (x : r.I) (b o : Nat), w'.heap[b]? = w.heap[b]? → RepR w N r x b o → RepR w' N' r x b o
  | .one c, x, b, o, hb, h => by
    obtain ⟨v, hv, hr⟩ := h
    exact ⟨v, by rw [cell_of_block hb]; exact hv, RepC.mono hA c x v hr⟩
  | .cons c r, x, b, o, hb, h => by
    obtain ⟨⟨v, hv, hr⟩, h2⟩ := h
    exact ⟨⟨v, by rw [cell_of_block hb]; exact hv, RepC.mono hA c x.1 v hr⟩, RepR.mono hA r x.2 b (o + 1) hb h2⟩
end
end

/-- The cells that a block has. -/
def wcells (w : World) (b : Nat) : Option (Array Value) := match w.heap[b]? with
  | some (.cells c _ _) => some c
  | _ => none
/-- None of its cells is frozen. -/
def warm (w : World) (b : Nat) : Prop := ∀ c, wcells w b = some c → ∀ o, o < c.size → w.frozen? ⟨b, o, none⟩ = false
theorem wcells_cell {w : World} {b : Nat} {c : Array Value} (h : wcells w b = some c) (o : Nat) : w.cell? ⟨b, o, none⟩ = c[o]? := by
  unfold wcells at h
  unfold World.cell?
  split at h <;> simp_all
theorem wcells_of_block {w w' : World} {b : Nat} (h : w'.heap[b]? = w.heap[b]?) : wcells w' b = wcells w b := by unfold wcells; rw [h]
theorem warm_of_block {w w' : World} {b : Nat} (h : w'.heap[b]? = w.heap[b]?) (k : warm w b) : warm w' b := by
  intro c hc o ho
  rw [wcells_of_block h] at hc
  have := k c hc o ho
  unfold World.frozen? at *
  rw [h]; exact this
theorem wcells_lt {w : World} {b : Nat} {c : Array Value} (h : wcells w b = some c) : b < w.heap.size := by
  unfold wcells at h
  rcases Nat.lt_or_ge b w.heap.size with h' | h'
  · exact h'
  · simp [Array.getElem?_eq_none h'] at h

/-- Which blocks do not turn any more: those that are neither others' nor named. -/
def Imm (M : Nat → Prop) (φ : Nat → Option Nat) (b : Nat) : Prop := ¬ M b ∧ ∀ s, φ s ≠ some b

/-- A slice value that begins where block s begins, of n elements. -/
def HeadOK (w : World) (r : RT) (f : Option Nat) (n : Nat) (v : Value) : Prop := match f with
  | none => v = .slice none 0 0 ∧ n = 0
  | some b => ∃ cap c, v = .slice (some ⟨b, 0, none⟩) n cap ∧ n ≤ cap ∧ wcells w b = some c ∧ c.size = cap * r.n
def CellOK (φ : Nat → Option Nat) (h : Heap) (w : World) (N : Nat → Prop) : Cell → Value → Prop
  | .any, v => v.oneCell' = true
  | .c t x, v => RepC w N t x v
  | .nils, v => v = .slice none 0 0
  | .vec s, v => ∃ r xs, hget h s = some (.lst r xs) ∧ HeadOK w r (φ s) xs.length v
  | .sub s lo n, v => ∃ r xs, hget h s = some (.lst r xs) ∧ lo + n ≤ xs.length ∧ (lo = 0 → HeadOK w r (φ s) n v) ∧
      ∃ a cap, v = .slice a n cap ∧ n ≤ cap ∧ (n ≠ 0 → ∃ b, φ s = some b ∧ a = some ⟨b, lo * r.n, none⟩)
  | .ptr s off, v => ∃ cs b, hget h s = some (.row cs) ∧ φ s = some b ∧ v = .pointer (some ⟨b, off, none⟩)
  | .eptr s i off, v => ∃ r xs b, hget h s = some (.lst r xs) ∧ φ s = some b ∧ i < xs.length ∧ v = .pointer (some ⟨b, i * r.n + off, none⟩)
  | .iptr r x off, v => ∃ b o, N b ∧ RepR w N r x b o ∧ v = .pointer (some ⟨b, o + off, none⟩)
abbrev CellsOK (φ : Nat → Option Nat) (h : Heap) (w : World) (N : Nat → Prop) (cs : List Cell) (vs : List Value) : Prop := All2 (CellOK φ h w N) cs vs
def CompOK (φ : Nat → Option Nat) (h : Heap) (w : World) (N : Nat → Prop) (x : Bool × List Cell) (v : Value) : Prop :=
  if x.1 then ∃ arr : Array Value, v = .agg arr ∧ CellsOK φ h w N x.2 arr.toList else ∃ y, x.2 = [y] ∧ CellOK φ h w N y v
def VOK (φ : Nat → Option Nat) (h : Heap) (w : World) (N : Nat → Prop) : V → Value → Prop
  | .any, _ => True
  | .skip, v => v = undef
  | .one x, v => CellOK φ h w N x v
  | .agg cs, v => ∃ arr : Array Value, v = .agg arr ∧ CellsOK φ h w N cs arr.toList
  | .tup xs, v => ∃ arr : Array Value, v = .tuple arr ∧ All2 (CompOK φ h w N) xs arr.toList
def BlkOK (φ : Nat → Option Nat) (h : Heap) (w : World) (N : Nat → Prop) (f : Option Nat) : Blk → Prop
  | .row cs => ∃ b c, f = some b ∧ wcells w b = some c ∧ warm w b ∧ CellsOK φ h w N cs c.toList
  | .lst r xs => match f with
    | none => xs = []
    | some b => ∃ cap c, wcells w b = some c ∧ warm w b ∧ c.size = cap * r.n ∧ xs.length ≤ cap ∧ ∀ i (hi : i < xs.length), RepR w N r (xs[i]'hi) b (i * r.n)

/-- What is known of names and of the heap. M: the blocks of others that may turn. -/
structure HRel (M : Nat → Prop) (φ : Nat → Option Nat) (h : Heap) (w : World) : Prop where
  blk : ∀ s b, hget h s = some b → BlkOK φ h w (Imm M φ) (φ s) b
  non : ∀ s, hget h s = none → φ s = none
  inj : ∀ s t b, φ s = some b → φ t = some b → s = t
  own : ∀ s b, φ s = some b → ¬ M b ∧ b < w.heap.size
  old : ∀ b, M b → b < w.heap.size
/-- The names whose block may be told to stay. -/
def InPin (n s : Nat) : Prop := n ≤ s ∧ s < n + 4
/-- What of the old memory may turn, and names whose block stays. -/
structure Old where
  blk : Nat → Prop
  pin : Nat → Option Nat
/-- What was there when it all began is as it was, but for the blocks O. -/
structure Frame (w0 : World) (O : Old) (w : World) : Prop where
  os : w.os = w0.os
  tape : w.tape = w0.tape
  output : w.output = w0.output
  size : w0.heap.size ≤ w.heap.size
  block : ∀ b, b < w0.heap.size → ¬ O.blk b → w.heap[b]? = w0.heap[b]?
structure Rel (w0 : World) (O : Old) (M : Nat → Prop) (φ : Nat → Option Nat) (st : St) (a : Act) (w : World) : Prop extends HRel M φ st.heap w where
  len : st.env.length = a.tmps.size
  env : ∀ t, VOK φ st.heap w (Imm M φ) (lget st.env t .any) (a.tmps.getD t undef)
  defers : a.defers = []
  frm : Frame w0 O w
  fresh : ∀ s b, φ s = some b → O.blk b ∨ w0.heap.size ≤ b
  pin : ∀ s b, O.pin s = some b → φ s = some b ∧ InPin st.env.length s ∧ ∃ cs, hget st.heap s = some (.row cs)

/-! ### Memory that grows, names that come -/
/-- Blocks of one kind and size. -/
def likeB : Blk → Blk → Prop
  | .row _, .row _ => True
  | .lst r xs, .lst r' xs' => r = r' ∧ xs.length = xs'.length
  | _, _ => False
theorem likeB.refl : ∀ b : Blk, likeB b b
  | .row _ => trivial
  | .lst _ _ => ⟨rfl, rfl⟩
/-- The second tells all that the first one tells. -/
structure Sub (φ : Nat → Option Nat) (h : Heap) (φ' : Nat → Option Nat) (h' : Heap) : Prop where
  at_ : ∀ s b, hget h s = some b → ∃ b', hget h' s = some b' ∧ likeB b b' ∧ φ' s = φ s
theorem Sub.refl (φ : Nat → Option Nat) (h : Heap) : Sub φ h φ h := ⟨fun _ b hb => ⟨b, hb, likeB.refl b, rfl⟩⟩
theorem Sub.row {φ : Nat → Option Nat} {h : Heap} {φ' : Nat → Option Nat} {h' : Heap} (k : Sub φ h φ' h') {s : Nat} {cs : List Cell} (hs : hget h s = some (.row cs)) : ∃ cs', hget h' s = some (.row cs') ∧ φ' s = φ s := by
  obtain ⟨b', h1, h2, h3⟩ := k.at_ s _ hs
  cases b' with
  | row cs' => exact ⟨cs', h1, h3⟩
  | lst _ _ => exact h2.elim
theorem Sub.lst {φ : Nat → Option Nat} {h : Heap} {φ' : Nat → Option Nat} {h' : Heap} (k : Sub φ h φ' h') {s : Nat} {r : RT} {xs : List r.I} (hs : hget h s = some (.lst r xs)) :
    ∃ xs' : List r.I, hget h' s = some (.lst r xs') ∧ xs'.length = xs.length ∧ φ' s = φ s := by
  obtain ⟨b', h1, h2, h3⟩ := k.at_ s _ hs
  cases b' with
  | row cs' => exact h2.elim
  | lst r' xs' =>
    obtain ⟨e, hl⟩ := h2
    subst e
    exact ⟨xs', h1, hl.symm, h3⟩

section
variable {φ φ' : Nat → Option Nat} {h h' : Heap} {w w' : World} {N N' : Nat → Prop}
/-- The step from one telling to a later one. -/
structure Later (φ : Nat → Option Nat) (h : Heap) (w : World) (N : Nat → Prop) (φ' : Nat → Option Nat) (h' : Heap) (w' : World) (N' : Nat → Prop) : Prop where
  sub : Sub φ h φ' h'
  imm : ∀ b, N b → b < w.heap.size → w'.heap[b]? = w.heap[b]? ∧ N' b
  own : ∀ s b, φ s = some b → wcells w b ≠ none → ∀ c, wcells w b = some c → ∃ c', wcells w' b = some c' ∧ c'.size = c.size
theorem HeadOK.later {r : RT} {s n : Nat} {v : Value} (hL : Later φ h w N φ' h' w' N') (hs : φ' s = φ s) (k : HeadOK w r (φ s) n v) : HeadOK w' r (φ' s) n v := by
  rw [hs]
  unfold HeadOK at *
  cases hf : φ s with
  | none => rw [hf] at k; exact k
  | some b =>
    rw [hf] at k
    obtain ⟨cap, c, hv, hn, hc, hsz⟩ := k
    obtain ⟨c', hc', hs'⟩ := hL.own s b hf (by rw [hc]; simp) c hc
    exact ⟨cap, c', hv, hn, hc', by rw [hs', hsz]⟩
theorem CellOK.later (hL : Later φ h w N φ' h' w' N') : ∀ {x : Cell} {v : Value}, CellOK φ h w N x v → CellOK φ' h' w' N' x v
  | .any, _, k => k
  | .c t x, v, k => RepC.mono hL.imm t x v k
  | .nils, _, k => k
  | .vec s, v, ⟨r, xs, hs, k⟩ => by
    obtain ⟨xs', h1, h2, h3⟩ := hL.sub.lst hs
    exact ⟨r, xs', h1, by rw [h2]; exact k.later hL h3⟩
  | .sub s lo n, v, ⟨r, xs, hs, hl, hz, a, cap, hv, hn, ha⟩ => by
    obtain ⟨xs', h1, h2, h3⟩ := hL.sub.lst hs
    exact ⟨r, xs', h1, by rw [h2]; exact hl, fun h0 => (hz h0).later hL h3, a, cap, hv, hn, fun h0 => by rw [h3]; exact ha h0⟩
  | .ptr s off, v, ⟨cs, b, hs, hf, hv⟩ => by
    obtain ⟨cs', h1, h3⟩ := hL.sub.row hs
    exact ⟨cs', b, h1, by rw [h3]; exact hf, hv⟩
  | .eptr s i off, v, ⟨r, xs, b, hs, hf, hi, hv⟩ => by
    obtain ⟨xs', h1, h2, h3⟩ := hL.sub.lst hs
    exact ⟨r, xs', b, h1, by rw [h3]; exact hf, by rw [h2]; exact hi, hv⟩
  | .iptr r x off, v, ⟨b, o, hN, hr, hv⟩ =>
    have hb : b < w.heap.size := RepR.lt r x b o hr
    ⟨b, o, (hL.imm b hN hb).2, RepR.mono hL.imm r x b o (hL.imm b hN hb).1 hr, hv⟩
theorem RepC.oneCell {w : World} {N : Nat → Prop} : ∀ {t : CT} {x : t.I} {v : Value}, RepC w N t x v → v.oneCell' = true
  | .int _, _, _, k => by rw [show _ = _ from k]; rfl
  | .bool, _, _, k => by rw [show _ = _ from k]; rfl
  | .str, _, _, k => by rw [show _ = _ from k]; rfl
  | .nilp, _, _, k => by rw [show _ = _ from k]; rfl
  | .ref _, none, _, k => by rw [show _ = _ from k]; rfl
  | .ref _, some _, _, ⟨_, _, k, _⟩ => by rw [k]; rfl
  | .sl _, _, _, ⟨_, _, k, _⟩ => by rw [k]; rfl
theorem CellOK.oneCell {φ : Nat → Option Nat} {h : Heap} {w : World} {N : Nat → Prop} : ∀ {x : Cell} {v : Value}, CellOK φ h w N x v → v.oneCell' = true
  | .any, _, k => k
  | .c _ _, _, k => RepC.oneCell k
  | .nils, _, k => by rw [show _ = _ from k]; rfl
  | .vec s, v, ⟨r, xs, hs, k⟩ => by
    unfold HeadOK at k
    cases hf : φ s <;> rw [hf] at k
    · rw [k.1]; rfl
    · obtain ⟨_, _, hv, _⟩ := k; rw [hv]; rfl
  | .sub _ _ _, _, ⟨_, _, _, _, _, _, _, k, _⟩ => by rw [k]; rfl
  | .ptr _ _, _, ⟨_, _, _, _, k⟩ => by rw [k]; rfl
  | .eptr _ _ _, _, ⟨_, _, _, _, _, _, k⟩ => by rw [k]; rfl
  | .iptr _ _ _, _, ⟨_, _, _, _, k⟩ => by rw [k]; rfl
theorem CellsOK.oneCell {φ : Nat → Option Nat} {h : Heap} {w : World} {N : Nat → Prop} : ∀ {cs : List Cell} {vs : List Value}, CellsOK φ h w N cs vs → ∀ v ∈ vs, v.oneCell' = true
  | [], [], _, v, hv => by simp at hv
  | [], _ :: _, k, _, _ => k.elim
  | _ :: _, [], k, _, _ => k.elim
  | _ :: _, _ :: _, k, v, hv => by
    rcases List.mem_cons.1 hv with rfl | hv
    · exact k.1.oneCell
    · exact CellsOK.oneCell k.2 v hv
theorem CellsOK.later (hL : Later φ h w N φ' h' w' N') {cs : List Cell} {vs : List Value} (k : CellsOK φ h w N cs vs) : CellsOK φ' h' w' N' cs vs :=
  All2.imp (fun _ _ k => CellOK.later hL k) k
theorem CompOK.later (hL : Later φ h w N φ' h' w' N') {x : Bool × List Cell} {v : Value} (k : CompOK φ h w N x v) : CompOK φ' h' w' N' x v := by
  unfold CompOK at *
  split
  · rename_i hx
    rw [if_pos hx] at k
    obtain ⟨arr, hv, ha⟩ := k
    exact ⟨arr, hv, CellsOK.later hL ha⟩
  · rename_i hx
    rw [if_neg hx] at k
    obtain ⟨y, hy, ha⟩ := k
    exact ⟨y, hy, CellOK.later hL ha⟩
theorem VOK.later (hL : Later φ h w N φ' h' w' N') : ∀ {x : V} {v : Value}, VOK φ h w N x v → VOK φ' h' w' N' x v
  | .any, _, _ => trivial
  | .skip, _, k => k
  | .one x, v, k => CellOK.later hL k
  | .agg cs, v, ⟨arr, hv, k⟩ => ⟨arr, hv, CellsOK.later hL k⟩
  | .tup xs, v, ⟨arr, hv, k⟩ => ⟨arr, hv, All2.imp (fun _ _ k => CompOK.later hL k) k⟩
end

theorem Imm.ext {M : Nat → Prop} {φ φ' : Nat → Option Nat} {w : World} (hφ : ∀ s b, φ' s = some b → b < w.heap.size → φ s = some b) {b : Nat} (h : Imm M φ b) (hb : b < w.heap.size) : Imm M φ' b :=
  ⟨h.1, fun s hs => h.2 s (hφ s b hs hb)⟩

/-- Memory has grown, nothing that was there has turned, perhaps a name has come. -/
theorem Later.grow {M : Nat → Prop} {φ φ' : Nat → Option Nat} {h h' : Heap} {w w' : World} (he : Ext w w') (hs : Sub φ h φ' h') (hφ : ∀ s b, φ' s = some b → b < w.heap.size → φ s = some b) :
    Later φ h w (Imm M φ) φ' h' w' (Imm M φ') where
  sub := hs
  imm := fun b hN hb => ⟨he.block b hb, hN.ext hφ hb⟩
  own := fun s b _ _ c hc => ⟨c, by rw [wcells_of_block (he.block b (wcells_lt hc))]; exact hc, rfl⟩
theorem BlkOK.grow {M : Nat → Prop} {φ φ' : Nat → Option Nat} {h h' : Heap} {w w' : World} (he : Ext w w') (hs : Sub φ h φ' h') (hφ : ∀ s b, φ' s = some b → b < w.heap.size → φ s = some b)
    {f : Option Nat} {x : Blk} (k : BlkOK φ h w (Imm M φ) f x) : BlkOK φ' h' w' (Imm M φ') f x := by
  have hL : Later φ h w (Imm M φ) φ' h' w' (Imm M φ') := Later.grow he hs hφ
  cases x with
  | row cs =>
    obtain ⟨b, c, hf, hc, hw, k⟩ := k
    have hb := he.block b (wcells_lt hc)
    exact ⟨b, c, hf, by rw [wcells_of_block hb]; exact hc, warm_of_block hb hw, CellsOK.later hL k⟩
  | lst r xs =>
    cases f with
    | none => exact k
    | some b =>
      obtain ⟨cap, c, hc, hw, hsz, hl, k⟩ := k
      have hb := he.block b (wcells_lt hc)
      exact ⟨cap, c, by rw [wcells_of_block hb]; exact hc, warm_of_block hb hw, hsz, hl, fun i hi => RepR.mono hL.imm r _ _ _ hb (k i hi)⟩
theorem HRel.grow {M : Nat → Prop} {φ : Nat → Option Nat} {h : Heap} {w w' : World} (k : HRel M φ h w) (he : Ext w w') : HRel M φ h w' where
  blk := fun s b hb => (k.blk s b hb).grow he (Sub.refl _ _) (fun _ _ h _ => h)
  non := k.non
  inj := k.inj
  own := fun s b hs => ⟨(k.own s b hs).1, Nat.lt_of_lt_of_le (k.own s b hs).2 he.size⟩
  old := fun b hb => Nat.lt_of_lt_of_le (k.old b hb) he.size

/-! ### A new name -/
def upd (φ : Nat → Option Nat) (d : Nat) (b : Option Nat) : Nat → Option Nat := fun s => if s = d then b else φ s
theorem upd_same (φ : Nat → Option Nat) (d : Nat) (b : Option Nat) : upd φ d b d = b := if_pos rfl
theorem upd_other (φ : Nat → Option Nat) {d s : Nat} (b : Option Nat) (h : s ≠ d) : upd φ d b s = φ s := if_neg h
theorem hget_hset_same (h : Heap) (s : Nat) (b : Blk) (hl : s < h.length) : hget (hset h s b) s = some b := by unfold hget hset; rw [lget_lset_same _ _ _ _ hl]
theorem hget_hset_other (h : Heap) (s t : Nat) (b : Blk) (hn : s ≠ t) : hget (hset h s b) t = hget h t := by unfold hget hset; rw [lget_lset_other _ _ _ _ _ hn]
theorem hget_lt {h : Heap} {s : Nat} {b : Blk} (hb : hget h s = some b) : s < h.length := by
  unfold hget at hb
  rw [lget_eq] at hb
  rcases Nat.lt_or_ge s h.length with h' | h'
  · exact h'
  · simp [List.getElem?_eq_none h'] at hb
theorem hget_hset (h : Heap) (s t : Nat) (b : Blk) : hget (hset h s b) t = if s = t ∧ s < h.length then some b else hget h t := by
  unfold hget hset; rw [lget_lset]
theorem Sub.name {φ : Nat → Option Nat} {h : Heap} {d : Nat} {f : Option Nat} {b : Blk} (hd : hget h d = none) : Sub φ h (upd φ d f) (hset h d b) where
  at_ := fun s x hs => by
    have hne : d ≠ s := fun e => by subst e; rw [hd] at hs; cases hs
    exact ⟨x, by rw [hget_hset_other _ _ _ _ hne]; exact hs, likeB.refl x, upd_other _ _ (Ne.symm hne)⟩
/-- A block that is new, and the name for it. -/
theorem HRel.name {M : Nat → Prop} {φ : Nat → Option Nat} {h : Heap} {w w' : World} (k : HRel M φ h w) (he : Ext w w') {d : Nat} (hd : hget h d = none) {f : Option Nat} {x : Blk}
    (hf : ∀ b, f = some b → w.heap.size ≤ b ∧ b < w'.heap.size) (hx : BlkOK (upd φ d f) (hset h d x) w' (Imm M (upd φ d f)) f x) (hl : d < h.length) :
    HRel M (upd φ d f) (hset h d x) w' := by
  have hφ : ∀ s b, upd φ d f s = some b → b < w.heap.size → φ s = some b := fun s b hs hb => by
    unfold upd at hs
    split at hs
    · have := (hf b hs).1; omega
    · exact hs
  refine ⟨fun s b hb => ?_, fun s hs => ?_, fun s t b hs ht => ?_, fun s b hs => ?_, fun b hb => Nat.lt_of_lt_of_le (k.old b hb) he.size⟩
  · by_cases hsd : s = d
    · subst hsd
      rw [hget_hset_same _ _ _ hl] at hb
      cases hb
      rw [upd_same]
      exact hx
    · rw [hget_hset_other _ _ _ _ (Ne.symm hsd)] at hb
      rw [upd_other _ _ hsd]
      exact (k.blk s b hb).grow he (Sub.name hd) hφ
  · by_cases hsd : s = d
    · subst hsd
      rw [hget_hset_same _ _ _ hl] at hs
      cases hs
    · rw [hget_hset_other _ _ _ _ (Ne.symm hsd)] at hs
      rw [upd_other _ _ hsd]
      exact k.non s hs
  · unfold upd at hs ht
    split at hs <;> split at ht
    · subst_vars; rfl
    · have := (hf b hs).1; have := (k.own t b ht).2; omega
    · have := (hf b ht).1; have := (k.own s b hs).2; omega
    · exact k.inj s t b hs ht
  · unfold upd at hs
    split at hs
    · refine ⟨fun hM => ?_, (hf b hs).2⟩
      have := k.old b hM
      have := (hf b hs).1
      omega
    · exact ⟨(k.own s b hs).1, Nat.lt_of_lt_of_le (k.own s b hs).2 he.size⟩
end Go.AM
