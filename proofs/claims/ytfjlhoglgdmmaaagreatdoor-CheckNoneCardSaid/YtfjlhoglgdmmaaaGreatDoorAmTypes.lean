/- The abstract machine's table of types, held against a program's own. -/
import Derived.Test.YtfjlhoglgdmmaaaGreatDoorAmRel
set_option autoImplicit false
set_option linter.unusedVariables false
namespace Go.AM

/-- Values that lead nowhere: what a type's zero value is made of. -/
def statC : Cell → Value → Bool
  | .c (.int k) x, .int k' y => kindEq k k' && decide (x = y)
  | .c .bool x, .bool y => x == y
  | .c .str x, .string s => x.isEmpty && s.data.toList.isEmpty
  | .c .nilp _, .pointer none => true
  | .nils, .slice none 0 0 => true
  | .any, v => v.oneCell'
  | _, _ => false
theorem kindEq_eq {a b : IntKind} (h : kindEq a b = true) : a = b := by
  cases a <;> cases b <;> first | rfl | (simp [kindEq] at h)
theorem kindEq_refl (a : IntKind) : kindEq a a = true := by cases a <;> rfl
theorem statC_ok {φ : Nat → Option Nat} {h : Heap} {w : World} {N : Nat → Prop} {x : Cell} {v : Value} (k : statC x v = true) : CellOK φ h w N x v := by
  unfold statC at k
  split at k
  · simp only [Bool.and_eq_true, decide_eq_true_eq] at k
    have := kindEq_eq k.1
    subst this
    show _ = _
    rw [k.2]
  · show _ = _
    simp at k; rw [k]
  · rename_i x s
    simp only [Bool.and_eq_true, List.isEmpty_iff] at k
    show _ = Value.string _
    obtain ⟨k1, k2⟩ := k
    subst k1
    congr 1
    cases s with
    | mk d => simp at k2; simp [k2]
  · rfl
  · rfl
  · exact k
  · cases k
def statCs : List Cell → List Value → Bool
  | [], [] => true
  | x :: l, v :: m => statC x v && statCs l m
  | _, _ => false
theorem statCs_ok {φ : Nat → Option Nat} {h : Heap} {w : World} {N : Nat → Prop} : ∀ {cs : List Cell} {vs : List Value}, statCs cs vs = true → CellsOK φ h w N cs vs
  | [], [], _ => trivial
  | [], _ :: _, k => by simp [statCs] at k
  | _ :: _, [], k => by simp [statCs] at k
  | _ :: _, _ :: _, k => by
    simp only [statCs, Bool.and_eq_true] at k
    exact ⟨statC_ok k.1, statCs_ok k.2⟩
def zeroCheck (ti : TI) : Value → Bool
  | .agg arr => ti.agg && statCs ti.zero arr.toList
  | v => !ti.agg && (match ti.zero with
    | [x] => statC x v
    | _ => false)
def fieldsOf (P : Program) : List Field → List (Nat × Nat) → Bool
  | [], [] => true
  | f :: l, x :: m => Nat.beq f.type x.1 && Nat.beq f.offset x.2 && (match P.info? f.type with
      | some i => !Nat.beq i.size 0
      | none => false) && fieldsOf P l m
  | _, _ => false
def descCheck (P : Program) : TD → TypeDesc → Bool
  | .int k, .int k' => kindEq k k'
  | .bool, .bool => true
  | .str, .string => true
  | .ptr e, .pointer e' => Nat.beq e e'
  | .slice e, .slice e' => Nat.beq e e'
  | .arr n e, .array n' e' => Nat.beq n n' && Nat.beq e e'
  | .struct fs, .struct gs => fieldsOf P gs.toList fs
  | .other, .struct _ => false
  | .other, .array _ _ => false
  | .other, _ => true
  | _, _ => false
/-- The row's own zero is what the zero cells say. -/
def cellZero : CT → Cell → Bool
  | .int k, .c (.int k') x => kindEq k k' && decide (x = 0)
  | .bool, .c .bool x => !x
  | .str, .c .str x => x.isEmpty
  | .nilp, .c .nilp _ => true
  | .ref _, .c .nilp _ => true
  | .sl _, .nils => true
  | _, _ => false
def rowZero : (r : RT) → List Cell → Bool
  | .one c, [x] => cellZero c x
  | .cons c r, x :: l => cellZero c x && rowZero r l
  | _, _ => false
def tiCheck (P : Program) (t : Nat) (ti : TI) : Bool :=
  (match P.info? t with
    | some i => Nat.beq i.size ti.size && Nat.beq i.bytes ti.bytes && (match i.zero with
      | some z => zeroCheck ti z
      | none => false)
    | none => false) &&
  (match P.underlying t with
    | some d => descCheck P ti.d d
    | none => false) &&
  (match ti.row with
    | some r => Nat.beq r.n ti.size && rowZero r ti.zero
    | none => true)
/-- May it be compared as the abstract machine compares? -/
def eqCheck (P : Program) (t : Nat) (ti : TI) : Bool := !ti.eq || (!P.eqGuardType P.depth t && (match P.underlying t with
  | some (.struct gs) => !P.stoodInHeld t && gs.toList.all (fun f => f.name != "_")
  | _ => true))
def tCheck (P : Program) : List (Nat × TI) → Bool
  | [] => true
  | (t, ti) :: l => (tiCheck P t ti && eqCheck P t ti) && tCheck P l
structure TIok (P : Program) (t : Nat) (ti : TI) : Prop where
  ok : tiCheck P t ti = true
  eqok : eqCheck P t ti = true
def TOK (P : Program) (T : List (Nat × TI)) : Prop := ∀ t ti, tfind T t = some ti → TIok P t ti
theorem tCheck_ok {P : Program} : ∀ {T : List (Nat × TI)}, tCheck P T = true → TOK P T
  | [], _, t, ti, h => by simp [tfind] at h
  | (k, x) :: l, hc, t, ti, h => by
    simp only [tCheck, Bool.and_eq_true] at hc
    unfold tfind at h
    cases hb : Nat.beq k t with
    | true =>
      rw [hb] at h
      have : k = t := Nat.eq_of_beq_eq_true hb
      subst this
      simp at h
      subst h
      exact ⟨hc.1.1, hc.1.2⟩
    | false =>
      rw [hb] at h
      exact tCheck_ok hc.2 t ti (by simpa using h)

section
variable {P : Program} {t : Nat} {ti : TI} (hT : TIok P t ti)
include hT
theorem TIok.info : ∃ i, P.info? t = some i ∧ i.size = ti.size ∧ i.bytes = ti.bytes ∧ ∃ z, i.zero = some z ∧ zeroCheck ti z = true := by
  have h := hT.ok
  simp only [tiCheck, Bool.and_eq_true] at h
  obtain ⟨⟨h1, _⟩, _⟩ := h
  split at h1
  · rename_i i hi
    simp only [Bool.and_eq_true] at h1
    obtain ⟨⟨ha, hb⟩, hc⟩ := h1
    split at hc
    · rename_i z hz
      exact ⟨i, hi, Nat.eq_of_beq_eq_true ha, Nat.eq_of_beq_eq_true hb, z, hz, hc⟩
    · cases hc
  · cases h1
theorem TIok.desc : ∃ d, P.underlying t = some d ∧ descCheck P ti.d d = true := by
  have h := hT.ok
  simp only [tiCheck, Bool.and_eq_true] at h
  obtain ⟨⟨_, h2⟩, _⟩ := h
  split at h2
  · rename_i d hd; exact ⟨d, hd, h2⟩
  · cases h2
theorem TIok.rown {r : RT} (hr : ti.row = some r) : r.n = ti.size ∧ rowZero r ti.zero = true := by
  have h := hT.ok
  simp only [tiCheck, Bool.and_eq_true] at h
  obtain ⟨_, h3⟩ := h
  rw [hr] at h3
  simp only [Bool.and_eq_true] at h3
  exact ⟨Nat.eq_of_beq_eq_true h3.1, h3.2⟩
theorem TIok.under_int {k : IntKind} (h : ti.d = .int k) : P.underlying t = some (.int k) := by
  obtain ⟨d, hd, hc⟩ := hT.desc
  rw [h] at hc
  cases d <;> simp [descCheck] at hc
  rw [hd, kindEq_eq hc]
theorem TIok.under_str (h : ti.d = .str) : P.underlying t = some .string := by
  obtain ⟨d, hd, hc⟩ := hT.desc
  rw [h] at hc
  cases d <;> simp [descCheck] at hc
  rw [hd]
theorem TIok.under_slice {e : Nat} (h : ti.d = .slice e) : P.underlying t = some (.slice e) := by
  obtain ⟨d, hd, hc⟩ := hT.desc
  rw [h] at hc
  cases d <;> simp [descCheck] at hc
  rw [hd, hc]
theorem TIok.under_arr {n e : Nat} (h : ti.d = .arr n e) : P.underlying t = some (.array n e) := by
  obtain ⟨d, hd, hc⟩ := hT.desc
  rw [h] at hc
  cases d <;> simp [descCheck] at hc
  rw [hd, hc.1, hc.2]
theorem TIok.under_struct {fs : List (Nat × Nat)} (h : ti.d = .struct fs) : ∃ gs, P.underlying t = some (.struct gs) ∧ fieldsOf P gs.toList fs = true := by
  obtain ⟨d, hd, hc⟩ := hT.desc
  rw [h] at hc
  cases d <;> simp [descCheck] at hc
  exact ⟨_, hd, hc⟩
theorem TIok.isAgg (w : World) : (isAgg t).run P w = .ok ti.agg w := by
  obtain ⟨d, hd, hc⟩ := hT.desc
  have hu := run_underlying hd w
  unfold Go.isAgg TI.agg
  simp only [Sem.run_bind, hu, Result.andThen_ok]
  cases hti : ti.d <;> rw [hti] at hc <;> cases d <;> simp [descCheck] at hc <;> rfl
theorem TIok.sizeOf (w : World) : (sizeOf t).run P w = .ok ti.size w := by
  obtain ⟨i, hi, hs, _⟩ := hT.info
  unfold Go.sizeOf typeInfo
  simp [program, Sem.run, hi, hs]
theorem TIok.typeInfo (w : World) : ∃ i, (typeInfo t).run P w = .ok i w ∧ i.bytes = ti.bytes ∧ i.size = ti.size := by
  obtain ⟨i, hi, hs, hb, _⟩ := hT.info
  refine ⟨i, ?_, hb, hs⟩
  unfold Go.typeInfo
  simp [program, Sem.run, hi]
theorem TIok.zeroValue (w : World) : ∃ z, (zeroValue t).run P w = .ok z w ∧ zeroCheck ti z = true := by
  obtain ⟨i, hi, _, _, z, hz, hc⟩ := hT.info
  refine ⟨z, ?_, hc⟩
  unfold Go.zeroValue Go.typeInfo
  simp [program, Sem.run, hi, hz]
end
theorem fields_get {P : Program} : ∀ {gs : List Field} {fs : List (Nat × Nat)}, fieldsOf P gs fs = true → ∀ (i : Nat) x, lget (lmap some fs) i none = some x →
    ∃ f, gs[i]? = some f ∧ f.type = x.1 ∧ f.offset = x.2 ∧ ∃ j, P.info? f.type = some j ∧ j.size ≠ 0
  | [], [], _, i, x, h => by simp [lmap, lget_nil] at h
  | [], _ :: _, h, _, _, _ => by simp [fieldsOf] at h
  | _ :: _, [], h, _, _, _ => by simp [fieldsOf] at h
  | g :: gs, y :: fs, h, 0, x, hx => by
    simp only [fieldsOf, Bool.and_eq_true] at h
    obtain ⟨⟨⟨h1, h2⟩, h3⟩, _⟩ := h
    simp [lmap, lget] at hx
    subst hx
    refine ⟨g, rfl, Nat.eq_of_beq_eq_true h1, Nat.eq_of_beq_eq_true h2, ?_⟩
    split at h3
    · rename_i j hj
      refine ⟨j, hj, fun e => ?_⟩
      rw [e] at h3; simp at h3
    · cases h3
  | g :: gs, y :: fs, h, i + 1, x, hx => by
    simp only [fieldsOf, Bool.and_eq_true] at h
    simp [lmap, lget] at hx
    obtain ⟨f, hf, r⟩ := fields_get h.2 i x hx
    exact ⟨f, by simpa using hf, r⟩

/-! ### Rows and cells -/
section
variable {φ : Nat → Option Nat} {h : Heap} {w : World} {N : Nat → Prop}
theorem rowCells_length : ∀ (r : RT) (x : r.I), (rowCells r x).length = r.n
  | .one _, _ => rfl
  | .cons c r, x => by simp [rowCells, RT.n, rowCells_length r x.2]
mutual
theorem CT.eq?_refl : ∀ (c : CT), CT.eq? c c = some ⟨rfl⟩
  | .int k => by simp [CT.eq?]
  | .bool => rfl
  | .str => rfl
  | .nilp => rfl
  | .sl r => by simp [CT.eq?, RT.eq?_refl r]
  | .ref r => by simp [CT.eq?, RT.eq?_refl r]
theorem RT.eq?_refl : ∀ (r : RT), RT.eq? r r = some ⟨rfl⟩
  | .one c => by simp [RT.eq?, CT.eq?_refl c]
  | .cons c r => by simp [RT.eq?, CT.eq?_refl c, RT.eq?_refl r]
end
theorem castCell_c (t : CT) (x : t.I) : castCell t (.c t x) = some x := by
  simp [castCell, CT.eq?_refl]
theorem cellZero_cast : ∀ (c : CT) (x : Cell), cellZero c x = true → castCell c x = some c.zero := by
  intro c x k
  unfold cellZero at k
  split at k
  · simp only [Bool.and_eq_true, decide_eq_true_eq] at k
    have := kindEq_eq k.1
    subst this
    rw [castCell_c, k.2]; rfl
  · rw [castCell_c]; simp at k; rw [k]; rfl
  · rw [castCell_c]; simp at k; rw [k]; rfl
  · rw [castCell_c]
  · rfl
  · rfl
  · cases k
theorem rowZero_toRow : ∀ (r : RT) (cs : List Cell), rowZero r cs = true → toRow r cs = some r.zero
  | .one c, [], k => by simp [rowZero] at k
  | .one c, [x], k => by simp only [rowZero] at k; simp only [toRow]; rw [cellZero_cast c x k]; rfl
  | .one c, _ :: _ :: _, k => by simp [rowZero] at k
  | .cons c r, [], k => by simp [rowZero] at k
  | .cons c r, x :: l, k => by
    simp only [rowZero, Bool.and_eq_true] at k
    simp only [toRow]
    rw [cellZero_cast c x k.1, rowZero_toRow r l k.2]
    rfl
theorem castCell_ok {φ : Nat → Option Nat} {h : Heap} {w : World} {N : Nat → Prop} {t : CT} {x : Cell} {y : t.I} {v : Value} (hc : castCell t x = some y) (k : CellOK φ h w N x v) : RepC w N t y v := by
  unfold castCell at hc
  split at hc
  · rename_i t' x
    split at hc
    · rename_i e he
      obtain ⟨e⟩ := e
      subst e
      simp at hc
      subst hc
      exact k
    · split at hc
      · cases hc; exact k
      · cases hc
  · split at hc
    · split at hc
      · rename_i e he
        obtain ⟨e⟩ := e
        subst e
        cases hc
        obtain ⟨b, o, hN, hr, hv⟩ := k
        exact ⟨b, o, hv, hN, hr⟩
      · cases hc
    · cases hc
  · split at hc
    · simp at hc
      subst hc
      exact ⟨none, 0, k, Nat.le_refl _, fun hne => absurd rfl hne⟩
    · cases hc
  · cases hc
/-- The cells of a row, somewhere. -/
def CellsAt (w : World) (b : Nat) : Nat → List Value → Prop
  | _, [] => True
  | o, v :: l => w.cell? ⟨b, o, none⟩ = some v ∧ CellsAt w b (o + 1) l
theorem toRow_ok {φ : Nat → Option Nat} {h : Heap} {w w' : World} {N N' : Nat → Prop} (hA : ∀ b, N b → b < w.heap.size → w'.heap[b]? = w.heap[b]? ∧ N' b) : ∀ {r : RT} {cs : List Cell} {y : r.I} {vs : List Value} {b o : Nat},
    toRow r cs = some y → CellsOK φ h w N cs vs → CellsAt w' b o vs → RepR w' N' r y b o
  | .one c, [x], y, [v], b, o, ht, hk, ha => ⟨v, ha.1, RepC.mono hA c y v (castCell_ok ht hk.1)⟩
  | .one c, [x], y, [], _, _, _, hk, _ => hk.elim
  | .one c, [x], y, _ :: _ :: _, _, _, _, hk, _ => hk.2.elim
  | .one c, [], y, _, _, _, ht, _, _ => by simp [toRow] at ht
  | .one c, _ :: _ :: _, y, _, _, _, ht, _, _ => by simp [toRow] at ht
  | .cons c r, [], y, _, _, _, ht, _, _ => by simp [toRow] at ht
  | .cons c r, x :: l, y, [], _, _, _, hk, _ => hk.elim
  | .cons c r, x :: l, y, v :: m, b, o, ht, hk, ha => by
    simp only [toRow] at ht
    split at ht
    · rename_i a d h1 h2
      cases ht
      exact ⟨⟨v, ha.1, RepC.mono hA c a v (castCell_ok h1 hk.1)⟩, toRow_ok hA h2 hk.2 ha.2⟩
    · cases ht
theorem toRow_length : ∀ {r : RT} {cs : List Cell} {y : r.I}, toRow r cs = some y → cs.length = r.n
  | .one c, [x], _, _ => rfl
  | .one c, [], _, h => by simp [toRow] at h
  | .one c, _ :: _ :: _, _, h => by simp [toRow] at h
  | .cons c r, [], _, h => by simp [toRow] at h
  | .cons c r, x :: l, y, h => by
    simp only [toRow] at h
    split at h
    · rename_i a d h1 h2
      simp [RT.n, toRow_length h2]
    · cases h
/-- A row that is known is known cell by cell. -/
theorem RepR.cells {w : World} {N : Nat → Prop} : ∀ {r : RT} {x : r.I} {b o : Nat}, RepR w N r x b o → ∃ vs, CellsAt w b o vs ∧ CellsOK (fun _ => none) [] w N (rowCells r x) vs
  | .one c, x, b, o, k => by
    obtain ⟨v, hv, hr⟩ := k
    exact ⟨[v], ⟨hv, trivial⟩, ⟨hr, trivial⟩⟩
  | .cons c r, x, b, o, k => by
    obtain ⟨⟨v, hv, hr⟩, h2⟩ := k
    obtain ⟨vs, h3, h4⟩ := RepR.cells h2
    exact ⟨v :: vs, ⟨hv, h3⟩, ⟨hr, h4⟩⟩
theorem rowCells_plain {φ φ' : Nat → Option Nat} {h h' : Heap} {w : World} {N : Nat → Prop} : ∀ {r : RT} {x : r.I} {vs : List Value}, CellsOK φ h w N (rowCells r x) vs → CellsOK φ' h' w N (rowCells r x) vs
  | .one c, x, [v], k => ⟨k.1, trivial⟩
  | .one c, x, [], k => k.elim
  | .one c, x, _ :: _ :: _, k => k.2.elim
  | .cons c r, x, [], k => k.elim
  | .cons c r, x, v :: m, k => ⟨k.1, rowCells_plain k.2⟩
theorem CellsAt.get {w : World} {b : Nat} : ∀ {o : Nat} {vs : List Value}, CellsAt w b o vs → ∀ i v, vs[i]? = some v → w.cell? ⟨b, o + i, none⟩ = some v
  | o, [], _, i, v, h => by simp at h
  | o, v :: l, k, 0, u, h => by simp at h; subst h; exact k.1
  | o, v :: l, k, i + 1, u, h => by
    have := CellsAt.get k.2 i u (by simpa using h)
    rw [show o + (i + 1) = o + 1 + i by omega]; exact this
theorem CellsAt.of_get {w : World} {b : Nat} : ∀ {o : Nat} {vs : List Value}, (∀ i v, vs[i]? = some v → w.cell? ⟨b, o + i, none⟩ = some v) → CellsAt w b o vs
  | o, [], _ => trivial
  | o, v :: l, k => ⟨by simpa using k 0 v rfl, CellsAt.of_get fun i u hu => by rw [show o + 1 + i = o + (i + 1) by omega]; exact k (i + 1) u (by simpa using hu)⟩
end
end Go.AM
