/- Rows of elements as lists of cells, and what an append comes to. -/
import Derived.Test.YtfjlhoglgdmmaaaGreatDoorAmB2
set_option autoImplicit false
set_option linter.unusedVariables false
set_option linter.unusedSimpArgs false
namespace Go.AM
/-- The cells vs are those of the elements ys. -/
def RowsAre (w : World) (N : Nat → Prop) (r : RT) : List r.I → List Value → Prop
  | [], vs => vs = []
  | y :: ys, vs => ∃ a b, vs = a ++ b ∧ CellsOK (fun _ => none) [] w N (rowCells r y) a ∧ RowsAre w N r ys b
theorem toRow_rowCells : ∀ (r : RT) (x : r.I), toRow r (rowCells r x) = some x
  | .one c, x => by simp [rowCells, toRow, castCell_c]
  | .cons c r, x => by simp [rowCells, toRow, castCell_c, toRow_rowCells r x.2]
section
variable {w w' : World} {N N' : Nat → Prop} {r : RT}
theorem CellsAt.append {b : Nat} : ∀ {o : Nat} {vs us : List Value}, CellsAt w b o vs → CellsAt w b (o + vs.length) us → CellsAt w b o (vs ++ us)
  | o, [], us, _, h => by simpa using h
  | o, v :: vs, us, h, k => ⟨h.1, CellsAt.append h.2 (by rw [show o + 1 + vs.length = o + (v :: vs).length by simp; omega]; exact k)⟩
theorem CellsAt.left {b : Nat} : ∀ {o : Nat} {vs us : List Value}, CellsAt w b o (vs ++ us) → CellsAt w b o vs
  | o, [], us, _ => trivial
  | o, v :: vs, us, h => ⟨h.1, CellsAt.left h.2⟩
theorem CellsAt.right {b : Nat} : ∀ {o : Nat} {vs us : List Value}, CellsAt w b o (vs ++ us) → CellsAt w b (o + vs.length) us
  | o, [], us, h => by simpa using h
  | o, v :: vs, us, h => by
    have := CellsAt.right h.2
    rw [show o + (v :: vs).length = o + 1 + vs.length by simp; omega]; exact this
theorem RowsAre.length : ∀ {ys : List r.I} {vs : List Value}, RowsAre w N r ys vs → vs.length = ys.length * r.n
  | [], vs, h => by rw [show vs = [] from h]; simp
  | y :: ys, vs, ⟨a, b, e, h, k⟩ => by
    have h1 := h.length
    rw [rowCells_length] at h1
    rw [e, List.length_append, ← h1, RowsAre.length k, List.length_cons, Nat.add_mul]; omega
theorem RowsAre.append : ∀ {ys zs : List r.I} {vs us : List Value}, RowsAre w N r ys vs → RowsAre w N r zs us → RowsAre w N r (ys ++ zs) (vs ++ us)
  | [], zs, vs, us, h, k => by rw [show vs = [] from h]; exact k
  | y :: ys, zs, vs, us, ⟨a, b, e, h, h2⟩, k => ⟨a, b ++ us, by rw [e, List.append_assoc], h, RowsAre.append h2 k⟩
theorem RowsAre.one : ∀ {ys : List r.I} {vs : List Value}, RowsAre w N r ys vs → ∀ v ∈ vs, v.oneCell' = true
  | [], vs, h, v, hv => by rw [show vs = [] from h] at hv; cases hv
  | y :: ys, vs, ⟨a, b, e, h, k⟩, v, hv => by
    rw [e] at hv
    rcases List.mem_append.1 hv with hv | hv
    · exact CellsOK.oneCell h v hv
    · exact RowsAre.one k v hv
theorem RowsAre.mono (hA : ∀ b, N b → b < w.heap.size → w'.heap[b]? = w.heap[b]? ∧ N' b) : ∀ {ys : List r.I} {vs : List Value}, RowsAre w N r ys vs → RowsAre w' N' r ys vs
  | [], vs, h => h
  | y :: ys, vs, ⟨a, b, e, h, k⟩ => ⟨a, b, e, CellsOK.later ⟨Sub.refl _ _, hA, fun s b hs => by cases hs⟩ h, RowsAre.mono hA k⟩
/-- Rows that lie somewhere, as cells. -/
theorem rows_cells {b : Nat} : ∀ (ys : List r.I) (o : Nat), (∀ i (hi : i < ys.length), RepR w N r (ys[i]'hi) b (o + i * r.n)) → ∃ vs, CellsAt w b o vs ∧ RowsAre w N r ys vs
  | [], o, _ => ⟨[], trivial, rfl⟩
  | y :: ys, o, h => by
    have h0 := h 0 (by simp)
    simp at h0
    obtain ⟨a, ha, hk⟩ := RepR.cells h0
    have hl := hk.length
    rw [rowCells_length] at hl
    obtain ⟨c, hc, hr⟩ := rows_cells ys (o + r.n) fun i hi => by
      have := h (i + 1) (by simp; omega)
      rw [show o + r.n + i * r.n = o + (i + 1) * r.n by rw [Nat.add_mul]; omega]
      simpa using this
    exact ⟨a ++ c, CellsAt.append ha (by rw [← hl]; exact hc), a, c, rfl, hk, hr⟩
/-- Cells that lie somewhere, as rows. -/
theorem rows_put (hA : ∀ b, N b → b < w.heap.size → w'.heap[b]? = w.heap[b]? ∧ N' b) {b : Nat} : ∀ (ys : List r.I) (o : Nat) (vs : List Value), RowsAre w N r ys vs → CellsAt w' b o vs →
    ∀ i (hi : i < ys.length), RepR w' N' r (ys[i]'hi) b (o + i * r.n)
  | [], o, _, _, _, i, hi => by simp at hi
  | y :: ys, o, vs, ⟨a, c, e, h, k⟩, hc, 0, hi => by
    subst e
    have := toRow_ok hA (toRow_rowCells r y) h hc.left
    simpa using this
  | y :: ys, o, vs, ⟨a, c, e, h, k⟩, hc, i + 1, hi => by
    subst e
    have hl := h.length
    rw [rowCells_length] at hl
    have hr := hc.right
    rw [← hl] at hr
    have := rows_put hA ys (o + r.n) c k hr i (by simpa using hi)
    rw [show o + (i + 1) * r.n = o + r.n + i * r.n by rw [Nat.add_mul]; omega]
    simpa using this
end

/-- What is appended: so many elements, these cells. -/
structure Feeds (P : Program) (w : World) (size : Nat) (x : Value) (m : Nat) (news : List Value) : Prop where
  len : ∀ w', (Builtin.lenOf x).run P w' = .ok m w'
  cells : (Builtin.firstCells size m x).run P w = .ok news.toArray w
  cells' : (Builtin.firstCells size m x).run P w.drew = .ok news.toArray w.drew
section
variable {P : Program} {T : List (Nat × TI)} {M : Nat → Prop} {φ : Nat → Option Nat} {h : Heap} {w : World}
theorem feeds_rows {N : Nat → Prop} {r : RT} {ys : List r.I} {a : Option Addr} {cap : Nat} (h : ys ≠ [] → ∃ b o, a = some ⟨b, o, none⟩ ∧ ∀ i (hi : i < ys.length), RepR w N r (ys[i]'hi) b (o + i * r.n)) :
    ∃ news, Feeds P w r.n (.slice a ys.length cap) ys.length news ∧ RowsAre w N r ys news := by
  by_cases hne : ys = []
  · subst hne
    refine ⟨[], ⟨fun w' => rfl, ?_, ?_⟩, rfl⟩ <;> cases a <;> simp [Builtin.firstCells, loadCells, loadCellsFrom]
  · obtain ⟨b, o, ha, hr⟩ := h hne
    obtain ⟨news, hc, hk⟩ := rows_cells ys o hr
    subst ha
    have hget : ∀ j v, news[j]? = some v → w.cell? ((⟨b, o, none⟩ : Addr).add j) = some v := fun j v hv => by rw [add_plain]; exact hc.get j v hv
    exact ⟨news, ⟨fun w' => rfl, run_firstCells_some (P := P) w r.n ys.length _ _ _ news hk.length hget, run_firstCells_some (P := P) w.drew r.n ys.length _ _ _ news hk.length (by simpa using hget)⟩, hk⟩
theorem bytes_rows {N : Nat → Prop} : ∀ (l : List UInt8), RowsAre w N (.one (.int .u8)) (l.map fun b => (b.toNat : Int)) (l.map fun b => Value.int .u8 b.toNat)
  | [] => rfl
  | b :: l => ⟨[.int .u8 b.toNat], _, rfl, ⟨rfl, trivial⟩, bytes_rows l⟩
theorem feeds_str {N : Nat → Prop} (l : List UInt8) : ∃ news, Feeds P w 1 (.string ⟨l.toArray⟩) l.length news ∧ RowsAre w N (.one (.int .u8)) (l.map fun b => (b.toNat : Int)) news := by
  refine ⟨_, ?_, bytes_rows l⟩
  have hx : ((⟨l.toArray⟩ : ByteArray).extract 0 l.length).data = l.toArray := by
    rw [extract_mk]; simp
  have hf : ∀ w', (Builtin.firstCells 1 l.length (.string ⟨l.toArray⟩)).run P w' = .ok (l.map fun b => Value.int .u8 b.toNat).toArray w' := fun w' => by
    simp [Builtin.firstCells, hx]
  exact ⟨fun w' => by simp [Builtin.lenOf, ByteArray.size], hf w, hf w.drew⟩
theorem rowsOf_ok (k : HRel M φ h w) {r : RT} {u : V} {x : Value} (hu : VOK φ h w (Imm M φ) u x) {ys : List r.I} (hy : rowsOf r h u = some ys) :
    ∃ news, Feeds P w r.n x ys.length news ∧ RowsAre w (Imm M φ) r ys news := by
  unfold rowsOf at hy
  split at hy
  · rename_i c
    have hc : CellOK φ h w (Imm M φ) c x := hu
    split at hy
    · rename_i r' xs hi
      split at hy
      · rename_i e he
        cases e with | up e =>
        subst e
        cases hy
        -- the elements as they stand, in whichever form
        cases c with
        | vec s =>
          obtain ⟨r0, xs0, hs, hk⟩ := hc
          simp only [immCell, hs] at hi
          cases hi
          have hb := k.blk s _ hs
          obtain ⟨a, cap, hv, hcap, ha⟩ := hk.slice
          subst hv
          refine feeds_rows fun hne => ?_
          obtain ⟨b, hf, ha'⟩ := ha (fun e => hne (List.eq_nil_of_length_eq_zero e))
          rw [hf] at hb
          obtain ⟨_, _, _, _, _, _, hr⟩ := hb
          exact ⟨b, 0, ha', fun i hi => by simpa using hr i hi⟩
        | sub s lo n =>
          obtain ⟨r0, xs0, hs, hl, hz, a, cap, hv, hcap, ha⟩ := hc
          simp only [immCell, hs] at hi
          cases hi
          have hb := k.blk s _ hs
          have hlen : ((xs0.drop lo).take n).length = n := by simp; omega
          subst hv
          have := feeds_rows (P := P) (w := w) (N := Imm M φ) (r := r') (ys := (xs0.drop lo).take n) (a := a) (cap := cap) fun hne => by
            obtain ⟨b, hf, ha'⟩ := ha (fun e => by subst e; simp at hne)
            rw [hf] at hb
            obtain ⟨_, _, _, _, _, _, hr⟩ := hb
            refine ⟨b, lo * r'.n, ha', fun i hi => ?_⟩
            rw [hlen] at hi
            have := hr (lo + i) (by omega)
            rw [show lo * r'.n + i * r'.n = (lo + i) * r'.n by rw [Nat.add_mul]]
            simpa using this
          rw [hlen] at this ⊢
          exact this
        | c t y =>
          simp only [immCell, Option.some.injEq, Cell.c.injEq] at hi
          obtain ⟨rfl, hi⟩ := hi
          cases hi
          obtain ⟨a, cap, hv, hcap, ha⟩ := hc
          subst hv
          exact feeds_rows fun hne => by
            obtain ⟨b, o, h1, _, h3⟩ := ha hne
            exact ⟨b, o, h1, h3⟩
        | any => simp [immCell] at hi
        | nils => simp [immCell] at hi
        | ptr _ _ => simp [immCell] at hi
        | eptr _ _ _ => simp [immCell] at hi
        | iptr _ _ _ => simp [immCell] at hi
      · cases hy
    · rename_i hi
      cases hy
      cases c with
      | nils =>
        rw [show x = _ from hc]
        exact feeds_rows (ys := []) (fun hne => absurd rfl hne)
      | vec s => simp only [immCell] at hi; split at hi <;> cases hi
      | sub s lo n => simp only [immCell] at hi; split at hi <;> cases hi
      | any => simp [immCell] at hi
      | c _ _ => simp [immCell] at hi
      | ptr _ _ => simp [immCell] at hi
      | eptr _ _ _ => simp [immCell] at hi
      | iptr _ _ _ => simp [immCell] at hi
    · rename_i l hi
      cases c with
      | c t y =>
        simp only [immCell, Option.some.injEq, Cell.c.injEq] at hi
        obtain ⟨rfl, hi⟩ := hi
        cases hi
        split at hy
        · cases hy
          rw [show x = _ from hc]
          have := feeds_str (P := P) (w := w) (N := Imm M φ) l
          simp only [List.length_map]
          exact this
        · cases hy
      | vec s => simp only [immCell] at hi; split at hi <;> cases hi
      | sub s lo n => simp only [immCell] at hi; split at hi <;> cases hi
      | any => simp [immCell] at hi
      | nils => simp [immCell] at hi
      | ptr _ _ => simp [immCell] at hi
      | eptr _ _ _ => simp [immCell] at hi
      | iptr _ _ _ => simp [immCell] at hi
    · cases hy
  · cases hy

/-! ### Append -/
theorem seqT_ok (hT : TOK P T) {t : Nat} (h : seqT T t = true) : (∃ e, P.underlying t = some (.slice e)) ∨ P.underlying t = some .string := by
  unfold seqT at h
  split at h
  · rename_i ti ht
    split at h
    · rename_i e hd; exact .inl ⟨_, (hT t ti ht).under_slice hd⟩
    · rename_i hd; exact .inr ((hT t ti ht).under_str hd)
    · cases h
  · cases h
section
variable {t tx ty e : Nat} {te : TI} {x : Value} {m : Nat} {news : List Value}
theorem run_append_fit (hu : P.underlying t = some (.slice e)) (hE : TIok P e te) (hx : (∃ e, P.underlying tx = some (.slice e)) ∨ P.underlying tx = some .string) {b n cap : Nat}
    (hf : Feeds P w te.size x m news) (hn1 : ∀ v ∈ news, v.oneCell' = true) (hin : n + m ≤ cap)
    (hc : ∀ j, j < news.length → (w.cell? ⟨b, n * te.size + j, none⟩).isSome = true) (hz : ∀ j, j < news.length → w.frozen? ⟨b, n * te.size + j, none⟩ = false) :
    (Builtin.append_ #[t, tx] ty #[.slice (some ⟨b, 0, none⟩) n cap, x]).run P w = .ok (.slice (some ⟨b, 0, none⟩) (n + m) cap) (w.setCells b (n * te.size) news) := by
  have hst := run_storeCells_cells (P := P) b (n * te.size) news 0 w (by simpa using hc) (by simpa using hz) hn1
  simp only [Nat.add_zero] at hst
  rcases hx with ⟨e', hx⟩ | hx <;>
    simp [Builtin.append_, run_underlying hu, run_underlying hx, hE.sizeOf, hf.len, hin, hf.cells, add_plain, hst]
theorem run_append_more (hu : P.underlying t = some (.slice e)) (hE : TIok P e te) {r : RT} (hr : te.row = some r) (hx : (∃ e, P.underlying tx = some (.slice e)) ∨ P.underlying tx = some .string) {a : Option Addr} {n cap : Nat}
    (hf : Feeds P w te.size x m news) (hout : cap < n + m) (hpos : 1 ≤ te.bytes) (hfit : (n + m) * te.bytes ≤ 140737488355328)
    {olds : List Value} (ho : (Builtin.firstCells te.size n (.slice a n cap)).run P w.drew = .ok olds.toArray w.drew) :
    ∃ cap' zs, n + m ≤ cap' ∧ zs.size = (cap' - (n + m)) * te.size ∧
      (Builtin.append_ #[t, tx] ty #[.slice a n cap, x]).run P w = .ok (.slice (some ⟨w.heap.size, 0, none⟩) (n + m) cap') (w.drew.alloc (.cells ((olds ++ news).toArray ++ zs) e)) := by
  obtain ⟨i, hi, hs, hb, z, hz, hzc⟩ := hE.info
  have hzl : z.cells.size = te.size := by
    obtain ⟨h1, h2⟩ := hE.rown hr
    have h3 := toRow_length (rowZero_toRow r te.zero h2)
    have h4 := (zeroCells_ok (φ := fun _ => none) (h := []) (w := w) (N := fun _ => True) hzc).length
    rw [h3, h1] at h4
    simpa using h4.symm
  have hn : ¬ (n + m ≤ cap) := by omega
  have hle : n + m ≤ 140737488355328 := Nat.le_trans (Nat.le_mul_of_pos_right _ hpos) hfit
  have h63' : ¬ (9223372036854775807 < ((n : Int) + (m : Int))) := by omega
  have h48' : ¬ (281474976710656 < Builtin.nextslicecap (n + m) cap * te.bytes) := by have := growslice_fits (need := n + m) (old := cap) (bytes := te.bytes) hout hfit; omega
  have hti : ∀ w', (typeInfo e).run P w' = .ok i w' := by
    intro w'
    unfold Go.typeInfo
    simp [program, Sem.run, hi]
  have hzv : ∀ w', (zeroValue e).run P w' = .ok z w' := by
    intro w'
    unfold Go.zeroValue Go.typeInfo
    simp [program, Sem.run, hi, hz]
  refine ⟨grownCap w (n + m) cap e, Builtin.zeroCells z.cells (grownCap w (n + m) cap e - (n + m)), grownCap_ge w _ _ _, by simp [size_zeroCells, hzl], ?_⟩
  rcases hx with ⟨e', hx⟩ | hx <;>
    simp [Builtin.append_, run_underlying hu, run_underlying hx, hE.sizeOf, hti, hzv, hb, hf.len, hn, h63', h48', Question.forced, hf.cells', ho, newRow, grownCap] <;>
    (congr 2; apply Array.ext'; simp)
end
end
end Go.AM
