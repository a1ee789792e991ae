/- Appends of the abstract machine, and any operation. -/
import Derived.Test.YtfjlhoglgdmmaaaGreatDoorAmB3
set_option autoImplicit false
set_option linter.unusedVariables false
set_option linter.unusedSimpArgs false
namespace Go.AM
section
variable {P : Program} {T : List (Nat × TI)} {F : Funs} {R : Type} {w0 : World} {O : Old} {M : Nat → Prop} {φ : Nat → Option Nat} {st : St} {a : Act} {w : World} {o : Oper} {h : Heap}
theorem kill_heap (h : Heap) (s : Nat) (r : RT) (xs : List r.I) : lmap (mapB (killCell s)) (hset h s (.lst r xs)) = hset (lset (lmap (mapB (killCell s)) h) s none) s (.lst r xs) := by
  unfold hset
  simp only [lmap_eq, lset_eq, List.map_set, List.set_set]
  rfl
theorem cell_new (w : World) (cells : Array Value) (e j : Nat) : (w.drew.alloc (.cells cells e)).cell? ⟨w.heap.size, j, none⟩ = cells[j]? :=
  wcells_cell (wcells_alloc (w := w.drew) cells e) j
theorem upd_self {φ : Nat → Option Nat} {s : Nat} {f : Option Nat} (hf : φ s = f) : upd (upd φ s none) s f = φ := by
  funext t
  unfold upd
  split
  · rename_i h; subst h; exact hf.symm
  · rfl
/-- What comes of an append: s has zs then. -/
def AppOK (P : Program) (M : Nat → Prop) (φ : Nat → Option Nat) (h : Heap) (w : World) (s : Nat) (r : RT) (l : List r.I) (run : Sem Value) : Prop :=
    ∃ v' w' φ', run.run P w = .ok v' w' ∧
      HRel M φ' (hset (lset (lmap (mapB (killCell s)) h) s none) s (.lst r l)) w' ∧
      (∀ x v, CellOK φ h w (Imm M φ) x v → CellOK φ' (hset (lset (lmap (mapB (killCell s)) h) s none) s (.lst r l)) w' (Imm M φ') (killCell s x) v) ∧
      HeadOK w' r (φ' s) l.length v' ∧
      (∀ t b, φ' t = some b → φ t = some b ∨ w.heap.size ≤ b) ∧ (∀ t, t ≠ s → φ' t = φ t) ∧
      (w'.os = w.os ∧ w'.tape = w.tape ∧ w'.output = w.output ∧ w.heap.size ≤ w'.heap.size ∧ ∀ b, b < w.heap.size → φ s ≠ some b → w'.heap[b]? = w.heap[b]?)
theorem append_core (k : HRel M φ h w) {s : Nat} (hsl : s < h.length) {r : RT} {zs ys : List r.I} (hb : BlkOK φ h w (Imm M φ) (φ s) (.lst r zs)) {v : Value} (hv : HeadOK w r (φ s) zs.length v)
    {t tx ty e : Nat} {te : TI} (hu : P.underlying t = some (.slice e)) (hE : TIok P e te) (hr : te.row = some r) (hx : (∃ e, P.underlying tx = some (.slice e)) ∨ P.underlying tx = some .string)
    {x : Value} {news : List Value} (hf : Feeds P w r.n x ys.length news) (hn : RowsAre w (Imm M φ) r ys news) (hpos : 1 ≤ te.bytes) (hfit : (zs.length + ys.length) * te.bytes ≤ 140737488355328) :
    AppOK P M φ h w s r (zs ++ ys) (Builtin.append_ #[t, tx] ty #[v, x]) := by
  have hrn := hE.rown hr
  rw [hrn.1] at hf
  have hlen : (zs ++ ys).length = zs.length + ys.length := by simp
  have hH0 : hget (lset (lmap (mapB (killCell s)) h) s none) s = none := by
    unfold hget
    rw [lget_lset_same _ _ _ _ (by rw [lmap_length]; exact hsl)]
  have hHl : s < (lset (lmap (mapB (killCell s)) h) s none).length := by rw [lset_length, lmap_length]; exact hsl
  -- memory that turns in this one row alone
  have stay : ∀ v' w', (Builtin.append_ #[t, tx] ty #[v, x]).run P w = .ok v' w' → w.heap.size ≤ w'.heap.size → (∀ b, b < w.heap.size → φ s ≠ some b → w'.heap[b]? = w.heap[b]?) →
      w'.os = w.os → w'.tape = w.tape → w'.output = w.output →
      BlkOK φ (hset (lset (lmap (mapB (killCell s)) h) s none) s (.lst r (zs ++ ys))) w' (Imm M φ) (φ s) (.lst r (zs ++ ys)) → HeadOK w' r (φ s) (zs ++ ys).length v' → AppOK P M φ h w s r (zs ++ ys) (Builtin.append_ #[t, tx] ty #[v, x]) := by
    intro v' w' hrun hsz hsame h1 h2 h3 hblk hhead
    obtain ⟨f1, f2⟩ := k.forget (s := s) (w' := w') hsz (fun b hne hb _ => hsame b hb hne) (fun b _ => .inr trivial)
    obtain ⟨g1, g2⟩ := f1.readd (s := s) hH0 hHl (x := .lst r (zs ++ ys)) (fun b hb => (k.own s b hb).1) (by rw [upd_self rfl]; exact hblk)
    rw [upd_self rfl] at g1 g2
    exact ⟨v', w', φ, hrun, g1, fun x v hx => g2 _ _ (f2 x v hx), hhead, fun t b hb => .inl hb, fun _ _ => rfl, h1, h2, h3, hsz, hsame⟩
  -- a row that is new
  have more : ∀ v' w' cells cap', (Builtin.append_ #[t, tx] ty #[v, x]).run P w = .ok v' w' → w' = w.drew.alloc (.cells cells e) → v' = .slice (some ⟨w.heap.size, 0, none⟩) (zs.length + ys.length) cap' →
      zs.length + ys.length ≤ cap' → cells.size = cap' * r.n → (∀ N' : Nat → Prop, (∀ b, Imm M φ b → b < w.heap.size → N' b) → ∀ i (hi : i < (zs ++ ys).length), RepR w' N' r ((zs ++ ys)[i]'hi) w.heap.size (i * r.n)) → AppOK P M φ h w s r (zs ++ ys) (Builtin.append_ #[t, tx] ty #[v, x]) := by
    intro v' w' cells cap' hrun hw' hv' hcap hcs hrows
    have hext : Ext w w' := by rw [hw']; exact (Ext.drew w).trans (Ext.alloc _ _)
    have hws : w'.heap.size = w.heap.size + 1 := by rw [hw']; simp
    have hwc : wcells w' w.heap.size = some cells := by rw [hw']; exact wcells_alloc (w := w.drew) _ _
    obtain ⟨f1, f2⟩ := k.forget (s := s) (w' := w) (Nat.le_refl _) (fun b _ _ _ => rfl) (fun b _ => .inr trivial)
    have hblk : BlkOK (upd (upd φ s none) s (some w.heap.size)) (hset (lset (lmap (mapB (killCell s)) h) s none) s (.lst r (zs ++ ys))) w' (Imm (Also M (φ s)) (upd (upd φ s none) s (some w.heap.size))) (some w.heap.size) (.lst r (zs ++ ys)) := by
      refine ⟨cap', cells, hwc, by rw [hw']; exact warm_alloc (w := w.drew) _ _, hcs, by rw [hlen]; exact hcap, hrows _ fun b hb hlt => ?_⟩
      refine (Also.imm.2 hb).ext (fun t b' ht hb' => ?_) hlt
      unfold upd at ht
      split at ht
      · cases ht; omega
      · unfold upd
        split
        · rename_i h1 h2; exact absurd h2 h1
        · exact ht
    have g1 := f1.name hext hH0 (f := some w.heap.size) (x := .lst r (zs ++ ys)) (fun b hb => by cases hb; exact ⟨Nat.le_refl _, by omega⟩) hblk hHl
    have hφ : ∀ t b, upd (upd φ s none) s (some w.heap.size) t = some b → b < w.heap.size → upd φ s none t = some b := fun t b ht hb => by
      unfold upd at ht
      split at ht
      · cases ht; omega
      · rename_i hts; unfold upd; rw [if_neg hts]; exact ht
    have hL := Later.grow (M := Also M (φ s)) hext (Sub.name (φ := upd φ s none) (f := some w.heap.size) (b := .lst r (zs ++ ys)) hH0) hφ
    obtain ⟨g3, g4⟩ := g1.less (M := M) (fun b hb => .inl hb)
    refine ⟨v', w', _, hrun, g3, fun x v hx => g4 _ _ (CellOK.later hL (f2 x v hx)), ?_, fun t b ht => ?_, fun t hts => by rw [upd_other _ _ hts, upd_other _ _ hts], hext.os, hext.tape, hext.output, hext.size, fun b hb _ => hext.block b hb⟩
    · rw [upd_same, hlen]
      exact ⟨cap', cells, hv', hcap, hwc, hcs⟩
    · unfold upd at ht
      split at ht
      · cases ht; exact .inr (Nat.le_refl _)
      · exact .inl ht
  have news1 := hn.one
  cases hfs : φ s with
  | none =>
    rw [hfs] at hb hv
    obtain ⟨hv, h0⟩ := hv
    have hz : zs = [] := List.eq_nil_of_length_eq_zero h0
    subst hz
    by_cases hm : ys.length = 0
    · have hy : ys = [] := List.eq_nil_of_length_eq_zero hm
      subst hy
      have hnn : news = [] := hn
      subst hnn
      have := stay (.slice none 0 0) w (by
        have hlen0 := hf.len w
        simp only [List.length_nil] at hlen0
        have hcs := hf.cells
        simp only [List.length_nil] at hcs
        rcases hx with ⟨e', hx⟩ | hx <;> simp [Builtin.append_, run_underlying hu, run_underlying hx, hE.sizeOf, hv, hlen0, hcs]) (Nat.le_refl _) (fun _ _ _ => rfl) rfl rfl rfl (by rw [hfs]; rfl) (by rw [hfs]; exact ⟨rfl, rfl⟩)
      exact this
    · obtain ⟨cap', zz, h1, h2, h3⟩ := run_append_more (ty := ty) (a := none) (n := 0) (cap := 0) hu hE hr hx hf (by omega) hpos (by simpa using hfit) (olds := []) (by simp [Builtin.firstCells])
      rw [Nat.zero_add] at h1 h2 h3
      have := more _ _ _ cap' (by rw [hv]; exact h3) rfl (by simp) (by simpa using h1) (by
        have := hn.length
        simp only [List.nil_append, Array.size_append, List.size_toArray, this, h2, hrn.1, ← Nat.add_mul]
        congr 1; omega) (by
        intro N' hN i hi
        have hrows := rows_put (w := w) (w' := w.drew.alloc (.cells (([] ++ news).toArray ++ zz) e)) (N := Imm M φ) (N' := N') (fun b hb hlt => ⟨((Ext.drew w).trans (Ext.alloc _ _)).block b hlt, hN b hb hlt⟩) (b := w.heap.size) ys 0 news hn (CellsAt.of_get fun i v hv => by
          rw [cell_new]
          simp only [List.nil_append, Nat.zero_add]
          have := (List.getElem?_eq_some_iff.1 hv).1
          rw [Array.getElem?_append_left (by simpa using this)]
          simpa using hv)
        have := hrows i (by simpa using hi)
        simpa using this)
      exact this
  | some b =>
    have hvv := hv
    rw [hfs] at hb hvv
    obtain ⟨cap, c, hv', hcap, hc, hcs⟩ := hvv
    obtain ⟨_, c', hc', hw, _, hl, hrows⟩ := hb
    rw [hc] at hc'; cases hc'
    obtain ⟨olds, hco, hro⟩ := rows_cells zs 0 (fun i hi => by simpa using hrows i hi)
    have hol := hro.length
    have hnl := hn.length
    by_cases hin : zs.length + ys.length ≤ cap
    · have hmul : (zs.length + ys.length) * r.n ≤ cap * r.n := Nat.mul_le_mul_right _ hin
      rw [Nat.add_mul] at hmul
      have hfitc : zs.length * r.n + news.length ≤ c.size := by omega
      obtain ⟨d1, d2, d3, d4, d5⟩ := setCells_frame b news (zs.length * r.n) w
      obtain ⟨c', e1, e2, _, e4⟩ := wcells_set hc hfitc
      have hrun := run_append_fit (P := P) (ty := ty) (b := b) (n := zs.length) (cap := cap) hu hE hx hf news1 hin (fun j hj => by rw [← hrn.1, wcells_cell hc]; simp; omega) (fun j hj => by rw [← hrn.1]; exact hw c hc _ (by omega))
      rw [← hrn.1] at hrun
      have := stay _ _ (by rw [hv']; exact hrun) (by rw [d4]; exact Nat.le_refl _) (fun b' _ hne => d5 b' (fun e => hne (by rw [hfs, e]))) d1 d2 d3 (by
        rw [hfs]
        refine ⟨cap, c', e1, warm_setCells hc hfitc hw, by omega, by omega, fun i hi => ?_⟩
        have hA : ∀ b', Imm M φ b' → b' < w.heap.size → (w.setCells b (zs.length * r.n) news).heap[b']? = w.heap[b']? ∧ Imm M φ b' := fun b' hb' _ => ⟨d5 b' (fun e => by subst e; exact hb'.2 s hfs), hb'⟩
        have := rows_put hA (b := b) (zs ++ ys) 0 (olds ++ news) (hro.append hn) (CellsAt.of_get fun j v hjv => by
          rw [wcells_cell e1, ← Array.getElem?_toList, Nat.zero_add, e4]
          by_cases hj : j < olds.length
          · rw [if_neg (by omega)]
            rw [List.getElem?_append_left hj] at hjv
            have := hco.get j v hjv
            rw [wcells_cell hc, Nat.zero_add, ← Array.getElem?_toList] at this
            exact this
          · have hjl := (List.getElem?_eq_some_iff.1 hjv).1
            simp only [List.length_append] at hjl
            rw [if_pos (by omega)]
            rw [List.getElem?_append_right (by omega)] at hjv
            rw [← hol]
            exact hjv) i hi
        simpa using this) (by rw [hfs, hlen]; exact ⟨cap, c', rfl, hin, e1, by omega⟩)
      exact this
    · obtain ⟨cap', zz, h1, h2, h3⟩ := run_append_more (ty := ty) (a := some ⟨b, 0, none⟩) (n := zs.length) (cap := cap) hu hE hr hx hf (by omega) hpos hfit (olds := olds) (by
        rw [← hrn.1]
        exact run_firstCells_some (P := P) w.drew r.n zs.length _ _ _ olds hol (fun j v hv => by
          rw [add_plain]
          have := hco.get j v hv
          simpa using this))
      have := more _ _ _ cap' (by rw [hv']; exact h3) rfl rfl h1 (by
        simp only [Array.size_append, List.size_toArray, List.length_append, hol, hnl, h2, hrn.1, ← Nat.add_mul]
        congr 1; omega) (by
        intro N' hN i hi
        have hrows := rows_put (w := w) (w' := w.drew.alloc (.cells ((olds ++ news).toArray ++ zz) e)) (N := Imm M φ) (N' := N') (fun b hb hlt => ⟨((Ext.drew w).trans (Ext.alloc _ _)).block b hlt, hN b hb hlt⟩) (b := w.heap.size) (zs ++ ys) 0 (olds ++ news) (hro.append hn) (CellsAt.of_get fun i v hv => by
          rw [cell_new, Nat.zero_add]
          have := (List.getElem?_eq_some_iff.1 hv).1
          rw [Array.getElem?_append_left (by simpa using this)]
          simpa using hv)
        have := hrows i hi
        simpa using this)
      exact this
end
end Go.AM
