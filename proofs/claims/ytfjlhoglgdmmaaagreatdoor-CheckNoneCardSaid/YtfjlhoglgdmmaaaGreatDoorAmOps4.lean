/- Operations of the abstract machine that convert, slice and make new memory. -/
import Derived.Test.YtfjlhoglgdmmaaaGreatDoorAmOps3
import Derived.Laws.BytesArg
import Derived.Laws.MakeOwn
import Derived.Lib.ConvBytes
set_option autoImplicit false
set_option linter.unusedVariables false
set_option linter.unusedSimpArgs false
namespace Go.AM
section
variable {P : Program} {T : List (Nat × TI)} {R : Type} {M : Nat → Prop} {φ : Nat → Option Nat} {h : Heap} {w : World}

/-- Blocks that do not turn while a callee runs that is handed nothing but values: all but others'. -/
def Still (M : Nat → Prop) (b : Nat) : Prop := ¬ M b
theorem Imm.still {b : Nat} (k : Imm M φ b) : Still M b := k.1
theorem RepC.still {t : CT} {x : t.I} {v : Value} (k : RepC w (Imm M φ) t x v) : RepC w (Still M) t x v := RepC.mono (fun b hb _ => ⟨rfl, hb.still⟩) t x v k
theorem RepR.still {r : RT} {x : r.I} {b o : Nat} (k : RepR w (Imm M φ) r x b o) : RepR w (Still M) r x b o := RepR.mono (fun b hb _ => ⟨rfl, hb.still⟩) r x b o rfl k
theorem immCell_still (k : HRel M φ h w) {x y : Cell} {v : Value} (hx : CellOK φ h w (Imm M φ) x v) (hi : immCell h x = some y) : CellOK (fun _ => none) [] w (Still M) y v := by
  unfold immCell at hi
  split at hi
  · rename_i s
    obtain ⟨r, xs, hs, hk⟩ := hx
    rw [hs] at hi
    cases hi
    obtain ⟨a, cap, hv, hn, ha⟩ := hk.slice
    refine ⟨a, cap, hv, hn, fun hne => ?_⟩
    obtain ⟨b, hf, ha⟩ := ha (by simpa using hne)
    have hb := k.blk s _ hs
    rw [hf] at hb
    obtain ⟨cap', c, hwc, hwm, hsz, hl, hr⟩ := hb
    exact ⟨b, 0, ha, (k.own s b hf).1, fun i hi => by rw [Nat.zero_add]; exact (hr i hi).still⟩
  · rename_i s lo n
    obtain ⟨r, xs, hs, hl, hz, a, cap, hv, hn, ha⟩ := hx
    rw [hs] at hi
    cases hi
    have hlen : ((xs.drop lo).take n).length = n := by simp; omega
    refine ⟨a, cap, by rw [hlen]; exact hv, by rw [hlen]; exact hn, fun hne => ?_⟩
    have hn0 : n ≠ 0 := fun e => by subst e; simp at hne
    obtain ⟨b, hf, ha⟩ := ha hn0
    have hb := k.blk s _ hs
    rw [hf] at hb
    obtain ⟨cap', c, hwc, hwm, hsz, hl', hr⟩ := hb
    refine ⟨b, _, ha, (k.own s b hf).1, fun i hi => ?_⟩
    have hi' : lo + i < xs.length := by rw [hlen] at hi; omega
    have := hr (lo + i) hi'
    rw [show lo * r.n + i * r.n = (lo + i) * r.n by rw [Nat.add_mul]]
    simpa using this.still
  · cases hi
    exact hx.still
  · cases hi
    exact hx
  · cases hi
    obtain ⟨b, o, hN, hr, hv⟩ := hx
    exact ⟨b, o, hN.still, hr.still, hv⟩
  · cases hi
theorem immCells_still (k : HRel M φ h w) : ∀ {cs ys : List Cell} {vs : List Value}, CellsOK φ h w (Imm M φ) cs vs → immCells h cs = some ys → CellsOK (fun _ => none) [] w (Still M) ys vs
  | [], ys, [], _, hi => by simp [immCells] at hi; subst hi; trivial
  | [], _, _ :: _, hx, _ => hx.elim
  | _ :: _, _, [], hx, _ => hx.elim
  | x :: l, ys, v :: m, hx, hi => by
    simp only [immCells] at hi
    split at hi
    · rename_i a b h1 h2
      cases hi
      exact ⟨immCell_still k hx.1 h1, immCells_still k hx.2 h2⟩
    · cases hi
theorem immV_still (k : HRel M φ h w) {u u' : V} {v : Value} (hu : VOK φ h w (Imm M φ) u v) (hi : immV h u = some u') : VOK (fun _ => none) [] w (Still M) u' v := by
  unfold immV at hi
  split at hi
  · split at hi
    · rename_i a ha; cases hi; exact immCell_still k hu ha
    · cases hi
  · split at hi
    · rename_i a ha
      cases hi
      obtain ⟨arr, hv, hx⟩ := hu
      exact ⟨arr, hv, immCells_still k hx ha⟩
    · cases hi
  · cases hi
/-! ### Objects are read while nothing turns -/
theorem borImm_ok (k : HRel M φ h w) {c : CT} {x : Cell} {y : c.I} {v : Value} (hb : borImm h c x = some y) (hx : CellOK φ h w (Imm M φ) x v) : RepC w (Still M) c y v := by
  unfold borImm at hb
  split at hb
  · rename_i z hz
    exact castCell_ok hb (immCell_still k hx hz)
  · cases hb
theorem borRow_ok {f : (c : CT) → Cell → Option c.I} (hf : ∀ (c : CT) (x : Cell) (y : c.I) (v : Value), f c x = some y → CellOK φ h w (Imm M φ) x v → RepC w (Still M) c y v) : ∀ {r : RT} {cs : List Cell} {y : r.I} {vs : List Value} {b o : Nat},
    borRow f r cs = some y → CellsOK φ h w (Imm M φ) cs vs → CellsAt w b o vs → RepR w (Still M) r y b o
  | .one c, [x], y, [v], b, o, ht, hk, ha => ⟨v, ha.1, hf c x y v ht hk.1⟩
  | .one c, [x], y, [], _, _, _, hk, _ => hk.elim
  | .one c, [x], y, _ :: _ :: _, _, _, _, hk, _ => hk.2.elim
  | .one c, [], y, _, _, _, ht, _, _ => by simp [borRow] at ht
  | .one c, _ :: _ :: _, y, _, _, _, ht, _, _ => by simp [borRow] at ht
  | .cons c r, [], y, _, _, _, ht, _, _ => by simp [borRow] at ht
  | .cons c r, x :: l, y, [], _, _, _, hk, _ => hk.elim
  | .cons c r, x :: l, y, v :: m, b, o, ht, hk, ha => by
    simp only [borRow] at ht
    split at ht
    · rename_i a d h1 h2
      cases ht
      exact ⟨⟨v, ha.1, hf c x a v h1 hk.1⟩, borRow_ok hf h2 hk.2 ha.2⟩
    · cases ht
theorem cellsAt_all {b : Nat} {c : Array Value} (hc : wcells w b = some c) : ∀ (l : List Value) (o : Nat), c.toList.drop o = l → CellsAt w b o l
  | [], _, _ => trivial
  | v :: l, o, h => by
    have h1 : c[o]? = some v := by
      have : (c.toList.drop o)[0]? = some v := by rw [h]; rfl
      rw [List.getElem?_drop] at this
      simpa using this
    refine ⟨by rw [wcells_cell hc]; exact h1, cellsAt_all hc l (o + 1) ?_⟩
    rw [← List.drop_drop, h]; rfl
theorem borC_ok (k : HRel M φ h w) : ∀ (n : Nat) (c : CT) (x : Cell) (y : c.I) (v : Value), borC h n c x = some y → CellOK φ h w (Imm M φ) x v → RepC w (Still M) c y v
  | 0, c, x, y, v, hb, hx => borImm_ok k hb hx
  | n + 1, c, x, y, v, hb, hx => by
    unfold borC at hb
    split at hb
    · rename_i r s
      split at hb
      · rename_i cs hs
        split at hb
        · rename_i z hz
          cases hb
          obtain ⟨cs', b, hs', hf, hv⟩ := hx
          obtain ⟨b', arr, hf', hc, hw, hk⟩ := k.blk s _ hs
          rw [hf] at hf'
          cases hf'
          exact ⟨b, 0, hv, (k.own s b hf).1, borRow_ok (borC_ok k n) hz hk (cellsAt_all hc _ 0 rfl)⟩
        · cases hb
      · cases hb
    · exact borImm_ok k hb hx
theorem borV_ok (k : HRel M φ h w) {t : AT} {u u' : V} {v : Value} (hu : VOK φ h w (Imm M φ) u v) (hi : borV h t u = some u') : VOK (fun _ => none) [] w (Still M) u' v := by
  unfold borV at hi
  split at hi
  · split at hi
    · rename_i y hy
      cases hi
      exact borC_ok k 3 _ _ y v hy hu
    · cases hi
  · exact immV_still k hu hi
theorem borVs_ok (k : HRel M φ h w) : ∀ {ts : List AT} {us ys : List V} {vs : List Value}, All2 (VOK φ h w (Imm M φ)) us vs → borVs h ts us = some ys → All2 (VOK (fun _ => none) [] w (Still M)) ys vs
  | [], [], ys, [], _, hi => by simp [borVs] at hi; subst hi; trivial
  | [], [], _, _ :: _, hx, _ => hx.elim
  | [], _ :: _, _, _, _, hi => by simp [borVs] at hi
  | _ :: _, [], _, _, _, hi => by simp [borVs] at hi
  | t :: ts, x :: l, ys, [], hx, _ => hx.elim
  | t :: ts, x :: l, ys, v :: m, hx, hi => by
    simp only [borVs] at hi
    split at hi
    · rename_i a b h1 h2
      cases hi
      exact ⟨borV_ok k hx.1 h1, borVs_ok k hx.2 h2⟩
    · cases hi
/-- What names no row of elements is handed on as it is. -/
theorem immCell_imm {x y : Cell} {v : Value} (hx : CellOK φ h w (Imm M φ) x v) (hi : immCell h x = some y) (hn : cellNames [x] = []) : y = x ∧ CellOK (fun _ => none) [] w (Imm M φ) y v := by
  unfold immCell at hi
  split at hi
  · simp [cellNames] at hn
  · simp [cellNames] at hn
  · cases hi; exact ⟨rfl, hx⟩
  · cases hi; exact ⟨rfl, hx⟩
  · cases hi; exact ⟨rfl, hx⟩
  · cases hi
theorem cellNames_cons (x : Cell) (l : List Cell) : cellNames (x :: l) = cellNames [x] ++ cellNames l := by cases x <;> simp [cellNames]
theorem immCells_imm : ∀ {cs ys : List Cell} {vs : List Value}, CellsOK φ h w (Imm M φ) cs vs → immCells h cs = some ys → cellNames cs = [] → CellsOK (fun _ => none) [] w (Imm M φ) ys vs
  | [], ys, [], _, hi, _ => by simp [immCells] at hi; subst hi; trivial
  | [], _, _ :: _, hx, _, _ => hx.elim
  | _ :: _, _, [], hx, _, _ => hx.elim
  | x :: l, ys, v :: m, hx, hi, hn => by
    rw [cellNames_cons] at hn
    obtain ⟨hn1, hn2⟩ := List.append_eq_nil_iff.1 hn
    simp only [immCells] at hi
    split at hi
    · rename_i a b h1 h2
      cases hi
      exact ⟨(immCell_imm hx.1 h1 hn1).2, immCells_imm hx.2 h2 hn2⟩
    · cases hi
theorem vNames_cons (u : V) (l : List V) : vNames (u :: l) = vNames [u] ++ vNames l := by cases u <;> simp [vNames]
theorem immVs_still (k : HRel M φ h w) : ∀ {us ys : List V} {vs : List Value}, All2 (VOK φ h w (Imm M φ)) us vs → immVs h us = some ys → All2 (VOK (fun _ => none) [] w (Still M)) ys vs
  | [], ys, [], _, hi => by simp [immVs] at hi; subst hi; trivial
  | [], _, _ :: _, hx, _ => hx.elim
  | _ :: _, _, [], hx, _ => hx.elim
  | x :: l, ys, v :: m, hx, hi => by
    simp only [immVs] at hi
    split at hi
    · rename_i a b h1 h2
      cases hi
      exact ⟨immV_still k hx.1 h1, immVs_still k hx.2 h2⟩
    · cases hi
theorem immV_imm {u u' : V} {v : Value} (hu : VOK φ h w (Imm M φ) u v) (hi : immV h u = some u') (hn : vNames [u] = []) : VOK (fun _ => none) [] w (Imm M φ) u' v := by
  unfold immV at hi
  split at hi
  · split at hi
    · rename_i x _ a ha
      cases hi
      refine (immCell_imm hu ha ?_).2
      simpa [vNames] using hn
    · cases hi
  · split at hi
    · rename_i cs _ a ha
      cases hi
      obtain ⟨arr, hv, hx⟩ := hu
      exact ⟨arr, hv, immCells_imm hx ha (by simpa [vNames] using hn)⟩
    · cases hi
  · cases hi
theorem immVs_imm : ∀ {us ys : List V} {vs : List Value}, All2 (VOK φ h w (Imm M φ)) us vs → immVs h us = some ys → vNames us = [] → All2 (VOK (fun _ => none) [] w (Imm M φ)) ys vs
  | [], ys, [], _, hi, _ => by simp [immVs] at hi; subst hi; trivial
  | [], _, _ :: _, hx, _, _ => hx.elim
  | _ :: _, _, [], hx, _, _ => hx.elim
  | x :: l, ys, v :: m, hx, hi, hn => by
    rw [vNames_cons] at hn
    obtain ⟨hn1, hn2⟩ := List.append_eq_nil_iff.1 hn
    simp only [immVs] at hi
    split at hi
    · rename_i a b h1 h2
      cases hi
      exact ⟨immV_imm hx.1 h1 hn1, immVs_imm hx.2 h2 hn2⟩
    · cases hi
theorem CellsOK.flat {w w' : World} {N N' : Nat → Prop} {φ φ' : Nat → Option Nat} {h h' : Heap} : ∀ {r : RT} {x : r.I} {vs : List Value}, r.flat = true → CellsOK φ h w N (rowCells r x) vs → CellsOK φ' h' w' N' (rowCells r x) vs
  | .one c, x, [v], hf, k => ⟨RepC.flat hf k.1, trivial⟩
  | .one c, x, [], _, k => k.elim
  | .one c, x, _ :: _ :: _, _, k => k.2.elim
  | .cons c r, x, [], _, k => k.elim
  | .cons c r, x, v :: m, hf, k => by
    simp only [RT.flat, Bool.and_eq_true] at hf
    exact ⟨RepC.flat hf.1 k.1, CellsOK.flat hf.2 k.2⟩
theorem AT.flat_ok {w w' : World} {N N' : Nat → Prop} {φ φ' : Nat → Option Nat} {h h' : Heap} {t : AT} {x : t.I} {v : Value} (hf : t.flat = true) (k : VOK φ h w N (t.enc x) v) : VOK φ' h' w' N' (t.enc x) v := by
  cases t with
  | one c => exact RepC.flat hf k
  | agg r => obtain ⟨arr, hv, k⟩ := k; exact ⟨arr, hv, CellsOK.flat hf k⟩
theorem AT.comp_flat {w w' : World} {N N' : Nat → Prop} {φ φ' : Nat → Option Nat} {h h' : Heap} {t : AT} {x : t.I} {v : Value} (hf : t.flat = true) (k : CompOK φ h w N (t.comp x) v) : CompOK φ' h' w' N' (t.comp x) v := by
  cases t with
  | one c =>
    obtain ⟨y, hy, k⟩ := k
    simp [AT.comp] at hy
    subst hy
    exact ⟨_, rfl, RepC.flat hf k⟩
  | agg r => obtain ⟨arr, hv, k⟩ := k; exact ⟨arr, hv, CellsOK.flat hf k⟩
theorem comps_flat {w w' : World} {N N' : Nat → Prop} {φ φ' : Nat → Option Nat} {h h' : Heap} : ∀ {rs : List AT} {x : Res rs} {vs : List Value}, allFlat rs = true → All2 (CompOK φ h w N) (comps rs x) vs → All2 (CompOK φ' h' w' N') (comps rs x) vs
  | [], x, [], _, _ => trivial
  | [], x, _ :: _, _, k => k.elim
  | [t], x, [v], hf, k => by
    simp only [allFlat, Bool.and_eq_true] at hf
    exact ⟨AT.comp_flat hf.1 k.1, trivial⟩
  | [t], x, [], _, k => k.elim
  | [t], x, _ :: _ :: _, _, k => k.2.elim
  | t :: u :: ts, x, [], _, k => k.elim
  | t :: u :: ts, x, v :: m, hf, k => by
    simp only [allFlat, Bool.and_eq_true] at hf
    exact ⟨AT.comp_flat hf.1 k.1, comps_flat (rs := u :: ts) (by simp only [allFlat, Bool.and_eq_true]; exact hf.2) k.2⟩
theorem encRes_flat {w w' : World} {N N' : Nat → Prop} {φ φ' : Nat → Option Nat} {h h' : Heap} : ∀ {rs : List AT} {x : Res rs} {v : Value}, allFlat rs = true → VOK φ h w N (encRes rs x) v → VOK φ' h' w' N' (encRes rs x) v
  | [], x, v, _, k => by obtain ⟨arr, hv, k⟩ := k; exact ⟨arr, hv, by cases h : arr.toList with | nil => trivial | cons _ _ => rw [h] at k; exact k.elim⟩
  | [t], x, v, hf, k => by
    simp only [allFlat, Bool.and_eq_true] at hf
    exact AT.flat_ok hf.1 k
  | t :: u :: ts, x, v, hf, k => by obtain ⟨arr, hv, k⟩ := k; exact ⟨arr, hv, comps_flat hf k⟩
/-- Nothing but values: names play no part. -/
theorem plain_rows {φ φ' : Nat → Option Nat} {h h' : Heap} {w : World} {N : Nat → Prop} {t : AT} {x : t.I} {v : Value} (k : VOK φ h w N (t.enc x) v) : VOK φ' h' w N (t.enc x) v := by
  cases t with
  | one c => exact k
  | agg r => obtain ⟨arr, hv, k⟩ := k; exact ⟨arr, hv, rowCells_plain k⟩
theorem plain_comp {φ φ' : Nat → Option Nat} {h h' : Heap} {w : World} {N : Nat → Prop} {t : AT} {x : t.I} {v : Value} (k : CompOK φ h w N (t.comp x) v) : CompOK φ' h' w N (t.comp x) v := by
  cases t with
  | one c =>
    obtain ⟨y, hy, k⟩ := k
    simp [AT.comp] at hy
    subst hy
    exact ⟨_, rfl, k⟩
  | agg r => obtain ⟨arr, hv, k⟩ := k; exact ⟨arr, hv, rowCells_plain k⟩
theorem plain_comps {φ φ' : Nat → Option Nat} {h h' : Heap} {w : World} {N : Nat → Prop} : ∀ {rs : List AT} {x : Res rs} {vs : List Value}, All2 (CompOK φ h w N) (comps rs x) vs → All2 (CompOK φ' h' w N) (comps rs x) vs
  | [], x, [], _ => trivial
  | [], x, _ :: _, k => k.elim
  | [t], x, [v], k => ⟨plain_comp k.1, trivial⟩
  | [t], x, [], k => k.elim
  | [t], x, _ :: _ :: _, k => k.2.elim
  | t :: u :: ts, x, [], k => k.elim
  | t :: u :: ts, x, v :: m, k => ⟨plain_comp k.1, plain_comps (rs := u :: ts) k.2⟩
theorem encRes_plain {φ φ' : Nat → Option Nat} {h h' : Heap} {w : World} {N : Nat → Prop} : ∀ {rs : List AT} {x : Res rs} {v : Value}, VOK φ h w N (encRes rs x) v → VOK φ' h' w N (encRes rs x) v
  | [], x, v, k => by obtain ⟨arr, hv, k⟩ := k; exact ⟨arr, hv, by cases h : arr.toList with | nil => trivial | cons _ _ => rw [h] at k; exact k.elim⟩
  | [t], x, v, k => plain_rows k
  | t :: u :: ts, x, v, k => by obtain ⟨arr, hv, k⟩ := k; exact ⟨arr, hv, plain_comps k⟩

/-! ### Conversions -/
theorem strOfNums_eq (xs : List Int) : strOfNums xs = ⟨(xs.map fun n => UInt8.ofNat n.toNat).toArray⟩ := rfl
theorem bytes_cells (k : HRel M φ h w) {x : Cell} {v : Value} (hx : CellOK φ h w (Imm M φ) x v) {xs : List Int} (hi : immCell h x = some (.c (.sl (.one (.int .u8))) xs)) :
    ∃ a cap, v = .slice a xs.length cap ∧ (xs ≠ [] → ∃ b o, a = some ⟨b, o, none⟩ ∧ ∀ i, i < xs.length → w.cell? ⟨b, o + i, none⟩ = some (.int .u8 (xs.getD i 0))) := by
  obtain ⟨a, cap, hv, hn, hr⟩ := immCell_still k hx hi
  refine ⟨a, cap, hv, fun hne => ?_⟩
  obtain ⟨b, o, ha, _, hr⟩ := hr hne
  refine ⟨b, o, ha, fun i hi => ?_⟩
  obtain ⟨u, hu, hk⟩ := hr i hi
  have hu' : w.cell? ⟨b, o + i, none⟩ = some u := by simpa [RT.n] using hu
  rw [hu', show u = .int .u8 xs[i] from hk]
  simp [List.getD, hi]
theorem run_convert_bytes_any {s t e : Nat} (hs : P.underlying s = some (.slice e)) (he : P.underlying e = some (.int .u8)) (hd : P.underlying t = some .string) {v : Value} {xs : List Int}
    (hv : ∃ a cap, v = .slice a xs.length cap ∧ (xs ≠ [] → ∃ b o, a = some ⟨b, o, none⟩ ∧ ∀ i, i < xs.length → w.cell? ⟨b, o + i, none⟩ = some (.int .u8 (xs.getD i 0)))) :
    (convert s t v).run P w = .ok (.string ⟨(xs.map fun n => UInt8.ofNat n.toNat).toArray⟩) w := by
  obtain ⟨a, cap, rfl, hr⟩ := hv
  cases xs with
  | nil =>
    cases a with
    | none => rw [run_convert_bytes_nil w s e hs he _ _ t hd]; rfl
    | some a =>
      have h1 : (loadCells a 0).run P w = .ok #[] w := by simp [loadCells, loadCellsFrom]
      rw [run_convert_bytes_string w s t e (some a) _ cap hs he hd, run_bytesToString w a _ cap [] (by simpa using h1)]
      rfl
  | cons y ys =>
    obtain ⟨b, o, rfl, hc⟩ := hr (by simp)
    rw [run_convert_bytes_arg w s e hs he b o _ cap (y :: ys) rfl hc t hd]
    rfl
theorem warm_alloc (c : Array Value) (e : Nat) : warm (w.alloc (.cells c e)) w.heap.size := by
  intro c' _ o _
  exact World.frozen?_alloc_new w c e o
theorem heap_alloc_at (o : Obj) : (w.alloc o).heap[w.heap.size]? = some o := by show (w.heap.push o)[w.heap.size]? = _; simp
theorem wcells_alloc (c : Array Value) (e : Nat) : wcells (w.alloc (.cells c e)) w.heap.size = some c := by unfold wcells; rw [heap_alloc_at]
theorem wcells_freeze (b n k m : Nat) : wcells (w.freeze ⟨b, n, none⟩ k) m = wcells w m := by
  unfold World.freeze
  by_cases hk : k = 0
  · rw [if_pos hk]
  · rw [if_neg hk]
    unfold wcells
    simp only [Array.getElem?_modify]
    by_cases hb : b = m
    · subst hb
      rw [if_pos rfl]
      cases hh : w.heap[b]? with
      | none => rfl
      | some x => cases x <;> rfl
    · rw [if_neg hb]
theorem convK_ok (hT : TOK P T) (k : HRel M φ h w) {s t : Nat} {u : V} {v : Value} (hu : VOK φ h w (Imm M φ) u v) {d : Option Nat} {K : V → Option Blk → Option R} {r : R} (he : convK T s t u h d K = some r) :
    ∃ u' nb, K u' nb = some r ∧ ∃ v' w', (convert s t v).run P w = .ok v' w' ∧ Ext w w' ∧ Made M φ h w d u' nb v' w' := by
  unfold convK at he
  split at he
  · rename_i si ti hs ht
    obtain ⟨sd, hsd, hsc⟩ := (hT s si hs).desc
    split at he
    · rename_i q hd
      have hd' := (hT t ti ht).under_int hd
      split at he
      · rename_i q' n
        have hv : v = .int q' n := hu
        subst hv
        refine ⟨_, _, he, _, w, ?_, Ext.refl w, rfl⟩
        simp [convert, run_underlying hsd, run_underlying hd', Conv.intToInt]
      · cases he
    · rename_i hd
      have hd' := (hT t ti ht).under_str hd
      split at he
      · rename_i l
        have hv : v = .string ⟨l.toArray⟩ := hu
        subst hv
        refine ⟨_, _, he, _, w, ?_, Ext.refl w, rfl⟩
        simp [convert, run_underlying hsd, run_underlying hd']
      · rename_i x _
        split at he
        · rename_i e hse
          have hss := (hT s si hs).under_slice hse
          split at he
          · rename_i te hte
            split at he
            · rename_i hed
              have hee := (hT e te hte).under_int hed
              split at he
              · rename_i xs hi
                exact ⟨_, _, he, _, w, run_convert_bytes_any hss hee hd' (bytes_cells k hu hi), Ext.refl w, rfl⟩
              · rename_i hi
                have hv : v = .slice none 0 0 := by
                  have := immCell_still k hu hi
                  exact this
                refine ⟨_, _, he, _, w, run_convert_bytes_any (xs := []) hss hee hd' ⟨none, 0, hv, fun h => absurd rfl h⟩, Ext.refl w, rfl⟩
              · cases he
            · cases he
          · cases he
        · cases he
      · cases he
    · rename_i e hd
      have hd' := (hT t ti ht).under_slice hd
      split at he
      · rename_i te l d' hte
        split at he
        · rename_i hed
          have hee := (hT e te hte).under_int hed
          have hv : v = .string ⟨l.toArray⟩ := hu
          subst hv
          have hlen : (⟨l.toArray⟩ : ByteArray).size = l.length := by show l.toArray.size = _; simp
          have hold := Lib.bytesWorld_at_old w e ⟨l.toArray⟩
          have hnew := Lib.bytesWorld_at_new w e ⟨l.toArray⟩
          have hsz := Lib.bytesWorld_size w e ⟨l.toArray⟩
          have hrun := Lib.run_convert_string_bytes w s t e ⟨l.toArray⟩ hsd hd' hee
          have hcap : l.length ≤ grownCap w l.length 0 e := by unfold grownCap; simp [Question.cut]
          have hcs : (Lib.bytesCells w e ⟨l.toArray⟩).size = grownCap w l.length 0 e := by simp [Lib.bytesCells, hlen]; omega
          have hw : wcells (Lib.bytesWorld w e ⟨l.toArray⟩) w.heap.size = some (Lib.bytesCells w e ⟨l.toArray⟩) := by unfold wcells; rw [hnew]
          have hos : Ext w (Lib.bytesWorld w e ⟨l.toArray⟩) := by
            refine ⟨?_, ?_, ?_, by rw [hsz]; omega, hold⟩ <;> (unfold Lib.bytesWorld World.freeze; split <;> rfl)
          rw [hlen] at hrun
          refine ⟨_, _, he, _, _, hrun, hos, d', rfl, fun hn hl => ⟨some w.heap.size, ?_, ?_, ?_⟩⟩
          · intro b hb; cases hb; exact ⟨Nat.le_refl _, by rw [hsz]; omega⟩
          · refine ⟨grownCap w l.length 0 e, _, hw, ?_, by rw [hcs]; simp [RT.n], by simpa using hcap, ?_⟩
            · intro c hc o ho
              rw [hw] at hc
              cases hc
              unfold World.frozen?
              rw [hnew]
              simp; omega
            · intro i hi
              have hi' : i < l.length := by simpa using hi
              refine ⟨_, ?_, rfl⟩
              have := Lib.bytesWorld_cell w e ⟨l.toArray⟩ i (by rw [hlen]; exact hi')
              simp only [RT.n, Nat.mul_one]
              rw [this]
              simp [List.getD, hi']
          · refine ⟨_, _, hget_hset_same _ _ _ hl, ?_⟩
            rw [upd_same]
            exact ⟨grownCap w l.length 0 e, _, by simp, by simpa using hcap, hw, by rw [hcs]; simp [RT.n]⟩
        · cases he
      · cases he
    · cases he
  · cases he

/-! ### Slices -/
theorem inR_cond {i : Int} {n : Nat} {x : Option R} {r : R} (h : (bif inR i n then x else none) = some r) : 0 ≤ i ∧ i < n ∧ x = some r := by
  cases hi : inR i n with
  | false => rw [hi] at h; cases h
  | true => rw [hi, cond_true] at h; obtain ⟨a, b⟩ := inR_iff.1 hi; exact ⟨a, b, h⟩
theorem bndsK_ok {N : Nat → Prop} {n : Nat} {lo hi : Option V} {vlo vhi : Option Value} (hl : ∀ u, lo = some u → ∃ v, vlo = some v ∧ VOK φ h w N u v) (hl0 : lo = none → vlo = none)
    (hh : ∀ u, hi = some u → ∃ v, vhi = some v ∧ VOK φ h w N u v) (hh0 : hi = none → vhi = none) {K : Nat → Nat → Option R} {r : R} (he : bndsK n lo hi K = some r) :
    ∃ i j, K i j = some r ∧ i ≤ j ∧ j ≤ n ∧ (lo = none → i = 0) ∧ (hi = none → j = n) ∧ ∀ (b : Bool) (cap : Nat), n ≤ cap → (Instr.sliceBounds b n cap vlo vhi none).run P w = .ok (i, j, cap) w := by
  unfold bndsK at he
  split at he
  · refine ⟨0, n, he, Nat.zero_le _, Nat.le_refl _, fun _ => rfl, fun _ => rfl, fun b cap hc => ?_⟩
    rw [hl0 rfl, hh0 rfl]
    simp [Instr.sliceBounds]
  · rename_i lo
    split at he
    · rename_i i hi'
      obtain ⟨h0, h1, he⟩ := inR_cond he
      obtain ⟨v, hv, hk⟩ := hl _ rfl
      obtain ⟨q, rfl⟩ := asInt_ok hi' hk
      refine ⟨i.toNat, n, he, by omega, Nat.le_refl _, (fun h => by cases h), fun _ => rfl, fun b cap hc => ?_⟩
      rw [hv, hh0 rfl]
      have : (0 ≤ i ∧ i ≤ (n : Int)) := ⟨h0, by omega⟩
      simp [Instr.sliceBounds, Instr.sliceBound, Go.asIntOf, this]
    · cases he
  · rename_i hi
    split at he
    · rename_i j hj
      obtain ⟨h0, h1, he⟩ := inR_cond he
      obtain ⟨v, hv, hk⟩ := hh _ rfl
      obtain ⟨q, rfl⟩ := asInt_ok hj hk
      refine ⟨0, j.toNat, he, Nat.zero_le _, by omega, fun _ => rfl, (fun h => by cases h), fun b cap hc => ?_⟩
      rw [hl0 rfl, hv]
      have : (0 ≤ j ∧ j ≤ (cap : Int)) := ⟨h0, by omega⟩
      simp [Instr.sliceBounds, Instr.sliceBound, Go.asIntOf, this]
    · cases he
  · rename_i lo hi
    split at he
    · rename_i i j hi' hj
      obtain ⟨h0, h1, he⟩ := inR_cond he
      obtain ⟨h2, h3, he⟩ := inR_cond he
      obtain ⟨v, hv, hk⟩ := hl _ rfl
      obtain ⟨q, rfl⟩ := asInt_ok hi' hk
      obtain ⟨v', hv', hk'⟩ := hh _ rfl
      obtain ⟨q', rfl⟩ := asInt_ok hj hk'
      refine ⟨i.toNat, j.toNat, he, by omega, by omega, (fun h => by cases h), (fun h => by cases h), fun b cap hc => ?_⟩
      rw [hv, hv']
      have t1 : (0 ≤ j ∧ j ≤ (cap : Int)) := ⟨h0, by omega⟩
      have t2 : (0 ≤ i ∧ i ≤ ((j.toNat : Nat) : Int)) := ⟨h2, by omega⟩
      simp only [Instr.sliceBounds, Instr.sliceBound, Go.asIntOf, Sem.run_bind, Sem.run_pure, Result.andThen_ok]
      rw [if_pos t1]
      simp only [Sem.run_pure, Result.andThen_ok, Sem.run_bind]
      rw [if_pos t2]
      simp only [Sem.run_pure, Result.andThen_ok, Sem.run_bind]
    · cases he
theorem cutL_eq {α : Type} {lo hi : Option V} {l : List α} {i j : Nat} (h0 : lo = none → i = 0) (h1 : hi = none → j = l.length) : cutL lo hi l i j = (l.take j).drop i := by
  unfold cutL
  split
  · rw [h0 rfl, h1 rfl]; simp
  · rw [h1 rfl]; simp
  · rw [h0 rfl]; simp
  · rfl
theorem extract_mk (l : List UInt8) (i j : Nat) : (⟨l.toArray⟩ : ByteArray).extract i j = ⟨((l.take j).drop i).toArray⟩ := by
  apply ByteArray.ext
  simp [List.drop_take]
theorem run_slice_slice {t e : Nat} {te : TI} (hu : P.underlying t = some (.slice e)) (hE : TIok P e te) {a : Option Addr} {n cap i j : Nat} {vlo vhi : Option Value}
    (hb : (Instr.sliceBounds true n cap vlo vhi none).run P w = .ok (i, j, cap) w) :
    (Instr.sliceAt t (.slice a n cap) vlo vhi none).run P w = .ok (.slice (if cap = i then a else a.map (·.add (i * te.size))) (j - i) (cap - i)) w := by
  simp only [Instr.sliceAt, Instr.slice, Sem.run_bind, run_underlying hu, Result.andThen_ok, hb, hE.sizeOf, Sem.run_pure]
theorem sliceK_ok (hT : TOK P T) (k : HRel M φ h w) {t : Nat} {u : V} {v : Value} (hu : VOK φ h w (Imm M φ) u v) {lo hi : Option V} {vlo vhi : Option Value}
    (hl : ∀ u, lo = some u → ∃ v, vlo = some v ∧ VOK φ h w (Imm M φ) u v) (hl0 : lo = none → vlo = none)
    (hh : ∀ u, hi = some u → ∃ v, vhi = some v ∧ VOK φ h w (Imm M φ) u v) (hh0 : hi = none → vhi = none) {K : V → Option R} {r : R} (he : sliceK T t u lo hi h K = some r) :
    ∃ u', K u' = some r ∧ ∃ v', (Instr.sliceAt t v vlo vhi none).run P w = .ok v' w ∧ VOK φ h w (Imm M φ) u' v' := by
  unfold sliceK at he
  split at he
  · rename_i ti ht
    split at he
    · rename_i hd
      have hd' := (hT t ti ht).under_str hd
      split at he
      · rename_i l
        obtain ⟨i, j, hK, hij, hjn, h0, h1, hb⟩ := bndsK_ok (P := P) hl hl0 hh hh0 he
        have hv : v = .string ⟨l.toArray⟩ := hu
        subst hv
        refine ⟨_, hK, .string ⟨(cutL lo hi l i j).toArray⟩, ?_, rfl⟩
        have hz : (⟨l.toArray⟩ : ByteArray).size = l.length := by show l.toArray.size = _; simp
        have := hb false l.length (Nat.le_refl _)
        simp only [Instr.sliceAt, Instr.slice, Sem.run_bind, run_underlying hd', Result.andThen_ok, Option.isSome, Bool.false_eq_true, if_false, hz, this, Sem.run_pure, extract_mk, cutL_eq h0 h1]
      · cases he
    · rename_i e hd
      have hd' := (hT t ti ht).under_slice hd
      split at he
      · rename_i te hte
        have hE := hT e te hte
        split at he
        · rename_i r' l
          cases hb : Nat.beq r'.n te.size with
          | false => rw [hb] at he; cases he
          | true =>
            have hsz := Nat.eq_of_beq_eq_true hb
            rw [hb, cond_true] at he
            obtain ⟨i, j, hK, hij, hjn, h0, h1, hbd⟩ := bndsK_ok (P := P) hl hl0 hh hh0 he
            obtain ⟨a, cap, hv, hc, ha⟩ := hu
            subst hv
            refine ⟨_, hK, _, run_slice_slice hd' hE (hbd true cap hc), ?_⟩
            rw [cutL_eq h0 h1]
            have hlen : ((l.take j).drop i).length = j - i := by simp; omega
            refine ⟨_, cap - i, by rw [hlen], by rw [hlen]; omega, fun hne => ?_⟩
            have hlt : i < j := by
              rcases Nat.lt_or_ge i j with hx | hx
              · exact hx
              · exfalso; apply hne; apply List.eq_nil_of_length_eq_zero; rw [hlen]; omega
            obtain ⟨b, o, ha, hN, hr⟩ := ha (fun e => by rw [e] at hjn; simp at hjn; omega)
            subst ha
            refine ⟨b, o + i * r'.n, ?_, hN, fun m hm => ?_⟩
            · rw [if_neg (by omega)]; simp [add_plain, hsz]
            · have hm' : i + m < l.length := by rw [hlen] at hm; omega
              have := hr (i + m) hm'
              rw [show o + i * r'.n + m * r'.n = o + (i + m) * r'.n by rw [Nat.add_mul]; omega]
              simpa using this
        · rename_i s
          obtain ⟨r', xs, hs, hk⟩ := hu
          rw [hs] at he
          simp only at he
          cases hb : Nat.beq r'.n te.size with
          | false => rw [hb] at he; cases he
          | true =>
            have hsz := Nat.eq_of_beq_eq_true hb
            rw [hb, cond_true] at he
            obtain ⟨i, j, hK, hij, hjn, h0, h1, hbd⟩ := bndsK_ok (P := P) hl hl0 hh hh0 he
            obtain ⟨a, cap, hv, hc, ha⟩ := hk.slice
            have hrun := run_slice_slice hd' hE (a := a) (hbd true cap hc)
            have gen : ∃ r'' xs'', hget h s = some (.lst r'' xs'') ∧ i + (j - i) ≤ xs''.length ∧ (i = 0 → HeadOK w r'' (φ s) (j - i) (.slice (if cap = i then a else a.map (·.add (i * te.size))) (j - i) (cap - i))) ∧
                ∃ a' cap', Value.slice (if cap = i then a else a.map (·.add (i * te.size))) (j - i) (cap - i) = .slice a' (j - i) cap' ∧ j - i ≤ cap' ∧ (j - i ≠ 0 → ∃ b, φ s = some b ∧ a' = some ⟨b, i * r''.n, none⟩) := by
              refine ⟨r', xs, hs, by omega, fun hi0 => ?_, _, _, rfl, by omega, fun hne => ?_⟩
              · subst hi0
                have hz : (if cap = 0 then a else a.map (·.add (0 * te.size))) = a := by
                  split
                  · rfl
                  · cases a with
                    | none => rfl
                    | some a => simp [Addr.add]
                rw [hz]
                unfold HeadOK at hk ⊢
                cases hf : φ s with
                | none =>
                  rw [hf] at hk
                  obtain ⟨hv', hn⟩ := hk
                  rw [hv] at hv'
                  injection hv' with h1' h2' h3'
                  subst h1' h3'
                  have : j = 0 := by omega
                  subst this
                  exact ⟨rfl, rfl⟩
                | some b =>
                  rw [hf] at hk
                  obtain ⟨cap', c, hv', hn, hwc, hcz⟩ := hk
                  rw [hv] at hv'
                  injection hv' with h1' h2' h3'
                  subst h1' h3'
                  exact ⟨cap, c, rfl, by omega, hwc, hcz⟩
              · obtain ⟨b, hf, ha⟩ := ha (by omega)
                subst ha
                refine ⟨b, hf, ?_⟩
                rw [if_neg (by omega)]; simp [add_plain, hsz]
            refine ⟨_, hK, _, by rw [hv]; exact hrun, ?_⟩
            cases lo with
            | none =>
              have hi0 := h0 rfl
              subst hi0
              cases hi with
              | none =>
                have hjx := h1 rfl
                subst hjx
                obtain ⟨r'', xs'', hs'', hle, hz, _⟩ := gen
                rw [hs] at hs''
                cases hs''
                exact ⟨r', xs, hs, by simpa using hz rfl⟩
              | some hi =>
                obtain ⟨r'', xs'', e1, e2, e3, e4⟩ := gen
                rw [Nat.sub_zero] at e2 e3 e4 ⊢
                exact ⟨r'', xs'', e1, e2, e3, e4⟩
            | some lo => exact gen
        · cases he
      · cases he
    · cases he
  · cases he
theorem mnmx_ok {N : Nat → Prop} {mx : Bool} : ∀ {us : List V} {vs : List Value} {a n : Int}, All2 (VOK φ h w N) us vs → mnmx mx a us = some n →
    (vs.foldlM (if mx then Builtin.max2 else Builtin.min2) (.int .i64 a)).run P w = .ok (.int .i64 n) w
  | [], [], a, n, _, hn => by simp [mnmx] at hn; subst hn; simp
  | [], _ :: _, _, _, hx, _ => hx.elim
  | _ :: _, [], _, _, hx, _ => hx.elim
  | u :: us, v :: vs, a, n, hx, hn => by
    unfold mnmx at hn
    split at hn
    · rename_i he; cases he
    · rename_i y l he
      cases he
      have hv : v = .int .i64 y := hx.1
      subst hv
      have ih := mnmx_ok (mx := mx) hx.2 hn
      cases mx with
      | true => simp only [if_true, List.foldlM_cons, Sem.run_bind, Builtin.max2, Sem.run_pure, Result.andThen_ok] at ih ⊢; exact ih
      | false => simp only [Bool.false_eq_true, if_false, List.foldlM_cons, Sem.run_bind, Builtin.min2, Sem.run_pure, Result.andThen_ok] at ih ⊢; exact ih
    · cases hn
end
end Go.AM
