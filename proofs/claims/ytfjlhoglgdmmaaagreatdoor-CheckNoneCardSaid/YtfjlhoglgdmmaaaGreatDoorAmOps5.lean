/- Operations of the abstract machine that build values and new memory. -/
import Derived.Test.YtfjlhoglgdmmaaaGreatDoorAmOps4
set_option autoImplicit false
set_option linter.unusedVariables false
set_option linter.unusedSimpArgs false
namespace Go.AM
section
variable {P : Program} {T : List (Nat × TI)} {R : Type} {M : Nat → Prop} {φ : Nat → Option Nat} {h : Heap} {w : World}

theorem zipIdx_foldl : ∀ (vs : List Value) (k off : Nat) (arr : Array Value), off + k + vs.length ≤ arr.size →
    ((vs.zipIdx k).foldl (fun cs (x : Value × Nat) => cs.setIfInBounds (off + x.2) x.1) arr).toList = arr.toList.take (off + k) ++ vs ++ arr.toList.drop (off + k + vs.length)
  | [], k, off, arr, h => by simp
  | v :: vs, k, off, arr, h => by
    have hs : (arr.setIfInBounds (off + k) v).size = arr.size := by simp
    simp only [List.length_cons] at h
    rw [List.zipIdx_cons, List.foldl_cons, zipIdx_foldl vs (k + 1) off _ (by rw [hs]; omega)]
    simp only [Array.toList_setIfInBounds]
    have hl : off + k < arr.toList.length := by simp; omega
    rw [show off + (k + 1) = off + k + 1 by omega, List.take_add_one, List.getElem?_set_self hl, List.take_set_of_le (Nat.le_refl _), List.drop_set_of_lt (by omega)]
    simp only [List.length_cons, Option.toList_some, List.append_assoc, List.singleton_append, List.cons_append, List.nil_append]
    rw [show off + k + 1 + vs.length = off + k + (vs.length + 1) by omega]
theorem fill_ok {env : Operand → V} {ρ : Operand → Value} {N : Nat → Prop} (he : ∀ x, VOK φ h w N (env x) (ρ x)) {place place' : Nat → Option (Nat × Nat)} (hp : ∀ i x, place i = some x → place' i = some x) :
    ∀ {parts : List (Nat × Operand)} {cs cs' : List Cell} {arr : Array Value}, layParts place env parts cs = some cs' → CellsOK φ h w N cs arr.toList →
      ∃ arr', Instr.fill place' arr (parts.map fun x => (x.1, ρ x.2)) = some arr' ∧ CellsOK φ h w N cs' arr'.toList
  | [], cs, cs', arr, hl, hk => by simp [layParts] at hl; subst hl; exact ⟨arr, rfl, hk⟩
  | (i, x) :: parts, cs, cs', arr, hl, hk => by
    unfold layParts at hl
    split at hl
    · rename_i off size ys hpi hys
      cases hb : (Nat.beq (llen ys) size && Nat.ble (off + size) (llen cs)) with
      | false => rw [hb] at hl; cases hl
      | true =>
        rw [hb, cond_true] at hl
        simp only [Bool.and_eq_true] at hb
        have h1 := Nat.eq_of_beq_eq_true hb.1
        have h2 := Nat.le_of_ble_eq_true hb.2
        rw [llen_eq] at h1 h2
        have hv := cells_ok hys (he x)
        have hvl := hv.length
        have hcl := hk.length
        have hsz : (ρ x).cells.size = size := by rw [← h1, hvl]; simp
        have hle : off + (ρ x).cells.size ≤ arr.size := by rw [hsz]; simpa [hcl] using h2
        have hz := zipIdx_foldl (ρ x).cells.toList 0 off arr (by simpa using hle)
        have hfold : ((ρ x).cells.zipIdx.foldl (fun cs (x : Value × Nat) => cs.setIfInBounds (off + x.2) x.1) arr) = ((ρ x).cells.toList.zipIdx.foldl (fun cs (x : Value × Nat) => cs.setIfInBounds (off + x.2) x.1) arr) := by
          rw [← Array.foldl_toList]; simp
        have hk' : CellsOK φ h w N (splice cs off ys) ((ρ x).cells.zipIdx.foldl (fun cs (x : Value × Nat) => cs.setIfInBounds (off + x.2) x.1) arr).toList := by
          rw [hfold, hz, splice_eq _ _ _ (by omega), Nat.add_zero]
          have e1 : ys.length = (ρ x).cells.toList.length := hvl
          rw [e1]
          exact All2.append (All2.append (All2.take' off hk) hv) (All2.drop' _ hk)
        obtain ⟨arr', hf, hk''⟩ := fill_ok he hp hl hk'
        refine ⟨arr', ?_, hk''⟩
        rw [List.map_cons]
        unfold Instr.fill
        simp only [hp i _ hpi]
        rw [if_neg (by rw [hsz]; simp; rw [hsz] at hle; omega)]
        exact hf
    · cases hl
theorem mapM_sizes : ∀ {gs : List Field} {fs : List (Nat × Nat)}, fieldsOf P gs fs = true →
    (gs.mapM (fun f => do pure (f.offset, ← sizeOf f.type) : Field → Sem (Nat × Nat))).run P w = .ok (gs.map fun f => (f.offset, ((P.info? f.type).map (·.size)).getD 0)) w
  | [], _, _ => by simp
  | g :: gs, [], k => by simp [fieldsOf] at k
  | g :: gs, y :: fs, k => by
    simp only [fieldsOf, Bool.and_eq_true] at k
    obtain ⟨⟨⟨_, _⟩, h3⟩, h4⟩ := k
    cases hi : P.info? g.type with
    | none => rw [hi] at h3; cases h3
    | some j =>
      have hs := run_sizeOf_of (P := P) (w := w) hi
      have ih := mapM_sizes h4
      simp only [List.mapM_cons, Sem.run_bind, hs, Result.andThen_ok, Sem.run_pure, ih, List.map_cons, hi, Option.map_some, Option.getD_some]
theorem zeroCells_ok {ti : TI} {z : Value} (hz : zeroCheck ti z = true) {N : Nat → Prop} : CellsOK φ h w N ti.zero z.cells.toList := by
  unfold zeroCheck at hz
  split at hz
  · rename_i arr
    simp only [Bool.and_eq_true] at hz
    exact statCs_ok hz.2
  · rename_i v hv
    simp only [Bool.and_eq_true] at hz
    obtain ⟨_, hz⟩ := hz
    split at hz
    · rename_i x hx
      have k : CellOK φ h w N x z := statC_ok hz
      have h1 := CellOK.oneCell k
      have : z.cells = #[z] := by cases z <;> first | rfl | simp [Value.oneCell'] at h1
      rw [this, hx]
      exact ⟨k, trivial⟩
    · cases hz
theorem buildK_ok (hT : TOK P T) {env : Operand → V} {ρ : Operand → Value} {N : Nat → Prop} (he : ∀ x, VOK φ h w N (env x) (ρ x)) {t : Nat} {parts : Array (Nat × Operand)} {K : V → Option R} {r : R}
    (hk : buildK T t parts.toList env K = some r) : ∃ u', K u' = some r ∧ ∃ v', (Instr.build t (parts.map fun (i, x) => (i, ρ x))).run P w = .ok v' w ∧ VOK φ h w N u' v' := by
  unfold buildK at hk
  split at hk
  · rename_i ti ht
    have hTi := hT t ti ht
    obtain ⟨z, hz, hzc⟩ := hTi.zeroValue w
    have hzk : CellsOK φ h w N ti.zero z.cells.toList := zeroCells_ok hzc
    have hlist : (parts.map fun (i, x) => (i, ρ x)).toList = parts.toList.map fun x => (x.1, ρ x.2) := by simp
    cases hab : (ti.agg && elemKnown T ti.d) with
    | false => rw [hab] at hk; cases hk
    | true =>
      rw [hab, cond_true] at hk
      simp only [Bool.and_eq_true] at hab
      obtain ⟨ha, hek⟩ := hab
      split at hk
      · rename_i cs hcs
        unfold TI.agg at ha
        split at ha
        · rename_i n e hd
          have hua := hTi.under_arr hd
          cases hte : tfind T e with
          | none => rw [hd] at hek; simp [elemKnown, hte] at hek
          | some te =>
            have hE := hT e te hte
            have hp : ∀ i x, placeOf T ti.d i = some x → (fun i => some (i * te.size, te.size)) i = some x := by
              intro i x hx
              rw [hd] at hx
              simp only [placeOf, hte] at hx
              exact hx
            obtain ⟨arr', hf, hk'⟩ := fill_ok he hp hcs hzk
            refine ⟨_, hk, .agg arr', ?_, arr', rfl, hk'⟩
            simp only [Instr.build, Sem.run_bind, hz, Result.andThen_ok, run_underlying hua, hE.sizeOf, hlist, hf, Sem.run_pure]
        · rename_i fs hd
          obtain ⟨gs, hus, hg⟩ := hTi.under_struct hd
          have hm := mapM_sizes (w := w) hg
          have hp : ∀ i x, placeOf T ti.d i = some x → (fun i => (gs.map fun f => (f.offset, ((P.info? f.type).map (·.size)).getD 0))[i]?) i = some x := by
            intro i x hx
            rw [hd] at hx
            simp only [placeOf] at hx
            split at hx
            · rename_i y hy
              split at hx
              · rename_i ti' hti'
                cases hx
                obtain ⟨f, h1, h2, h3, j, hj, _⟩ := fields_get hg i _ hy
                obtain ⟨j', hj', hs', _⟩ := (hT _ _ hti').info
                rw [← h2, hj] at hj'
                cases hj'
                simp only [Array.getElem?_map]
                have : gs[i]? = some f := by simpa using h1
                rw [this]
                simp [h3, hj, hs']
              · cases hx
            · cases hx
          obtain ⟨arr', hf, hk'⟩ := fill_ok he hp hcs hzk
          refine ⟨_, hk, .agg arr', ?_, arr', rfl, hk'⟩
          have hma : (gs.mapM (fun f => do pure (f.offset, ← sizeOf f.type) : Field → Sem (Nat × Nat))).run P w = .ok (gs.map fun f => (f.offset, ((P.info? f.type).map (·.size)).getD 0)) w := by
            rw [Array.mapM_eq_mapM_toList]
            simp only [map_eq_pure_bind, Sem.run_bind, hm, Result.andThen_ok, Sem.run_pure]
            congr 1
            apply Array.ext'
            simp
          simp only [Instr.build, Sem.run_bind, hz, Result.andThen_ok, run_underlying hus, hma, hlist, hf, Sem.run_pure]
        · cases ha
      · cases hk
  · cases hk

/-! ### New rows of elements -/
theorem toRows_length : ∀ {r : RT} {n : Nat} {cs : List Cell} {xs : List r.I}, toRows r n cs = some xs → xs.length = n
  | r, 0, [], xs, h => by simp [toRows] at h; subst h; rfl
  | r, 0, _ :: _, xs, h => by simp [toRows] at h
  | r, n + 1, cs, xs, h => by
    simp only [toRows] at h
    split at h
    · rename_i x ys h1 h2
      cases h
      simp [toRows_length h2]
    · cases h
theorem RT.n_pos : ∀ (r : RT), 0 < r.n
  | .one _ => by simp [RT.n]
  | .cons _ r => by simp [RT.n]
/-- Elements out of cells that lie one behind the other. -/
theorem toRows_ok {φ : Nat → Option Nat} {h : Heap} {w w' : World} {N N' : Nat → Prop} (hA : ∀ b, N b → b < w.heap.size → w'.heap[b]? = w.heap[b]? ∧ N' b) {r : RT} {b : Nat} :
    ∀ {n : Nat} {cs : List Cell} {xs : List r.I} {vs : List Value} {o : Nat}, toRows r n cs = some xs → CellsOK φ h w N cs vs → CellsAt w' b o vs → ∀ i (hi : i < xs.length), RepR w' N' r (xs[i]'hi) b (o + i * r.n)
  | 0, [], xs, vs, o, ht, _, _, i, hi => by simp [toRows] at ht; subst ht; simp at hi
  | 0, _ :: _, xs, _, _, ht, _, _, _, _ => by simp [toRows] at ht
  | n + 1, cs, xs, vs, o, ht, hk, ha, i, hi => by
    simp only [toRows] at ht
    split at ht
    · rename_i x ys h1 h2
      cases ht
      rw [ltake_eq] at h1
      rw [ldrop_eq] at h2
      have hk1 := All2.take' r.n hk
      have hk2 := All2.drop' r.n hk
      have hat : CellsAt w' b o (vs.take r.n) := CellsAt.of_get fun j u hu => by
        rw [List.getElem?_take] at hu
        split at hu
        · exact ha.get j u hu
        · cases hu
      have had : CellsAt w' b (o + r.n) (vs.drop r.n) := CellsAt.of_get fun j u hu => by
        rw [List.getElem?_drop] at hu
        have := ha.get _ u hu
        rw [show o + r.n + j = o + (r.n + j) by omega]; exact this
      cases i with
      | zero => simp; exact toRow_ok hA h1 hk1 hat
      | succ i =>
        have := toRows_ok hA h2 hk2 had i (by simpa using hi)
        rw [show o + (i + 1) * r.n = o + r.n + i * r.n by rw [Nat.add_mul]; omega]
        simpa using this
    · cases ht
/-- A new row whose cells are known. -/
theorem made_lst (k : HRel M φ h w) {r : RT} {xs : List r.I} {cells : Array Value} {e cap d : Nat} (hsz : cells.size = cap * r.n) (hl : xs.length ≤ cap) {w' : World} (hw' : w' = w ∨ w' = w.drew)
    (hr : ∀ N' : Nat → Prop, (∀ b, Imm M φ b → b < w.heap.size → N' b) → ∀ i (hi : i < xs.length), RepR (w'.alloc (.cells cells e)) N' r (xs[i]'hi) w.heap.size (i * r.n)) :
    Ext w (w'.alloc (.cells cells e)) ∧ Made M φ h w (some d) (.one (.vec d)) (some (.lst r xs)) (.slice (some ⟨w.heap.size, 0, none⟩) xs.length cap) (w'.alloc (.cells cells e)) := by
  have hx : Ext w w' := by
    rcases hw' with rfl | rfl
    · exact Ext.refl _
    · exact Ext.drew _
  have hs : w'.heap.size = w.heap.size := by rcases hw' with rfl | rfl <;> rfl
  have hwc : wcells (w'.alloc (.cells cells e)) w.heap.size = some cells := by rw [← hs]; exact wcells_alloc _ _
  refine ⟨hx.trans (Ext.alloc _ _), d, rfl, fun hn hlt => ⟨some w.heap.size, ?_, ?_, ?_⟩⟩
  · intro b hb; cases hb; exact ⟨Nat.le_refl _, by simp [hs]⟩
  · refine ⟨cap, cells, hwc, by rw [← hs]; exact warm_alloc _ _, hsz, hl, ?_⟩
    refine hr _ fun b hN hb => hN.ext (fun s b' hs' hb' => ?_) hb
    unfold upd at hs'
    split at hs'
    · cases hs'; omega
    · exact hs'
  · refine ⟨r, xs, hget_hset_same _ _ _ hlt, ?_⟩
    rw [upd_same]
    exact ⟨cap, cells, rfl, hl, hwc, hsz⟩
theorem zeros_ok {N : Nat → Prop} {z : List Cell} {vs : List Value} (k : CellsOK φ h w N z vs) : ∀ n, CellsOK φ h w N (zeros z n) (List.replicate n vs).flatten
  | 0 => by simp [zeros]; trivial
  | n + 1 => by
    rw [List.replicate_succ, List.flatten_cons]
    exact All2.append k (zeros_ok k n)
theorem flatten_get (vs : List Value) : ∀ (n j : Nat), j < n * vs.length → (List.replicate n vs).flatten[j]? = vs[j % vs.length]?
  | 0, j, h => by simp at h
  | n + 1, j, h => by
    rw [List.replicate_succ, List.flatten_cons]
    by_cases hj : j < vs.length
    · rw [List.getElem?_append_left hj, Nat.mod_eq_of_lt hj]
    · rw [List.getElem?_append_right (by omega), flatten_get vs n (j - vs.length) (by have h2 := h; rw [Nat.add_mul] at h2; omega)]
      congr 1
      rw [← Nat.mod_eq_sub_mod (by omega)]
theorem madeCells_list (z : Array Value) (n : Nat) : (madeCells z (n * z.size)).toList = (List.replicate n z.toList).flatten := by
  apply List.ext_getElem?
  intro j
  by_cases hj : j < n * z.size
  · rw [flatten_get z.toList n j (by simpa using hj)]
    have hz : 0 < z.size := by
      rcases Nat.eq_zero_or_pos z.size with h0 | h0
      · rw [h0] at hj; simp at hj
      · exact h0
    have hm : j % z.size < z.size := Nat.mod_lt _ hz
    simp [madeCells, hj, hm]
  · have h1 : (List.replicate n z.toList).flatten.length = n * z.size := by simp
    rw [List.getElem?_eq_none (by simp [madeCells]; omega), List.getElem?_eq_none (by rw [h1]; omega)]
theorem makeSliceK_ok (hT : TOK P T) (k : HRel M φ h w) {t : Nat} {l c : V} {vl vc : Value} (hl : VOK φ h w (Imm M φ) l vl) (hc : VOK φ h w (Imm M φ) c vc) {d : Option Nat} {K : V → Option Blk → Option R} {r : R}
    (he : makeSliceK T t l c d K = some r) : ∃ u' nb, K u' nb = some r ∧ ∃ v' w', (Instr.makeSlice t vl vc).run P w = .ok v' w' ∧ Ext w w' ∧ Made M φ h w d u' nb v' w' := by
  unfold makeSliceK at he
  split at he
  · rename_i ti n m d' ht hn hm
    obtain ⟨q, rfl⟩ := asInt_ok hn hl
    obtain ⟨q', rfl⟩ := asInt_ok hm hc
    split at he
    · rename_i e hd
      have hus := (hT t ti ht).under_slice hd
      split at he
      · rename_i te hte
        have hE := hT e te hte
        split at he
        · rename_i rr hrow
          obtain ⟨hrn, hrz⟩ := hE.rown hrow
          cases hb : (Nat.ble 1 te.bytes && (decide (n = m) && (decide (0 ≤ n) && decide (n * te.bytes ≤ 281474976710656)))) with
          | false => rw [hb] at he; cases he
          | true =>
            rw [hb, cond_true] at he
            simp only [Bool.and_eq_true, decide_eq_true_eq] at hb
            obtain ⟨hb1, rfl, h0, h1⟩ := hb
            have hb1 : 1 ≤ te.bytes := Nat.le_of_ble_eq_true hb1
            obtain ⟨i, hi, hib, his⟩ := hE.typeInfo w
            obtain ⟨z, hz, hzc⟩ := hE.zeroValue w
            have hzk : ∀ N, CellsOK φ h w N te.zero z.cells.toList := fun N => zeroCells_ok hzc
            have hzs : z.cells.size = rr.n := by
              have h2 := toRow_length (rowZero_toRow rr te.zero hrz)
              have h3 := (hzk (fun _ => True)).length
              rw [← h2, h3]; simp
            have hn2 : n ≤ 281474976710656 := by
              have : n * 1 ≤ n * (te.bytes : Int) := Int.mul_le_mul_of_nonneg_left (by omega) h0
              omega
            have hw : IntKind.i64.wrap n = n := by unfold IntKind.wrap; simp [IntKind.bits, IntKind.signed]; omega
            have hte : te.size = rr.n := hrn.symm
            have hcells : ((Array.range (n.toNat * te.size)).map ((if n.toNat * te.size = 0 then #[] else z.cells)[· % (if n.toNat * te.size = 0 then #[] else z.cells).size]!)).toList = (List.replicate n.toNat z.cells.toList).flatten := by
              by_cases h0 : n.toNat * te.size = 0
              · have : n.toNat = 0 := by
                  rcases Nat.mul_eq_zero.1 h0 with h | h
                  · exact h
                  · have := rr.n_pos; omega
                simp [this]
              · simp only [if_neg h0]
                have := madeCells_list z.cells n.toNat
                rw [hzs, ← hte] at this
                rw [← this]
                unfold madeCells
                rw [hzs, ← hte]
            generalize hcs : (Array.range (n.toNat * te.size)).map ((if n.toNat * te.size = 0 then #[] else z.cells)[· % (if n.toNat * te.size = 0 then #[] else z.cells).size]!) = cells at hcells
            have hrun : (Instr.makeSlice t (.int q n) (.int q' n)).run P w = .ok (.slice (some ⟨w.heap.size, 0, none⟩) n.toNat n.toNat) (w.alloc (.cells cells e)) := by
              have c1 : ¬ (n * (i.bytes : Int) > 281474976710656) := by rw [hib]; omega
              have c2 : ¬ n < 0 := by omega
              have c3 : ¬ n > n := by omega
              have c4 : ¬ ((i.bytes : Int) * n > 281474976710656) := by rw [Int.mul_comm]; exact c1
              simp only [Instr.makeSlice, Sem.run_bind, run_underlying hus, Result.andThen_ok, Go.asInt, Go.asIntOf, Sem.run_pure, hi, hw]
              simp only [show (2 : Int) ^ 48 = 281474976710656 by decide, c2, c3, c4, decide_false, Bool.or_false, Bool.false_eq_true, if_false, Sem.run_bind, run_askRoom, Result.andThen_ok, hE.sizeOf]
              by_cases hzz : n.toNat * te.size = 0
              · simp only [if_pos hzz] at hcs
                simp only [if_pos hzz, Sem.run_bind, Sem.run_pure, Result.andThen_ok, newRow, run_newObj, World.alloc_eq, hcs]
              · simp only [if_neg hzz] at hcs
                simp only [if_neg hzz, Sem.run_bind, Sem.run_pure, Result.andThen_ok, newRow, run_newObj, World.alloc_eq, hz, hcs]
            have hlen : (List.replicate n.toNat rr.zero).length = n.toNat := by simp
            have hmade := made_lst (M := M) (φ := φ) (h := h) (w := w) k (r := rr) (xs := List.replicate n.toNat rr.zero) (cells := cells) (e := e) (cap := n.toNat) (d := d') (by
                have := congrArg List.length hcells
                simp at this
                rw [this, hzs]) (by rw [hlen]; exact Nat.le_refl _) (w' := w) (.inl rfl) (by
                intro N' hN' j hj
                have hjn : j < n.toNat := by rw [hlen] at hj; exact hj
                have hat : CellsAt (w.alloc (.cells cells e)) w.heap.size (j * rr.n) z.cells.toList := CellsAt.of_get fun m u hu => by
                  rw [wcells_cell (wcells_alloc cells e)]
                  have hm : m < z.cells.toList.length := (List.getElem?_eq_some_iff.1 hu).1
                  have hm2 : m < rr.n := by rw [← hzs]; simpa using hm
                  have hlt : j * rr.n + m < n.toNat * z.cells.toList.length := by
                    have : z.cells.toList.length = rr.n := by rw [← hzs]; simp
                    rw [this]
                    calc j * rr.n + m < j * rr.n + rr.n := by omega
                      _ = (j + 1) * rr.n := by rw [Nat.add_mul]; omega
                      _ ≤ n.toNat * rr.n := Nat.mul_le_mul_right _ (by omega)
                  have h3 := flatten_get z.cells.toList n.toNat (j * rr.n + m) hlt
                  rw [← Array.getElem?_toList, hcells, h3, ← hu]
                  congr 1
                  have : z.cells.toList.length = rr.n := by rw [← hzs]; simp
                  rw [this, Nat.mul_comm, Nat.mul_add_mod, Nat.mod_eq_of_lt hm2]
                rw [List.getElem_replicate]
                exact toRow_ok (h := h) (φ := φ) (w := w.alloc (.cells cells e)) (fun b hb _ => ⟨rfl, hb⟩) (rowZero_toRow rr te.zero hrz) (zeroCells_ok hzc) hat)
            rw [hlen] at hmade
            exact ⟨_, _, he, _, _, hrun, hmade.1, hmade.2⟩
        · cases he
      · cases he
    · cases he
  · cases he
theorem buildSliceK_ok (hT : TOK P T) (k : HRel M φ h w) {env : Operand → V} {ρ : Operand → Value} (hev : ∀ x, VOK φ h w (Imm M φ) (env x) (ρ x)) {t len : Nat} {parts : Array (Nat × Operand)} {d : Option Nat} {K : V → Option Blk → Option R} {r : R}
    (he : buildSliceK T t len parts.toList env d K = some r) :
    ∃ u' nb, K u' nb = some r ∧ ∃ v' w', (Instr.buildSlice t len (parts.map fun (i, x) => (i, ρ x))).run P w = .ok v' w' ∧ Ext w w' ∧ Made M φ h w d u' nb v' w' := by
  unfold buildSliceK at he
  split at he
  · rename_i ti d' ht
    split at he
    · rename_i e hd
      have hus := (hT t ti ht).under_slice hd
      split at he
      · rename_i te hte
        have hE := hT e te hte
        split at he
        · rename_i rr hrow
          obtain ⟨hrn, hrz⟩ := hE.rown hrow
          split at he
          · rename_i cs hcs
            split at he
            · rename_i xs hxs
              cases hb : Nat.ble (len * te.size) 16777216 with
              | false => rw [hb] at he; cases he
              | true =>
                rw [hb, cond_true] at he
                have hb := Nat.le_of_ble_eq_true hb
                obtain ⟨z, hz, hzc⟩ := hE.zeroValue w
                have hzk : CellsOK φ h w (Imm M φ) te.zero z.cells.toList := zeroCells_ok hzc
                have hzs : z.cells.size = rr.n := by
                  have h2 := toRow_length (rowZero_toRow rr te.zero hrz)
                  rw [← h2, hzk.length]; simp
                have hlist : (parts.map fun (i, x) => (i, ρ x)).toList = parts.toList.map fun x => (x.1, ρ x.2) := by simp
                have hxl := toRows_length hxs
                by_cases hzz : len * te.size = 0
                · have hl0 : len = 0 := by
                    rcases Nat.mul_eq_zero.1 hzz with h | h
                    · exact h
                    · have := rr.n_pos; omega
                  subst hl0
                  have hk0 : CellsOK φ h w (Imm M φ) (zeros te.zero 0) (#[] : Array Value).toList := trivial
                  obtain ⟨arr', hf, hk'⟩ := fill_ok hev (place' := fun i => some (i * te.size, te.size)) (fun _ _ h => h) hcs hk0
                  have hrun : (Instr.buildSlice t 0 (parts.map fun (i, x) => (i, ρ x))).run P w = .ok (.slice (some ⟨w.heap.size, 0, none⟩) 0 0) (w.alloc (.cells arr' e)) := by
                    simp only [Instr.buildSlice, Sem.run_bind, run_underlying hus, Result.andThen_ok, hE.sizeOf, Nat.zero_mul]
                    simp only [show ¬ (0 > 2 ^ 24) by decide, if_false, if_true, Sem.run_bind, Sem.run_pure, Result.andThen_ok]
                    have ha0 : (Array.range 0).map (fun x => (#[] : Array Value)[x % (#[] : Array Value).size]!) = #[] := by simp
                    simp only [ha0, hlist, hf, Sem.run_bind, newRow, run_newObj, Sem.run_pure, Result.andThen_ok, World.alloc_eq]
                  obtain rfl : xs = [] := List.eq_nil_of_length_eq_zero hxl
                  have hal : arr'.size = 0 := by
                    have h1 := hk'.length
                    have h2 : cs.length = 0 := by
                      cases cs with
                      | nil => rfl
                      | cons _ _ => simp [toRows] at hxs
                    rw [h2] at h1
                    simpa using h1.symm
                  have hm := made_lst (M := M) (φ := φ) (h := h) k (r := rr) (xs := []) (cells := arr') (e := e) (cap := 0) (d := d') (by simp [hal]) (by simp) (w' := w) (.inl rfl) (by intro _ _ i hi; simp at hi)
                  exact ⟨_, _, he, _, _, hrun, hm.1, hm.2⟩
                · have hmc := madeCells_list z.cells len
                  have hsz2 : z.cells.size = te.size := by rw [hzs, hrn]
                  have hk0 : CellsOK φ h w (Imm M φ) (zeros te.zero len) (madeCells z.cells (len * te.size)).toList := by
                    rw [← hsz2, hmc]
                    exact zeros_ok hzk len
                  obtain ⟨arr', hf, hk'⟩ := fill_ok hev (place' := fun i => some (i * te.size, te.size)) (fun _ _ h => h) hcs hk0
                  have hrun : (Instr.buildSlice t len (parts.map fun (i, x) => (i, ρ x))).run P w = .ok (.slice (some ⟨w.heap.size, 0, none⟩) len len) (w.alloc (.cells arr' e)) := by
                    simp only [Instr.buildSlice, Sem.run_bind, run_underlying hus, Result.andThen_ok, hE.sizeOf]
                    rw [if_neg (by simp; omega)]
                    simp only [if_neg hzz, Sem.run_bind, hz, Sem.run_pure, Result.andThen_ok]
                    have hf' : Instr.fill (fun i => some (i * te.size, te.size)) ((Array.range (len * te.size)).map (fun x => z.cells[x % z.cells.size]!)) (parts.map fun (i, x) => (i, ρ x)).toList = some arr' := by rw [hlist]; exact hf
                    simp only [hf', Sem.run_bind, newRow, run_newObj, Sem.run_pure, Result.andThen_ok, World.alloc_eq]
                  have hcl : cs.length = len * rr.n := by
                    have : ∀ {n : Nat} {cs : List Cell} {xs : List rr.I}, toRows rr n cs = some xs → cs.length = n * rr.n := by
                      intro n
                      induction n with
                      | zero => intro cs xs h; cases cs with
                        | nil => simp
                        | cons _ _ => simp [toRows] at h
                      | succ n ih =>
                        intro cs xs h
                        simp only [toRows] at h
                        split at h
                        · rename_i x ys h1 h2
                          have l1 := toRow_length h1
                          have l2 := ih h2
                          rw [ltake_eq] at l1
                          rw [ldrop_eq] at l2
                          simp at l1 l2
                          rw [Nat.add_mul]
                          omega
                        · cases h
                    exact this hxs
                  have hal : arr'.size = len * rr.n := by rw [← hcl, hk'.length]; simp
                  have hm := made_lst (M := M) (φ := φ) (h := h) k (r := rr) (xs := xs) (cells := arr') (e := e) (cap := len) (d := d') hal (by rw [hxl]; exact Nat.le_refl _) (w' := w) (.inl rfl) (by
                    intro N' hN' i hi
                    have hat : CellsAt (w.alloc (.cells arr' e)) w.heap.size 0 arr'.toList := CellsAt.of_get fun m u hu => by
                      rw [wcells_cell (wcells_alloc arr' e)]
                      simpa using hu
                    have := toRows_ok (h := h) (φ := φ) (w := w) (N := Imm M φ) (w' := w.alloc (.cells arr' e)) (N' := N') (fun b hb hlt => ⟨(Ext.alloc w _).block b hlt, hN' b hb hlt⟩) hxs hk' hat i hi
                    rwa [Nat.zero_add] at this)
                  rw [hxl] at hm
                  exact ⟨_, _, he, _, _, hrun, hm.1, hm.2⟩
            · cases he
          · cases he
        · cases he
      · cases he
    · cases he
  · cases he
/-- A new block of cells that are known. -/
theorem made_row (k : HRel M φ h w) {cs : List Cell} {cells : Array Value} {e d : Nat} (hk : CellsOK φ h w (Imm M φ) cs cells.toList) :
    Ext w (w.alloc (.cells cells e)) ∧ Made M φ h w (some d) (.one (.ptr d 0)) (some (.row cs)) (.pointer (some ⟨w.heap.size, 0, none⟩)) (w.alloc (.cells cells e)) := by
  refine ⟨Ext.alloc _ _, d, rfl, fun hn hlt => ⟨some w.heap.size, ?_, ?_, ?_⟩⟩
  · intro b hb; cases hb; exact ⟨Nat.le_refl _, by simp⟩
  · refine ⟨w.heap.size, cells, rfl, wcells_alloc _ _, warm_alloc _ _, ?_⟩
    refine CellsOK.later (Later.grow (Ext.alloc _ _) (Sub.name hn) (fun s b' hs' hb' => ?_)) hk
    unfold upd at hs'
    split at hs'
    · cases hs'; omega
    · exact hs'
  · exact ⟨cs, w.heap.size, hget_hset_same _ _ _ hlt, upd_same _ _ _, rfl⟩
end
end Go.AM
