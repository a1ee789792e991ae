/- Operations of the abstract machine that turn nothing that was there: what each says of the model's run. -/
import Derived.Test.YtfjlhoglgdmmaaaGreatDoorAmTypes
import Derived.Laws.Cells
import Derived.Laws.IdiomCopy
set_option autoImplicit false
set_option linter.unusedVariables false
set_option linter.unusedSimpArgs false
namespace Go.AM

/-- What is handed on of a value, and of a block that was made. -/
def Made (M : Nat → Prop) (φ : Nat → Option Nat) (h : Heap) (w0 : World) (dst : Option Nat) (u : V) (nb : Option Blk) (v : Value) (w' : World) : Prop := match nb with
  | none => VOK φ h w' (Imm M φ) u v
  | some x => ∃ d, dst = some d ∧ (hget h d = none → d < h.length → ∃ f : Option Nat, (∀ b, f = some b → w0.heap.size ≤ b ∧ b < w'.heap.size) ∧
      BlkOK (upd φ d f) (hset h d x) w' (Imm M (upd φ d f)) f x ∧ VOK (upd φ d f) (hset h d x) w' (Imm M (upd φ d f)) u v)
/-- The operation comes to a value, memory having grown at most. -/
def Yields (P : Program) (ρ : Operand → Value) (o : Oper) (w : World) (post : Value → World → Prop) : Prop :=
  (∃ v w', (execOp ρ o).run P w = .ok (.value v) w' ∧ Ext w w' ∧ post v w') ∨
  (∃ f args, (execOp ρ o).run P w = .ok (.enter f args) w ∧ Calls P f args w fun e w' => match e with
    | .returned v => Ext w w' ∧ post v w'
    | _ => False)
theorem Yields.pure {P : Program} {ρ : Operand → Value} {o : Oper} {w : World} {post : Value → World → Prop} {v : Value} (h : (execOp ρ o).run P w = .ok (.value v) w) (hp : post v w) : Yields P ρ o w post :=
  .inl ⟨v, w, h, Ext.refl w, hp⟩
/-! ### Package variables that are known -/
mutual
theorem RepC.flat {w w' : World} {N N' : Nat → Prop} : ∀ {t : CT} {x : t.I} {v : Value}, t.flat = true → RepC w N t x v → RepC w' N' t x v
  | .int _, _, _, _, k => k
  | .bool, _, _, _, k => k
  | .str, _, _, _, k => k
  | .nilp, _, _, _, k => k
theorem RepR.flat {w w' : World} {N N' : Nat → Prop} : ∀ {r : RT} {x : r.I} {b o : Nat}, r.flat = true → w'.heap[b]? = w.heap[b]? → RepR w N r x b o → RepR w' N' r x b o
  | .one c, x, b, o, hf, hb, ⟨v, hv, k⟩ => ⟨v, by rw [cell_of_block hb]; exact hv, RepC.flat hf k⟩
  | .cons c r, x, b, o, hf, hb, ⟨⟨v, hv, k⟩, k2⟩ => by
    have hf : (c.flat && r.flat) = true := hf
    rw [Bool.and_eq_true] at hf
    exact ⟨⟨v, by rw [cell_of_block hb]; exact hv, RepC.flat hf.1 k⟩, RepR.flat hf.2 hb k2⟩
end
abbrev Globs := Nat → Option (Σ r : RT, r.I)
/-- The package variables that are known hold what is told of them, in blocks of N. -/
def GlobOK (G : Globs) (w : World) (N : Nat → Prop) : Prop := ∀ g r x, G g = some ⟨r, x⟩ → r.flat = true ∧ N g ∧ RepR w (fun _ => False) r x g 0
/-- The same, where a call begins: they stay as they are. -/
def GlobW (G : Globs) (w0 : World) (O : Old) (M : Nat → Prop) : Prop := ∀ g r x, G g = some ⟨r, x⟩ → r.flat = true ∧ ¬ O.blk g ∧ ¬ M g ∧ RepR w0 (fun _ => False) r x g 0
theorem GlobOK.imp {G : Globs} {w : World} {N N' : Nat → Prop} (k : GlobOK G w N) (h : ∀ b, N b → N' b) : GlobOK G w N' := fun g r x hg => ⟨(k g r x hg).1, h _ (k g r x hg).2.1, (k g r x hg).2.2⟩
theorem GlobOK.step {G : Globs} {w w' : World} {N N' : Nat → Prop} (k : GlobOK G w N) (h : ∀ b, N b → b < w.heap.size → w'.heap[b]? = w.heap[b]? ∧ N' b) : GlobOK G w' N' := fun g r x hg => by
  obtain ⟨h1, h2, h3⟩ := k g r x hg
  obtain ⟨h4, h5⟩ := h g h2 (RepR.lt r x g 0 h3)
  exact ⟨h1, h5, h3.flat h1 h4⟩
theorem GlobW.ok {G : Globs} {w0 w : World} {O : Old} {M : Nat → Prop} {φ : Nat → Option Nat} (k : GlobW G w0 O M) (hf : Frame w0 O w) (hfr : ∀ s b, φ s = some b → O.blk b ∨ w0.heap.size ≤ b) : GlobOK G w (Imm M φ) := fun g r x hg => by
  obtain ⟨h1, h2, h3, h4⟩ := k g r x hg
  have hlt := RepR.lt r x g 0 h4
  refine ⟨h1, ⟨h3, fun s hs => ?_⟩, h4.flat h1 (hf.block g hlt h2)⟩
  rcases hfr s g hs with h | h
  · exact h2 h
  · omega
theorem evG_ok {G : Globs} {w : World} {φ : Nat → Option Nat} {h : Heap} {N : Nat → Prop} (k : GlobOK G w N) {env : Operand → V} {a : Act} (hev : ∀ x, VOK φ h w N (env x) (a.eval x)) (x : Operand) : VOK φ h w N (evG G env x) (a.eval x) := by
  cases x with
  | tmp t => exact hev (.tmp t)
  | const v => exact hev (.const v)
  | func f => exact hev (.func f)
  | global g =>
    show VOK φ h w N (match G g with | some ⟨r, x⟩ => V.one (.iptr r x 0) | none => .any) _
    cases hg : G g with
    | none => trivial
    | some p =>
      obtain ⟨r, x⟩ := p
      obtain ⟨h1, h2, h3⟩ := k g r x hg
      exact ⟨g, 0, h2, h3.flat h1 rfl, rfl⟩
/-- The function does what 'cal' says. -/
def CalleeOK (P : Program) (G : Globs) (f : Nat) (cal : Callee) : Prop :=
  ∀ (w : World) (N : Nat → Prop) (us : List V) (vs : List Value) (x : Res cal.rs), GlobOK G w N → All2 (VOK (fun _ => none) [] w N) us vs → app cal.ps cal.f us = some (some x) →
    Calls P f vs.toArray w fun e w' => match e with
      | .returned v => Ext w w' ∧ VOK (fun _ => none) [] w' (fun b => N b ∨ w.heap.size ≤ b) (encRes cal.rs x) v
      | _ => False
structure FunOK (P : Program) (G : Globs) (f : Nat) (cal : Callee) : Prop where
  ok : CalleeOK P G f cal
  fn : ∃ fn, P.funcs[f]? = some fn ∧ (fn.name == "runtime.NumGoroutine") = false ∧ fn.body.isNone = false
def FOKv (P : Program) (F : Funs) : Prop := ∀ f cal, F.v f = some cal → FunOK P F.g f cal

section
variable {P : Program} {T : List (Nat × TI)} {R : Type} {M : Nat → Prop} {φ : Nat → Option Nat} {h : Heap} {w : World}

theorem asInt_ok {N : Nat → Prop} {u : V} {v : Value} {n : Int} (hu : asInt u = some n) (k : VOK φ h w N u v) : ∃ q, v = .int q n := by
  unfold asInt at hu
  split at hu
  · cases hu; exact ⟨_, k⟩
  · cases hu
theorem asBool_ok {N : Nat → Prop} {u : V} {v : Value} {b : Bool} (hu : asBool u = some b) (k : VOK φ h w N u v) : v = .bool b := by
  unfold asBool at hu
  split at hu
  · cases hu; exact k
  · cases hu
theorem cells_ok {N : Nat → Prop} {u : V} {v : Value} {cs : List Cell} (hu : u.cells = some cs) (k : VOK φ h w N u v) : CellsOK φ h w N cs v.cells.toList := by
  cases u with
  | one x =>
    simp [V.cells] at hu
    subst hu
    have h1 := CellOK.oneCell k
    have : v.cells = #[v] := by cases v <;> first | rfl | simp [Value.oneCell'] at h1
    rw [this]
    exact ⟨k, trivial⟩
  | agg cs' =>
    simp [V.cells] at hu
    subst hu
    obtain ⟨arr, hv, ha⟩ := k
    rw [hv]
    exact ha
  | _ => simp [V.cells] at hu
theorem mkV_ok {N : Nat → Prop} {a : Bool} {cs : List Cell} {u : V} {vs : List Value} (hu : mkV a cs = some u) (k : CellsOK φ h w N cs vs) :
    (a = true → VOK φ h w N u (.agg vs.toArray)) ∧ (a = false → ∃ v, vs = [v] ∧ VOK φ h w N u v) := by
  cases a with
  | true =>
    simp [mkV] at hu
    subst hu
    exact ⟨fun _ => ⟨_, rfl, by simpa using k⟩, fun h => by cases h⟩
  | false =>
    refine ⟨(fun h => by cases h), fun _ => ?_⟩
    simp only [mkV, cond_false] at hu
    split at hu
    · rename_i x
      cases hu
      cases vs with
      | nil => exact k.elim
      | cons v l =>
        cases l with
        | nil => exact ⟨v, rfl, k.1⟩
        | cons _ _ => exact k.2.elim
    · cases hu
theorem ofConst_ok {N : Nat → Prop} (v : Value) : VOK φ h w N (ofConst v) v := by
  unfold ofConst
  split
  · exact rfl
  · exact rfl
  · exact rfl
  · exact rfl
  · exact rfl
  · trivial

/-- The cells at an address that is known. -/
theorem cellsAt_ok (k : HRel M φ h w) {x : Cell} {v : Value} (hx : CellOK φ h w (Imm M φ) x v) {n : Nat} {cs : List Cell} (hc : cellsAt h n x = some cs) :
    ∃ b o vs, v = .pointer (some ⟨b, o, none⟩) ∧ CellsAt w b o vs ∧ CellsOK φ h w (Imm M φ) cs vs := by
  unfold cellsAt at hc
  split at hc
  · rename_i s off
    obtain ⟨cs', b, hs, hf, hv⟩ := hx
    rw [hs] at hc
    simp only [Option.some.injEq] at hc
    obtain ⟨b', c, hf', hwc, hwm, hk⟩ := k.blk s _ hs
    rw [hf] at hf'
    cases hf'
    refine ⟨b, off, (c.toList.drop off).take n, hv, CellsAt.of_get fun i u hu => ?_, ?_⟩
    · rw [wcells_cell hwc]
      have : (c.toList.drop off)[i]? = some u := by
        rw [List.getElem?_take] at hu
        split at hu
        · exact hu
        · cases hu
      rw [List.getElem?_drop] at this
      simpa using this
    · rw [← hc, ltake_eq, ldrop_eq]
      exact All2.take' n (All2.drop' off hk)
  · rename_i s i off
    obtain ⟨r, xs, b, hs, hf, hi, hv⟩ := hx
    rw [hs] at hc
    simp only [Option.some.injEq] at hc
    have hb := k.blk s _ hs
    rw [hf] at hb
    obtain ⟨cap, c, hwc, hwm, hsz, hl, hr⟩ := hb
    obtain ⟨vs, h1, h2⟩ := (hr i hi).cells
    have hg : xs.getD i r.zero = xs[i] := by simp [List.getD, hi]
    refine ⟨b, i * r.n + off, (vs.drop off).take n, hv, CellsAt.of_get fun j u hu => ?_, ?_⟩
    · have : (vs.drop off)[j]? = some u := by
        rw [List.getElem?_take] at hu
        split at hu
        · exact hu
        · cases hu
      rw [List.getElem?_drop] at this
      have := h1.get _ _ this
      rw [show i * r.n + off + j = i * r.n + (off + j) by omega]; exact this
    · rw [← hc, ltake_eq, ldrop_eq, hg]
      exact All2.take' n (All2.drop' off (rowCells_plain h2))
  · rename_i r x off
    obtain ⟨b, o, hN, hr, hv⟩ := hx
    simp only [Option.some.injEq] at hc
    obtain ⟨vs, h1, h2⟩ := hr.cells
    refine ⟨b, o + off, (vs.drop off).take n, hv, CellsAt.of_get fun j u hu => ?_, ?_⟩
    · have : (vs.drop off)[j]? = some u := by
        rw [List.getElem?_take] at hu
        split at hu
        · exact hu
        · cases hu
      rw [List.getElem?_drop] at this
      have := h1.get _ _ this
      rw [show o + off + j = o + (off + j) by omega]; exact this
    · rw [← hc, ltake_eq, ldrop_eq]
      exact All2.take' n (All2.drop' off (rowCells_plain h2))
  · cases hc
theorem add_plain (b o j : Nat) : (⟨b, o, none⟩ : Addr).add j = ⟨b, o + j, none⟩ := by unfold Addr.add; split <;> simp_all
theorem run_loadVar {t : Nat} {ti : TI} (hT : TIok P t ti) {b o : Nat} {vs : List Value} (hc : CellsAt w b o vs) (hl : vs.length = ti.size) {cs : List Cell} {u : V} {N : Nat → Prop} (hu : mkV ti.agg cs = some u)
    (hk : CellsOK φ h w N cs vs) : ∃ v, (loadVar t ⟨b, o, none⟩).run P w = .ok v w ∧ VOK φ h w N u v := by
  have hget := hc.get
  unfold loadVar
  obtain ⟨k1, k2⟩ := mkV_ok hu hk
  cases ha : ti.agg with
  | true =>
    refine ⟨.agg vs.toArray, ?_, k1 ha⟩
    have := run_loadCells_list (P := P) w ⟨b, o, none⟩ vs (fun j v hv => by rw [add_plain]; exact hget j v hv)
    simp only [Sem.run_bind, hT.isAgg, ha, Result.andThen_ok, if_true, hT.sizeOf, ← hl, this, Sem.run_pure]
  | false =>
    obtain ⟨v, hv, hk⟩ := k2 ha
    refine ⟨v, ?_, hk⟩
    have h0 : w.cell? ⟨b, o, none⟩ = some v := by
      have := hget 0 v (by rw [hv]; rfl)
      simpa using this
    simp only [Sem.run_bind, hT.isAgg, ha, Result.andThen_ok, Bool.false_eq_true, if_false, run_load, h0]
theorem loadK_ok (hT : TOK P T) (k : HRel M φ h w) {t : Nat} {u : V} {v : Value} (hu : VOK φ h w (Imm M φ) u v) {K : V → Option R} {r : R} (he : loadK T t u h K = some r) :
    ∃ u', K u' = some r ∧ ∃ v', (Instr.loadAt t v).run P w = .ok v' w ∧ VOK φ h w (Imm M φ) u' v' := by
  unfold loadK at he
  split at he
  · rename_i ti x ht
    split at he
    · rename_i cs hcs
      cases hb : Nat.beq (llen cs) ti.size with
      | false => rw [hb] at he; cases he
      | true =>
        rw [hb, cond_true] at he
        split at he
        · rename_i u' hm
          obtain ⟨b, o, vs, hv, hc, hk⟩ := cellsAt_ok k hu hcs
          have hl : vs.length = ti.size := by rw [← hk.length, ← llen_eq]; exact Nat.eq_of_beq_eq_true hb
          obtain ⟨v', hr, hk'⟩ := run_loadVar (hT t ti ht) hc hl hm hk
          refine ⟨u', he, v', ?_, hk'⟩
          rw [hv]
          simp only [Instr.loadAt, Instr.sureAddr, Sem.run_bind, Sem.run_pure, Result.andThen_ok, hr]
        · cases he
    · cases he
  · cases he
theorem fieldOff_ok (hT : TOK P T) {t f : Nat} {x : Nat × Nat} (hf : fieldOff T t f = some x) :
    ∃ gs g, P.underlying t = some (.struct gs) ∧ gs[f]? = some g ∧ g.type = x.1 ∧ g.offset = x.2 ∧ ∃ j, P.info? g.type = some j ∧ j.size ≠ 0 := by
  unfold fieldOff at hf
  split at hf
  · rename_i ti ht
    split at hf
    · rename_i fs hd
      split at hf
      · rename_i y hy
        cases hf
        obtain ⟨gs, hu, hg⟩ := (hT t ti ht).under_struct hd
        obtain ⟨g, h1, h2, h3, h4⟩ := fields_get hg f _ hy
        exact ⟨gs, g, hu, by simpa using h1, h2, h3, h4⟩
      · cases hf
    · cases hf
  · cases hf
theorem run_sizeOf_of {t : Nat} {j : TypeInfo} (h : P.info? t = some j) : (sizeOf t).run P w = .ok j.size w := by
  unfold Go.sizeOf Go.typeInfo
  simp [h]
theorem fieldAddrK_ok (hT : TOK P T) {t f : Nat} {u : V} {v : Value} (hu : VOK φ h w (Imm M φ) u v) {K : V → Option R} {r : R} (he : fieldAddrK T t u f K = some r) :
    ∃ u', K u' = some r ∧ ∃ v', (Instr.fieldAt t v f).run P w = .ok v' w ∧ VOK φ h w (Imm M φ) u' v' := by
  unfold fieldAddrK at he
  split at he
  · rename_i x hx
    obtain ⟨gs, g, hd, hg, ht, ho, j, hj, hj0⟩ := fieldOff_ok hT hx
    have hrun : ∀ b o, (Instr.fieldAt t (.pointer (some ⟨b, o, none⟩)) f).run P w = .ok (.pointer (some ⟨b, o + x.2, none⟩)) w := fun b o => by
      simp only [Instr.fieldAt, Sem.run_bind, run_underlying hd, Result.andThen_ok, hg, Instr.sureAddr, Sem.run_pure, fieldPlace, run_sizeOf_of hj]
      rw [if_neg hj0]
      simp [add_plain, ho]
    split at he
    · obtain ⟨cs, b, hs, hf, hv⟩ := hu
      refine ⟨_, he, _, by rw [hv]; exact hrun _ _, cs, b, hs, hf, rfl⟩
    · obtain ⟨r', xs, b, hs, hf, hi, hv⟩ := hu
      refine ⟨_, he, _, by rw [hv]; exact hrun _ _, r', xs, b, hs, hf, hi, by rw [Nat.add_assoc]⟩
    · obtain ⟨b, o, hN, hr, hv⟩ := hu
      refine ⟨_, he, _, by rw [hv]; exact hrun _ _, b, o, hN, hr, by rw [Nat.add_assoc]⟩
    · cases he
  · cases he
theorem run_part {t : Nat} {ti : TI} (hT : TIok P t ti) {cs : List Cell} {arr : Array Value} {o : Nat} {N : Nat → Prop} (hk : CellsOK φ h w N cs arr.toList) {u : V} (hu : mkV ti.agg (ltake (ldrop cs o) ti.size) = some u) :
    ∃ v, (part t arr o).run P w = .ok v w ∧ VOK φ h w N u v := by
  rw [ltake_eq, ldrop_eq] at hu
  have hk' := All2.take' ti.size (All2.drop' o hk)
  obtain ⟨k1, k2⟩ := mkV_ok hu hk'
  unfold part
  cases ha : ti.agg with
  | true =>
    refine ⟨_, ?_, k1 ha⟩
    simp only [Sem.run_bind, hT.isAgg, ha, Result.andThen_ok, if_true, hT.sizeOf, Sem.run_pure]
    congr 2
    apply Array.ext'
    simp [List.take_drop, Nat.add_comm]
  | false =>
    obtain ⟨v, hv, hk⟩ := k2 ha
    refine ⟨v, ?_, hk⟩
    have h0 : arr[o]? = some v := by
      have : ((arr.toList.drop o).take ti.size)[0]? = some v := by rw [hv]; rfl
      rw [List.getElem?_take] at this
      split at this
      · rw [List.getElem?_drop] at this; simpa using this
      · cases this
    simp only [Sem.run_bind, hT.isAgg, ha, Result.andThen_ok, Bool.false_eq_true, if_false, h0, Sem.run_pure]
theorem fieldK_ok (hT : TOK P T) {t f : Nat} {u : V} {v : Value} {N : Nat → Prop} (hu : VOK φ h w N u v) {K : V → Option R} {r : R} (he : fieldK T t u f K = some r) :
    ∃ u', K u' = some r ∧ ∃ v', (Instr.field t v f).run P w = .ok v' w ∧ VOK φ h w N u' v' := by
  unfold fieldK at he
  split at he
  · rename_i x cs hx
    obtain ⟨gs, g, hd, hg, ht, ho, j, hj, hj0⟩ := fieldOff_ok hT hx
    obtain ⟨arr, hv, ha⟩ := hu
    split at he
    · rename_i ti hti
      split at he
      · rename_i u' hm
        obtain ⟨v', hr, hk⟩ := run_part (hT _ _ hti) ha hm
        refine ⟨u', he, v', ?_, hk⟩
        rw [hv]
        simp only [Instr.field, Sem.run_bind, run_underlying hd, Result.andThen_ok, hg, asAgg, Sem.run_pure, ht, ho, hr]
      · cases he
    · cases he
  · cases he
theorem sel_ok {i : Int} {K : Nat → Option R} {r : R} : ∀ (n j : Nat), sel i n j K = some r → ∃ m, j ≤ m ∧ m < j + n ∧ i = (m : Int) ∧ K m = some r
  | 0, _, h => by simp [sel] at h
  | n + 1, j, h => by
    unfold sel at h
    by_cases hi : i = (j : Int)
    · rw [decide_eq_true hi, cond_true] at h
      exact ⟨j, Nat.le_refl _, by omega, hi, h⟩
    · rw [decide_eq_false hi, cond_false] at h
      obtain ⟨m, h1, h2, h3, h4⟩ := sel_ok n (j + 1) h
      exact ⟨m, by omega, by omega, h3, h4⟩
theorem inR_iff {i : Int} {n : Nat} : inR i n = true ↔ 0 ≤ i ∧ i < n := by simp [inR]
end
end Go.AM
