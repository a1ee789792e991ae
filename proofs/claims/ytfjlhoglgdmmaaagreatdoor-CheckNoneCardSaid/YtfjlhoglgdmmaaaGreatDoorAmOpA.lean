/- Every operation of the abstract machine that turns nothing that was there. -/
import Derived.Test.YtfjlhoglgdmmaaaGreatDoorAmOps5
set_option autoImplicit false
set_option linter.unusedVariables false
set_option linter.unusedSimpArgs false
namespace Go.AM
section
variable {P : Program} {T : List (Nat × TI)} {F : Funs} {R : Type} {M : Nat → Prop} {φ : Nat → Option Nat} {h : Heap} {w : World}

theorem run_call_of {a : Act} {c : Call} {f : FuncId} {fn : Func} (hc : c.callee = .value (.func f)) (hf : P.funcs[f]? = some fn) (hn : (fn.name == "runtime.NumGoroutine") = false) (hb : fn.body.isNone = false) {o : Oper} (ho : o.op = .call c) :
    (execOp a.eval o).run P w = .ok (.enter f (c.args.map a.eval)) w := by
  unfold execOp
  rw [ho]
  simp only [resolve, hc, Act.eval, Deferred.ofValue, Sem.run_bind, Sem.run_pure, Result.andThen_ok, invoke, callFunc, run_program, hf, hn, hb, Bool.false_eq_true, if_false]
  simp
theorem lmap_all {p : V → Value → Prop} {env : Operand → V} {ρ : Operand → Value} (he : ∀ x, p (env x) (ρ x)) : ∀ xs : List Operand, All2 p (lmap env xs) (xs.map ρ)
  | [] => trivial
  | x :: xs => ⟨he x, lmap_all he xs⟩
theorem callA_ok (hF : FOKv P F) (hG : GlobOK F.g w (Imm M φ)) (k : HRel M φ h w) {env : Operand → V} {a : Act} (hev : ∀ x, VOK φ h w (Imm M φ) (env x) (a.eval x)) {o : Oper} {c : Call} {f : Nat} (ho : o.op = .call c) (hc : c.callee = .value (.func f))
    {K : V → Option Blk → Option R} {r : R} {cal : Callee} (hcal : F.v f = some cal) (hfl : (allFlat cal.rs || (vNames (lmap env c.args.toList)).isEmpty) = true) {us : List V} (hus : (bif allFlat cal.rs then borVs h cal.ps (lmap env c.args.toList) else immVs h (lmap env c.args.toList)) = some us)
    {y : Option (Res cal.rs)} (hy : app cal.ps cal.f us = some y) (he : (y.bind fun x => K (encRes cal.rs x) none) = some r) :
    ∃ u nb, K u nb = some r ∧ Yields P a.eval o w (fun v w' => Made M φ h w o.dst u nb v w') := by
  cases y with
  | none => cases he
  | some x =>
    obtain ⟨hok, fn, hfn, hn, hb⟩ := hF f cal hcal
    have hargs : All2 (VOK φ h w (Imm M φ)) (lmap env c.args.toList) (c.args.toList.map a.eval) := lmap_all hev _
    have hrun := run_call_of (P := P) (w := w) (a := a) hc hfn hn hb ho
    have hvs : (c.args.toList.map a.eval).toArray = c.args.map a.eval := by apply Array.ext'; simp
    refine ⟨_, none, he, .inr ⟨f, c.args.map a.eval, hrun, ?_⟩⟩
    cases hfb : allFlat cal.rs with
    | true =>
      rw [hfb, cond_true] at hus
      have h1 := borVs_ok k hargs hus
      have h2 := hok w (Still M) us _ x (hG.imp fun b hb => hb.still) h1 hy
      rw [hvs] at h2
      refine h2.mono fun e w' he' => ?_
      cases e with
      | returned v =>
        obtain ⟨h3, h4⟩ := he'
        exact ⟨h3, encRes_flat hfb h4⟩
      | panicked _ => exact he'
      | outgrown => exact he'
    | false =>
      rw [hfb, Bool.false_or, List.isEmpty_iff] at hfl
      rw [hfb, cond_false] at hus
      have h1 := immVs_imm hargs hus hfl
      have h2 := hok w (Imm M φ) us _ x hG h1 hy
      rw [hvs] at h2
      refine h2.mono fun e w' he' => ?_
      cases e with
      | returned v =>
        obtain ⟨h3, h4⟩ := he'
        refine ⟨h3, ?_⟩
        show VOK φ h w' (Imm M φ) _ v
        have hmono : VOK (fun _ => none) [] w' (Imm M φ) (encRes cal.rs x) v := by
          refine VOK.later ⟨Sub.refl _ _, fun b hb hlt => ⟨rfl, ?_⟩, fun s b hs => by cases hs⟩ h4
          rcases hb with hb | hb
          · exact hb
          · exact ⟨fun hM => by have := k.old b hM; omega, fun s hs => by have := (k.own s b hs).2; omega⟩
        exact encRes_plain hmono
      | panicked _ => exact he'
      | outgrown => exact he'
theorem pure_value {ρ : Operand → Value} {o : Oper} {s : Sem Value} {v : Value} (ho : execOp ρ o = (do pure (.value (← s)))) (hs : s.run P w = .ok v w) : (execOp ρ o).run P w = .ok (.value v) w := by
  rw [ho]; simp only [Sem.run_bind, hs, Result.andThen_ok, Sem.run_pure]
theorem pure_value' {ρ : Operand → Value} {o : Oper} {s : Sem Value} {v : Value} {w' : World} (ho : execOp ρ o = (do pure (.value (← s)))) (hs : s.run P w = .ok v w') : (execOp ρ o).run P w = .ok (.value v) w' := by
  rw [ho]; simp only [Sem.run_bind, hs, Result.andThen_ok, Sem.run_pure]
theorem opA_ok (hT : TOK P T) (hF : FOKv P F) (hG : GlobOK F.g w (Imm M φ)) (k : HRel M φ h w) {env : Operand → V} {a : Act} (hev : ∀ x, VOK φ h w (Imm M φ) (env x) (a.eval x)) {o : Oper} {K : V → Option Blk → Option R} {r : R}
    (he : opA T F o env h K = some r) : ∃ u nb, K u nb = some r ∧ Yields P a.eval o w (fun v w' => Made M φ h w o.dst u nb v w') := by
  unfold opA at he
  have hgv := evG_ok hG hev
  split at he
  · rename_i x ho
    exact ⟨_, none, he, .pure (by unfold execOp; rw [ho]; rfl) (hev x)⟩
  · rename_i x ho
    exact ⟨_, none, he, .pure (by unfold execOp; rw [ho]; rfl) (hev x)⟩
  · rename_i c x y ho
    split at he
    · rename_i b hb
      have hc := asBool_ok hb (hev c)
      cases b with
      | true =>
        rw [cond_true] at he
        exact ⟨_, none, he, .pure (v := a.eval x) (by unfold execOp; rw [ho]; simp [hc, Go.asBool]) (hev x)⟩
      | false =>
        rw [cond_false] at he
        exact ⟨_, none, he, .pure (v := a.eval y) (by unfold execOp; rw [ho]; simp [hc, Go.asBool]) (hev y)⟩
    · cases he
  · rename_i t ho
    split at he
    · rename_i ti d ht hd
      obtain ⟨z, hz, hzc⟩ := (hT t ti ht).zeroValue w
      have hm := made_row (M := M) (φ := φ) (h := h) k (cs := ti.zero) (cells := z.cells) (e := t) (d := d) (zeroCells_ok hzc)
      refine ⟨_, _, he, .inl ⟨_, _, pure_value' (s := Instr.alloc t true (.tuple #[])) (by unfold execOp; rw [ho]) ?_, hm.1, by rw [hd]; exact hm.2⟩⟩
      simp only [Instr.alloc, Sem.run_bind, hz, Result.andThen_ok, newVar, newRow, run_newObj, Sem.run_pure, World.alloc_eq]
    · cases he
  · rename_i t x ho
    split at he
    · rename_i ti cs d ht hcs hd
      have hm := made_row (M := M) (φ := φ) (h := h) k (cs := cs) (cells := (a.eval x).cells) (e := t) (d := d) (cells_ok hcs (hev x))
      refine ⟨_, _, he, .inl ⟨_, _, pure_value' (s := Instr.box t (a.eval x)) (by unfold execOp; rw [ho]) ?_, hm.1, by rw [hd]; exact hm.2⟩⟩
      simp only [Instr.box, Sem.run_bind, newVar, newRow, run_newObj, Sem.run_pure, Result.andThen_ok, World.alloc_eq]
    · cases he
  · rename_i t x ho
    obtain ⟨u, hu, v, hv, hk⟩ := loadK_ok hT k (hgv x) he
    exact ⟨u, none, hu, .pure (pure_value (by unfold execOp; rw [ho]) hv) hk⟩
  · rename_i x ho
    have nc : ∀ b o', a.eval x = .pointer (some ⟨b, o', none⟩) → (execOp a.eval o).run P w = .ok (.value (a.eval x)) w := by
      intro b o' hv
      unfold execOp; rw [ho]; simp only [hv, Sem.run_pure]
    split at he
    · rename_i s o' hs
      have hv := hgv x
      rw [hs] at hv
      obtain ⟨cs, b, h1, h2, h3⟩ := id hv
      exact ⟨_, none, he, .pure (nc _ _ h3) hv⟩
    · rename_i s i o' hs
      have hv := hgv x
      rw [hs] at hv
      obtain ⟨rr, xs, b, h1, h2, h3, h4⟩ := id hv
      exact ⟨_, none, he, .pure (nc _ _ h4) hv⟩
    · rename_i rr y o' hs
      have hv := hgv x
      rw [hs] at hv
      obtain ⟨b, o'', h1, h2, h3⟩ := id hv
      exact ⟨_, none, he, .pure (nc _ _ h3) hv⟩
    · rename_i rr y hs
      have hv := hgv x
      rw [hs] at hv
      split at he
      · obtain ⟨b, o'', h1, h2, h3⟩ := hv
        exact ⟨_, none, he, .pure (nc _ _ h1) ⟨b, o'', h2, h3, h1⟩⟩
      · cases he
    · cases he
  · rename_i t x f ho
    obtain ⟨u, hu, v, hv, hk⟩ := fieldAddrK_ok hT (hgv x) he
    exact ⟨u, none, hu, .pure (pure_value (by unfold execOp; rw [ho]) hv) hk⟩
  · rename_i t x f ho
    obtain ⟨u, hu, v, hv, hk⟩ := fieldK_ok (P := P) (w := w) hT (hev x) he
    exact ⟨u, none, hu, .pure (pure_value (by unfold execOp; rw [ho]) hv) hk⟩
  · rename_i t x i ho
    obtain ⟨u, hu, v, hv, hk⟩ := indexAddrK_ok hT k (hgv x) (hev i) he
    exact ⟨u, none, hu, .pure (pure_value (by unfold execOp; rw [ho]) hv) hk⟩
  · rename_i t x i ho
    obtain ⟨u, hu, v, hv, hk⟩ := indexK_ok (P := P) (w := w) hT (hev x) (hev i) he
    exact ⟨u, none, hu, .pure (pure_value (by unfold execOp; rw [ho]) hv) hk⟩
  · rename_i op t x y _ ho
    obtain ⟨u, hu, v, hv, hk⟩ := binK_ok (P := P) (w := w) hT (hev x) (hev y) x y he
    exact ⟨u, none, hu, .pure (pure_value (by unfold execOp; rw [ho]) hv) hk⟩
  · rename_i t x ho
    split at he
    · rename_i b hb
      have hc := asBool_ok hb (hev x)
      exact ⟨_, none, he, .pure (v := .bool (!b)) (pure_value (s := Op.unary .not (a.eval x)) (by unfold execOp; rw [ho]) (by rw [hc]; rfl)) rfl⟩
    · cases he
  · rename_i t x ho
    split at he
    · rename_i q n hn
      have hc : a.eval x = .int q n := by have := hev x; rw [hn] at this; exact this
      exact ⟨_, none, he, .pure (v := .int q (q.wrap (0 - n))) (pure_value (s := Op.unary .neg (a.eval x)) (by unfold execOp; rw [ho]) (by rw [hc]; rfl)) rfl⟩
    · cases he
  · rename_i t x ho
    split at he
    · rename_i q n hn
      have hc : a.eval x = .int q n := by have := hev x; rw [hn] at this; exact this
      exact ⟨_, none, he, .pure (v := .int q (q.wrap ((BitVec.ofInt q.bits (if q.signed then -1 else q.max) ^^^ BitVec.ofInt q.bits n).toNat))) (pure_value (s := Op.unary .xor (a.eval x)) (by unfold execOp; rw [ho]) (by rw [hc]; simp only [Op.unary, Op.intBits]; simp)) rfl⟩
    · cases he
  · rename_i s t x ho
    obtain ⟨u, nb, hu, v, w', hv, hx', hm⟩ := convK_ok hT k (hev x) he
    exact ⟨u, nb, hu, .inl ⟨v, w', pure_value' (by unfold execOp; rw [ho]) hv, hx', hm⟩⟩
  · rename_i t l c ho
    obtain ⟨u, nb, hu, v, w', hv, hx', hm⟩ := makeSliceK_ok hT k (hev l) (hev c) he
    exact ⟨u, nb, hu, .inl ⟨v, w', pure_value' (by unfold execOp; rw [ho]) hv, hx', hm⟩⟩
  · rename_i t x lo hi ho
    obtain ⟨u, hu, v, hv, hk⟩ := sliceK_ok hT k (hev x) (vlo := lo.map a.eval) (vhi := hi.map a.eval)
      (fun u hu => by cases lo with | none => simp at hu | some y => simp at hu; subst hu; exact ⟨_, rfl, hev y⟩) (fun h => by cases lo with | none => rfl | some y => simp at h)
      (fun u hu => by cases hi with | none => simp at hu | some y => simp at hu; subst hu; exact ⟨_, rfl, hev y⟩) (fun h => by cases hi with | none => rfl | some y => simp at h) he
    exact ⟨u, none, hu, .pure (pure_value (s := Instr.sliceAt t (a.eval x) (lo.map a.eval) (hi.map a.eval) none) (by unfold execOp; rw [ho]; rfl) hv) hk⟩
  · rename_i t parts ho
    obtain ⟨u, hu, v, hv, hk⟩ := buildK_ok (P := P) (w := w) hT hev he
    exact ⟨u, none, hu, .pure (pure_value (by unfold execOp; rw [ho]) hv) hk⟩
  · rename_i t len parts ho
    obtain ⟨u, nb, hu, v, w', hv, hx', hm⟩ := buildSliceK_ok hT k hev he
    exact ⟨u, nb, hu, .inl ⟨v, w', pure_value' (by unfold execOp; rw [ho]) hv, hx', hm⟩⟩
  · rename_i x i ho
    split at he
    · rename_i xs hxs
      have hv := hev x
      rw [hxs] at hv
      obtain ⟨arr, hv, ha⟩ := hv
      split at he
      · rename_i ag cs hl
        split at he
        · rename_i u hm
          rw [lget_eq, lmap_eq] at hl
          have hl' : xs[i]? = some (ag, cs) := by
            rw [List.getElem?_map] at hl
            cases hg : xs[i]? with
            | none => rw [hg] at hl; simp at hl
            | some y => rw [hg] at hl; simpa using hl
          have hlen := ha.length
          have hi : i < arr.size := by
            have := (List.getElem?_eq_some_iff.1 hl').1
            rw [hlen] at this; simpa using this
          have hget : arr.toList[i]? = some arr[i] := by simp [hi]
          have hc := ha.get i _ _ hl' hget
          refine ⟨u, none, he, .pure (v := arr[i]) (pure_value (s := Instr.extract (a.eval x) i) (by unfold execOp; rw [ho]) ?_) ?_⟩
          · rw [hv]; simp [Instr.extract, hi]
          · show VOK φ h w (Imm M φ) u arr[i]
            unfold CompOK at hc
            cases ag with
            | true =>
              simp only [if_true] at hc
              obtain ⟨ar, hva, hk⟩ := hc
              simp [mkV] at hm
              subst hm
              exact ⟨ar, hva, hk⟩
            | false =>
              simp only [Bool.false_eq_true, if_false] at hc
              obtain ⟨y, hy, hk⟩ := hc
              subst hy
              simp [mkV] at hm
              subst hm
              exact hk
        · cases he
      · cases he
    · cases he
  · rename_i c ho
    split at he
    · rename_i hcb
      split at he
      · rename_i v t hv ht
        split at he
        · rename_i ti hti
          split at he
          · rename_i n hn
            have hargs : All2 (VOK φ h w (Imm M φ)) (lmap env c.args.toList) (c.args.toList.map a.eval) := lmap_all hev _
            rw [hv] at hargs
            have : ∃ val, c.args.map a.eval = #[val] ∧ VOK φ h w (Imm M φ) v val := by
              cases hm : c.args.toList.map a.eval with
              | nil => rw [hm] at hargs; exact hargs.elim
              | cons y ys =>
                rw [hm] at hargs
                cases ys with
                | nil => exact ⟨y, by apply Array.ext'; simpa using hm, hargs.1⟩
                | cons _ _ => exact hargs.2.elim
            obtain ⟨val, hva, hvk⟩ := this
            have hta : c.argTypes = #[t] := by apply Array.ext'; simpa using ht
            have hlen := lenV_ok (P := P) (w := w) hT hvk hti hn o.type
            refine ⟨_, none, he, .pure (v := .int .i64 n) ?_ rfl⟩
            unfold execOp
            rw [ho]
            simp only [resolve, hcb, Sem.run_bind, Sem.run_pure, Result.andThen_ok, invoke, builtin, hta, hva, hlen]
          · cases he
        · cases he
      · cases he
    · rename_i hcb
      unfold mnmxK at he
      have hargs : All2 (VOK φ h w (Imm M φ)) (lmap env c.args.toList) (c.args.toList.map a.eval) := lmap_all hev _
      split at he
      · rename_i x l hvs
        split at he
        · rename_i n hn
          rw [hvs] at hargs
          cases hm : c.args.toList.map a.eval with
          | nil => rw [hm] at hargs; exact hargs.elim
          | cons y ys =>
            rw [hm] at hargs
            have hy : y = .int .i64 x := hargs.1
            subst hy
            have hr := mnmx_ok (P := P) (w := w) hargs.2 hn
            refine ⟨_, none, he, .pure (v := .int .i64 n) ?_ rfl⟩
            unfold execOp
            rw [ho]
            have hl : (c.args.map a.eval).toList = Value.int .i64 x :: ys := by simpa using hm
            simp only [if_true] at hr
            simp only [resolve, hcb, Sem.run_bind, Sem.run_pure, Result.andThen_ok, invoke, builtin, Builtin.max_, hl, hr]
        · cases he
      · cases he
    · rename_i hcb
      unfold mnmxK at he
      have hargs : All2 (VOK φ h w (Imm M φ)) (lmap env c.args.toList) (c.args.toList.map a.eval) := lmap_all hev _
      split at he
      · rename_i x l hvs
        split at he
        · rename_i n hn
          rw [hvs] at hargs
          cases hm : c.args.toList.map a.eval with
          | nil => rw [hm] at hargs; exact hargs.elim
          | cons y ys =>
            rw [hm] at hargs
            have hy : y = .int .i64 x := hargs.1
            subst hy
            have hr := mnmx_ok (P := P) (w := w) hargs.2 hn
            refine ⟨_, none, he, .pure (v := .int .i64 n) ?_ rfl⟩
            unfold execOp
            rw [ho]
            have hl : (c.args.map a.eval).toList = Value.int .i64 x :: ys := by simpa using hm
            simp only [Bool.false_eq_true, if_false] at hr
            simp only [resolve, hcb, Sem.run_bind, Sem.run_pure, Result.andThen_ok, invoke, builtin, Builtin.min_, hl, hr]
        · cases he
      · cases he
    · rename_i f hcb
      split at he
      · rename_i cal hcal
        cases hfl : (allFlat cal.rs || (vNames (lmap env c.args.toList)).isEmpty) with
        | false => rw [hfl] at he; cases he
        | true =>
          rw [hfl, cond_true] at he
          split at he
          · rename_i us hus
            split at he
            · rename_i y hy
              exact callA_ok hF hG k hev ho hcb hcal hfl hus hy he
            · cases he
          · cases he
      · cases he
    · cases he
  · cases he
end
end Go.AM
