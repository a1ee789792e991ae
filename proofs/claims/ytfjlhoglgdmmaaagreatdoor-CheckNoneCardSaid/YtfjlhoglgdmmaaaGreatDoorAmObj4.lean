/- Calls that may turn objects: the whole of it. -/
import Derived.Test.YtfjlhoglgdmmaaaGreatDoorAmObj3
set_option autoImplicit false
set_option linter.unusedVariables false
set_option linter.unusedSimpArgs false
namespace Go.AM
theorem memL_iff : ∀ (l : List Nat) (x : Nat), memL x l = true ↔ x ∈ l
  | [], x => by simp [memL]
  | y :: l, x => by simp [memL, memL_iff l x]
theorem nodupL_ok : ∀ {l : List Nat}, nodupL l = true → l.Nodup
  | [], _ => by simp
  | x :: l, h => by
    simp only [nodupL, Bool.and_eq_true, Bool.not_eq_true'] at h
    rw [List.nodup_cons]
    refine ⟨fun hx => ?_, nodupL_ok h.2⟩
    have := (memL_iff l x).2 hx
    rw [h.1] at this; cases this
theorem maxN_ge : ∀ (l : List Nat) (n : Nat), n ≤ maxN l n ∧ ∀ s ∈ l, s < maxN l n
  | [], n => ⟨Nat.le_refl _, by simp⟩
  | x :: l, n => by
    unfold maxN
    cases hb : Nat.ble n x with
    | true =>
      have hb := Nat.le_of_ble_eq_true hb
      obtain ⟨h1, h2⟩ := maxN_ge l (Nat.succ x)
      simp only [cond_true]
      refine ⟨by omega, fun s hs => ?_⟩
      rcases List.mem_cons.1 hs with rfl | hs
      · omega
      · exact h2 s hs
    | false =>
      have hb : ¬ n ≤ x := fun h => by rw [Nat.ble_eq_true_of_le h] at hb; cases hb
      obtain ⟨h1, h2⟩ := maxN_ge l n
      simp only [cond_false]
      refine ⟨h1, fun s hs => ?_⟩
      rcases List.mem_cons.1 hs with rfl | hs
      · omega
      · exact h2 s hs
theorem filterMap_nodup {φ : Nat → Option Nat} (hi : ∀ s t b, φ s = some b → φ t = some b → s = t) : ∀ {l : List Nat}, l.Nodup → (l.filterMap φ).Nodup
  | [], _ => by simp
  | x :: l, h => by
    rw [List.nodup_cons] at h
    cases hf : φ x with
    | none => simp only [List.filterMap_cons, hf]; exact filterMap_nodup hi h.2
    | some b =>
      simp only [List.filterMap_cons, hf, List.nodup_cons]
      refine ⟨fun hb => ?_, filterMap_nodup hi h.2⟩
      obtain ⟨t, ht, hft⟩ := List.mem_filterMap.1 hb
      have := hi x t b hf hft
      subst this
      exact h.1 ht
theorem killCs_ptr : ∀ (l : List Nat) (s off : Nat), s ∉ l → killCs l (.ptr s off) = .ptr s off
  | [], s, off, _ => rfl
  | x :: l, s, off, h => by
    have h1 : x ≠ s := fun e => h (by simp [e])
    have h2 : killCell x (.ptr s off) = .ptr s off := by simp only [killCell]; cases hb : Nat.beq x s with
      | true => exact absurd (Nat.eq_of_beq_eq_true hb) h1
      | false => rfl
    unfold killCs
    rw [h2]
    exact killCs_ptr l s off (fun e => h (by simp [e]))
/-- The name that a cell hangs on. -/
def nameOf : Cell → Option Nat
  | .vec s => some s
  | .sub s _ _ => some s
  | .ptr s _ => some s
  | .eptr s _ _ => some s
  | _ => none
theorem bif_beq {α : Type} (s t : Nat) (x y : α) : (bif Nat.beq s t then x else y) = if t = s then x else y := by
  cases hb : Nat.beq s t with
  | true => have := Nat.eq_of_beq_eq_true hb; subst this; simp
  | false =>
    have : ¬ t = s := fun e => by subst e; simp at hb
    simp [this]
theorem killCell_eq {s : Nat} {x : Cell} : killCell s x = if nameOf x = some s then .any else x := by
  cases x with
  | vec t => simp only [killCell, nameOf, Option.some.injEq, bif_beq]
  | sub t _ _ => simp only [killCell, nameOf, Option.some.injEq, bif_beq]
  | ptr t _ => simp only [killCell, nameOf, Option.some.injEq, bif_beq]
  | eptr t _ _ => simp only [killCell, nameOf, Option.some.injEq, bif_beq]
  | any => simp [killCell, nameOf]
  | c _ _ => simp [killCell, nameOf]
  | nils => simp [killCell, nameOf]
  | iptr _ _ _ => simp [killCell, nameOf]
theorem killCs_any : ∀ (l : List Nat), killCs l .any = .any
  | [] => rfl
  | s :: l => killCs_any l
theorem killCs_eq : ∀ (l : List Nat) (x : Cell), killCs l x = if ∃ s ∈ l, nameOf x = some s then .any else x
  | [], x => by simp [killCs]
  | s :: l, x => by
    show killCs l (killCell s x) = _
    rw [killCell_eq]
    by_cases h : nameOf x = some s
    · rw [if_pos h, if_pos ⟨s, by simp, h⟩, killCs_any]
    · rw [if_neg h, killCs_eq l]
      by_cases h2 : ∃ t ∈ l, nameOf x = some t
      · obtain ⟨t, ht, hn⟩ := h2
        rw [if_pos ⟨t, ht, hn⟩, if_pos ⟨t, by simp [ht], hn⟩]
      · rw [if_neg h2, if_neg]
        rintro ⟨t, ht, hn⟩
        rcases List.mem_cons.1 ht with rfl | ht
        · exact h hn
        · exact h2 ⟨t, ht, hn⟩
theorem mapV_id {f : Cell → Cell} (hf : ∀ x, f x = x) (u : V) : mapV f u = u := by
  have hid : ∀ cs : List Cell, lmap f cs = cs := fun cs => by
    induction cs with
    | nil => rfl
    | cons x l ih => simp [lmap, hf, ih]
  cases u with
  | tup xs =>
    have : lmap (fun x : Bool × List Cell => (x.1, lmap f x.2)) xs = xs := by
      induction xs with
      | nil => rfl
      | cons x l ih =>
        show (x.1, lmap f x.2) :: lmap _ l = x :: l
        rw [ih, hid]
    simp [mapV, this]
  | agg cs => simp [mapV, hid]
  | one x => simp [mapV, hf]
  | any => rfl
  | skip => rfl
theorem mapV_comp {f g : Cell → Cell} (u : V) : mapV f (mapV g u) = mapV (fun x => f (g x)) u := by
  have hc : ∀ cs : List Cell, lmap f (lmap g cs) = lmap (fun x => f (g x)) cs := fun cs => by
    induction cs with
    | nil => rfl
    | cons x l ih => simp [lmap, ih]
  cases u with
  | tup xs =>
    have : lmap (fun x : Bool × List Cell => (x.1, lmap f x.2)) (lmap (fun x : Bool × List Cell => (x.1, lmap g x.2)) xs) = lmap (fun x : Bool × List Cell => (x.1, lmap (fun x => f (g x)) x.2)) xs := by
      induction xs with
      | nil => rfl
      | cons x l ih => simp [lmap, hc, ih]
    simp [mapV, this]
  | agg cs => simp [mapV, hc]
  | one x => rfl
  | any => rfl
  | skip => rfl
theorem killE_get : ∀ (l : List Nat) (env : List V) (t : Nat), lget (killE l env) t .any = mapV (killCs l) (lget env t .any) ∧ (killE l env).length = env.length
  | [], env, t => ⟨(mapV_id (fun _ => rfl) _).symm, rfl⟩
  | s :: l, env, t => by
    obtain ⟨h1, h2⟩ := killE_get l (lmap (mapV (killCell s)) env) t
    refine ⟨?_, by unfold killE; rw [h2, lmap_length]⟩
    show lget (killE l (lmap (mapV (killCell s)) env)) t .any = _
    rw [h1, lget_mapV, mapV_comp]
    rfl
theorem mkV_comp {φ : Nat → Option Nat} {h : Heap} {w : World} {N : Nat → Prop} {c : Bool × List Cell} {v : Value} {u : V} (hu : mkV c.1 c.2 = some u) (k : CompOK φ h w N c v) : VOK φ h w N u v := by
  obtain ⟨b, cs⟩ := c
  cases b with
  | true => cases hu; exact k
  | false =>
    obtain ⟨y, hy, k⟩ := k
    simp only at hy hu
    subst hy
    cases hu
    exact k
theorem compsV_ok {φ : Nat → Option Nat} {h : Heap} {w : World} {N : Nat → Prop} : ∀ {cs : List (Bool × List Cell)} {us : List Value} {u : V}, compsV cs = some u → All2 (CompOK φ h w N) cs us → VOK φ h w N u (tupOf us)
  | [c], [v], u, hu, k => mkV_comp hu k.1
  | [c], [], u, _, k => k.elim
  | [c], _ :: _ :: _, u, _, k => k.2.elim
  | [], [], u, hu, _ => by cases hu; exact ⟨#[], rfl, trivial⟩
  | [], _ :: _, u, _, k => k.elim
  | c :: d :: cs, us, u, hu, k => by
    cases hu
    have hl := k.length
    have hne : ¬ us.toArray.size = 1 := by simp at hl ⊢; omega
    refine ⟨us.toArray, ?_, k⟩
    unfold tupOf
    rw [dif_neg hne]

theorem noPins_ok {n : Nat} : ∀ {l : List Nat}, noPins n l = true → ∀ s ∈ l, ¬ InPin n s
  | [], _, s, hs => by cases hs
  | x :: l, h, s, hs => by
    simp only [noPins, Bool.and_eq_true, Bool.or_eq_true] at h
    rcases List.mem_cons.1 hs with rfl | hs
    · intro hp
      rcases h.1 with h | h
      · have h : s + 1 ≤ n := Nat.le_of_ble_eq_true h
        have := hp.1; omega
      · have h := Nat.le_of_ble_eq_true h
        have := hp.2; omega
    · exact noPins_ok h.2 s hs
theorem killH_row : ∀ (ns : List Nat) {h : Heap} {s : Nat} {cs : List Cell}, s ∉ ns → hget h s = some (.row cs) → ∃ cs', hget (killH ns h) s = some (.row cs')
  | [], h, s, cs, _, hs => ⟨cs, hs⟩
  | t :: ns, h, s, cs, hn, hs => by
    have hne : s ≠ t := fun e => hn (by simp [e])
    exact killH_row ns (fun e => hn (by simp [e])) (by rw [hget_kill1 hne, hs]; rfl)
theorem res_nil {φ : Nat → Option Nat} {h : Heap} {w : World} {N : Nat → Prop} {x : Cell} {v : Value} {s : Nat} {cs : List Cell} (hs : hget h s = some (.row cs)) (hn : nameOf x = some s) (k : CellOK φ h w N x v) : ∃ off, x = .ptr s off := by
  cases x with
  | ptr t off => simp [nameOf] at hn; subst hn; exact ⟨off, rfl⟩
  | vec t => simp [nameOf] at hn; subst hn; obtain ⟨r, xs, h1, _⟩ := k; rw [hs] at h1; cases h1
  | sub t _ _ => simp [nameOf] at hn; subst hn; obtain ⟨r, xs, h1, _⟩ := k; rw [hs] at h1; cases h1
  | eptr t _ _ => simp [nameOf] at hn; subst hn; obtain ⟨r, xs, b, h1, _⟩ := k; rw [hs] at h1; cases h1
  | any => simp [nameOf] at hn
  | c _ _ => simp [nameOf] at hn
  | nils => simp [nameOf] at hn
  | iptr _ _ _ => simp [nameOf] at hn
section
variable {P : Program} {T : List (Nat × TI)} {R : Type} {w0 : World} {O : Old} {M : Nat → Prop} {φ : Nat → Option Nat} {st : St} {a : Act} {w : World} {o : Oper}
theorem callR_ok {G : Globs} (hG : GlobW G w0 O M) (k : Rel w0 O M φ st a w) {c : Call} {f : Nat} (ho : o.op = .call c) (hc : c.callee = .value (.func f)) {cal : CalleeR} (hF : FunROK P G f cal) {K : St → Option R} {q : R}
    (he : callR cal c.args.toList o.dst st K = some q) : ∃ st', K st' = some q ∧ Does P a o w fun a' w' => ∃ φ', Rel w0 O M φ' st' a' w' := by
  unfold callR at he
  simp only at he
  obtain ⟨φ1, k1⟩ := freezes_ok (frzArgs st.heap cal.ps (lmap (ev st.env) c.args.toList)) k
  generalize freezes (frzArgs st.heap cal.ps (lmap (ev st.env) c.args.toList)) st = st1 at he k1
  split at he
  · rename_i xs roots ns subs hra
    cases hnd : (nodupL ns && noPins (llen st1.env) subs) with
    | false => rw [hnd, cond_false] at he; cases he
    | true =>
    rw [hnd, cond_true] at he
    rw [Bool.and_eq_true] at hnd
    have hnp := noPins_ok hnd.2
    have hnd := nodupL_ok hnd.1
    have hvs : All2 (VOK φ1 st1.heap w (Imm M φ1)) (lmap (ev st1.env) c.args.toList) (c.args.toList.map a.eval) := lmap_all (fun x => k1.ev x) _
    obtain ⟨hown, hmem, hsub, hrts⟩ := readArgs_ok k1.toHRel cal.ps hvs hra
    have hroots := readArgs_roots k1.toHRel cal.ps hvs hra
    cases hap : applyF cal.ps cal.f xs with
    | none => rw [hap] at he; cases he
    | some xo =>
    rw [hap, Option.bind_some] at he
    obtain ⟨x, outs⟩ := xo
    simp only at he
    rw [layOuts_run] at he
    cases hlo : layOuts (maxN roots (llen st1.env + 4)) cal.ps outs (lmap (ev st1.env) c.args.toList) (killH ns st1.heap) some with
    | none => rw [hlo] at he; cases he
    | some h3 =>
    rw [hlo, Option.bind_some, layPs_run] at he
    cases hlp : layPs (maxN roots (llen st1.env + 4)) cal.rs x h3 (fun c h' => some (c, h')) with
    | none => rw [hlp] at he; cases he
    | some p =>
    rw [hlp, Option.bind_some] at he
    obtain ⟨cs, h4⟩ := p
    simp only at he
    obtain ⟨hokR, fn, hfn, hnm, hbd⟩ := hF
    have hn0 := maxN_ge roots (llen st1.env + 4)
    have hin : ∀ s, s ∈ ns → ∀ b, φ1 s = some b → b ∈ ns.filterMap φ1 := fun s hs b hb => List.mem_filterMap.2 ⟨s, hs, hb⟩
    have hout : ∀ b, b ∈ ns.filterMap φ1 → ∃ s, s ∈ ns ∧ φ1 s = some b := fun b hb => List.mem_filterMap.1 hb
    have hBnd : (ns.filterMap φ1).Nodup := filterMap_nodup k1.toHRel.inj hnd
    have hcall := hokR w (Imm M φ1) xs _ _ x outs (hG.ok k1.frm k1.fresh) hown hBnd (fun b hb hi => by
      obtain ⟨s, _, hs⟩ := hout b hb
      exact hi.2 s hs) hap
    have harr : (c.args.toList.map a.eval).toArray = c.args.map a.eval := by apply Array.ext'; simp
    rw [harr] at hcall
    have hrun := run_call_of (P := P) (w := w) (a := a) hc hfn hnm hbd ho
    -- what is known behind the call
    have post : ∀ v w', (∃ (N' : Nat → Prop) (Bo Br : List Nat) (us : List Value), v = tupOf us ∧
          (w'.os = w.os ∧ w'.tape = w.tape ∧ w'.output = w.output ∧ w.heap.size ≤ w'.heap.size ∧ ∀ b, b < w.heap.size → b ∉ ns.filterMap φ1 → w'.heap[b]? = w.heap[b]?) ∧
          (∀ b, Imm M φ1 b → b < w.heap.size → N' b) ∧ (∀ b, N' b → Imm M φ1 b ∨ b ∈ ns.filterMap φ1 ∨ w.heap.size ≤ b) ∧ OutsOwn w' N' cal.ps xs outs (c.args.toList.map a.eval) Bo ∧ ResOwn w' N' cal.rs x us Br ∧ (Bo ++ Br).Nodup ∧
          (∀ b ∈ Bo ++ Br, ¬ N' b ∧ (b ∈ ns.filterMap φ1 ∨ w.heap.size ≤ b) ∧ b < w'.heap.size)) →
        ∃ φ4 us, v = tupOf us ∧ All2 (CompOK φ4 h4 w' (Imm M φ4)) cs us ∧ Rel w0 O M φ4 ⟨killE subs st1.env, h4⟩ a w' := by
      rintro v w' ⟨N', Bo, Br, us, hv, ⟨f1, f2, f3, f4, f5⟩, n1, n2, hOuts, hRes, hbnd, hbb⟩
      rw [List.nodup_append] at hbnd
      obtain ⟨φ2, g1, g2, g3, g4, g5⟩ := forgets_ok ns hnd k1.toHRel
      have hφ2 : ∀ s b, φ2 s = some b → s ∉ ns ∧ φ1 s = some b := fun s b hs => by
        by_cases hsn : s ∈ ns
        · rw [(g4 s hsn).1] at hs; cases hs
        · exact ⟨hsn, by rw [← g3 s hsn]; exact hs⟩
      have hnotB : ∀ s b, s ∉ ns → φ1 s = some b → b ∉ ns.filterMap φ1 := fun s b hsn hs hb => by
        obtain ⟨t, ht, hft⟩ := hout b hb
        have := k1.toHRel.inj s t b hs hft
        subst this; exact hsn ht
      have hBM : ∀ b, b ∈ ns.filterMap φ1 → ¬ M b ∧ b < w.heap.size := fun b hb => by
        obtain ⟨t, _, hft⟩ := hout b hb
        exact k1.toHRel.own t b hft
      have hbbM : ∀ b, b ∈ Bo ++ Br → ¬ M b := fun b hb hm => by
        rcases (hbb b hb).2.1 with h | h
        · exact (hBM b h).1 hm
        · have := k1.toHRel.old b hm; omega
      obtain ⟨m1, m2⟩ := g1.move (M' := MB (MB M Br) Bo) (w' := w') f4 (fun b hb hm => f5 b hb (fun h => hm (.inr h))) (fun b hI hb hm => by
          rw [g5] at hI
          rcases hm with (hm | hm) | hm
          · exact hI.1 hm
          · exact (hbb b (by simp [hm])).1 (n1 b hI hb)
          · exact (hbb b (by simp [hm])).1 (n1 b hI hb)) (fun s b hs hm => by
          obtain ⟨hsn, hs1⟩ := hφ2 s b hs
          have hown := k1.toHRel.own s b hs1
          have key : b ∈ Bo ++ Br → False := fun h => by
            rcases (hbb b h).2.1 with h | h
            · exact hnotB s b hsn hs1 h
            · omega
          rcases hm with (hm | hm) | hm
          · exact hown.1 hm
          · exact key (by simp [hm])
          · exact key (by simp [hm])) (fun b hm => by
          rcases hm with (hm | hm) | hm
          · exact Nat.lt_of_lt_of_le (k1.toHRel.old b hm) f4
          · exact (hbb b (by simp [hm])).2.2
          · exact (hbb b (by simp [hm])).2.2)
      have hN3 : ∀ b, N' b → b < w'.heap.size → Imm (MB (MB M Br) Bo) φ2 b := fun b hb _ => by
        refine ⟨fun hm => ?_, fun s hs => ?_⟩
        · rcases hm with (hm | hm) | hm
          · rcases n2 b hb with h | h | h
            · exact h.1 hm
            · exact (hBM b h).1 hm
            · have := k1.toHRel.old b hm; omega
          · exact (hbb b (by simp [hm])).1 hb
          · exact (hbb b (by simp [hm])).1 hb
        · obtain ⟨hsn, hs1⟩ := hφ2 s b hs
          rcases n2 b hb with h | h | h
          · exact h.2 s hs1
          · exact hnotB s b hsn hs1 h
          · have := (k1.toHRel.own s b hs1).2; omega
      obtain ⟨h3', φ3, e1, u1, r1, l1⟩ := layOuts_ok (φ0 := φ1) (n0 := maxN roots (llen st1.env + 4)) (K := some) cal.ps m1 hOuts hroots hN3 hbnd.1 (fun b hb hm => by
          rcases hm with hm | hm
          · exact hbbM b (by simp [hb]) hm
          · exact hbnd.2.2 b hb b hm rfl) (hsub.nodup hnd) (fun s hs => by
          obtain ⟨cs', b, hs1, _⟩ := hrts s hs
          exact ⟨hn0.2 s hs, (g4 s ((hmem s).2 (.inl hs))).2, by rw [killH_len]; exact hget_lt hs1⟩) hlo
      cases e1
      obtain ⟨cs', h4', φ4, e2, u2, l2, hcomp⟩ := layPs_ok (n0 := maxN roots (llen st1.env + 4)) (K := fun c h' => some (c, h')) cal.rs u1.rel hRes (fun b hb hlt => u1.imm b (hN3 b hb hlt)) hbnd.2.1 (fun b hb => hbbM b (by simp [hb])) hlp
      cases e2
      have hroot : ∀ s ∈ roots, φ4 s = φ1 s ∧ ∃ cs, hget h4 s = some (.row cs) := fun s hs => by
        obtain ⟨h1, cs', h2⟩ := r1 s hs
        have := u2.keep s _ h2
        exact ⟨by rw [this.2, h1], cs', this.1⟩
      have hcell : ∀ y z, CellOK φ1 st1.heap w (Imm M φ1) y z → CellOK φ4 h4 w' (Imm M φ4) (killCs subs y) z := fun y z hy => by
        rw [killCs_eq]
        split
        · exact hy.oneCell
        · rename_i hns
          by_cases hr : ∃ s ∈ roots, nameOf y = some s
          · obtain ⟨s, hs, hny⟩ := hr
            obtain ⟨cs0, b0, hs0, hf0⟩ := hrts s hs
            obtain ⟨off, rfl⟩ := res_nil hs0 hny hy
            obtain ⟨_, b, _, hf, hz⟩ := hy
            obtain ⟨h1, cs1, h2⟩ := hroot s hs
            exact ⟨cs1, b, h2, by rw [h1]; exact hf, hz⟩
          · have hk : killCs ns y = y := by
              rw [killCs_eq, if_neg]
              rintro ⟨s, hs, hny⟩
              rcases (hmem s).1 hs with h | h
              · exact hr ⟨s, h, hny⟩
              · exact hns ⟨s, h, hny⟩
            have := g2 y z hy
            rw [hk] at this
            exact u2.cell _ _ (u1.cell _ _ (m2 _ _ this))
      refine ⟨φ4, us, hv, hcomp, { toHRel := u2.rel, len := ?_, env := fun t => ?_, defers := k1.defers, frm := ?_, fresh := fun s b hs => ?_, pin := fun s b hs => ?_ }⟩
      · show (killE subs st1.env).length = _
        rw [(killE_get subs st1.env 0).2]; exact k1.len
      · show VOK φ4 h4 w' (Imm M φ4) (lget (killE subs st1.env) t .any) _
        rw [(killE_get subs st1.env t).1]
        exact mapV_ok hcell (k1.env t)
      · refine ⟨f1.trans k1.frm.os, f2.trans k1.frm.tape, f3.trans k1.frm.output, Nat.le_trans k1.frm.size f4, fun b hb hO => ?_⟩
        rw [f5 b (Nat.lt_of_lt_of_le hb k1.frm.size) (fun h => by
          obtain ⟨s, _, hs⟩ := hout b h
          rcases k1.fresh s b hs with h | h
          · exact hO h
          · omega)]
        exact k1.frm.block b hb hO
      · have key : b ∈ Bo ++ Br → O.blk b ∨ w0.heap.size ≤ b := fun h => by
          rcases (hbb b h).2.1 with h | h
          · obtain ⟨s, _, hs⟩ := hout b h
            exact k1.fresh s b hs
          · exact .inr (Nat.le_trans k1.frm.size h)
        have hbM := (u2.rel.own s b hs).1
        rcases u2.new s b hs with h | h
        · rcases u1.new s b h with h | h
          · exact k1.fresh s b (hφ2 s b h).2
          · rcases h with (h | h) | h
            · exact absurd h hbM
            · exact key (by simp [h])
            · exact key (by simp [h])
        · rcases h with h | h
          · exact absurd h hbM
          · exact key (by simp [h])
      · obtain ⟨p1, p2, cs0, p3⟩ := k1.pin s b hs
        have hpin : InPin (killE subs st1.env).length s := by rw [(killE_get subs st1.env 0).2]; exact p2
        by_cases hsr : s ∈ roots
        · obtain ⟨h1, cs1, h2⟩ := hroot s hsr
          exact ⟨by rw [h1]; exact p1, hpin, cs1, h2⟩
        · have hsn : s ∉ ns := fun h => by
            rcases (hmem s).1 h with h | h
            · exact hsr h
            · exact hnp s h (by rw [llen_eq]; exact p2)
          obtain ⟨cs1, h1⟩ := killH_row ns hsn p3
          have h2 := u1.keep s _ h1
          have h3 := u2.keep s _ h2.1
          exact ⟨by rw [h3.2, h2.2, g3 s hsn]; exact p1, hpin, cs1, h3.1⟩
    have fin : ∀ {Q : Act → World → Prop}, (∀ v w', (∃ φ4 us, v = tupOf us ∧ All2 (CompOK φ4 h4 w' (Imm M φ4)) cs us ∧ Rel w0 O M φ4 ⟨killE subs st1.env, h4⟩ a w') → Q (a.put o.dst v) w') → Does P a o w Q := fun hQ =>
      .inr (.inr ⟨f, c.args.map a.eval, hrun, hcall.mono fun e w' he => by
        cases e with
        | returned v => exact hQ v w' (post v w' he)
        | panicked _ => exact he.elim
        | outgrown => exact he.elim⟩)
    split at he
    · rename_i u d hu hd
      refine ⟨_, he, fin fun v w' ⟨φ4, us, hv, hcomp, hr⟩ => ⟨φ4, ?_⟩⟩
      rw [hd, hv]
      exact hr.put (compsV_ok hu hcomp)
    · rename_i hd
      refine ⟨_, he, fin fun v w' ⟨φ4, us, hv, hcomp, hr⟩ => ⟨φ4, ?_⟩⟩
      rw [hd]
      exact hr
    · cases he
  · cases he
end
end Go.AM
