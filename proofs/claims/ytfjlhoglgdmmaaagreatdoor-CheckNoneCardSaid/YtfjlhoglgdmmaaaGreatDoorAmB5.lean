/- Any operation of the abstract machine. -/
import Derived.Test.YtfjlhoglgdmmaaaGreatDoorAmObj4
set_option autoImplicit false
set_option linter.unusedVariables false
set_option linter.unusedSimpArgs false
namespace Go.AM
section
variable {P : Program} {T : List (Nat × TI)} {F : Funs} {R : Type} {w0 : World} {O : Old} {M : Nat → Prop} {φ : Nat → Option Nat} {st : St} {a : Act} {w : World} {o : Oper}
theorem run_append_op {c : Call} {t tx : Nat} {x y : Operand} (ho : o.op = .call c) (hc : c.callee = .builtin .append) (ht : c.argTypes.toList = [t, tx]) (ha : c.args.toList = [x, y]) {v : Value} {w' : World}
    (h : (Builtin.append_ #[t, tx] o.type #[a.eval x, a.eval y]).run P w = .ok v w') : (execOp a.eval o).run P w = .ok (.value v) w' := by
  have h1 : c.argTypes = #[t, tx] := by apply Array.ext'; rw [ht]
  have h2 : c.args = #[x, y] := by apply Array.ext'; rw [ha]
  unfold execOp
  rw [ho]
  simp only [resolve, hc, h1, h2, invoke, builtin, Sem.run_bind, Sem.run_pure, Result.andThen_ok, List.map_toArray, List.map_cons, List.map_nil, h]
theorem appendTo_ok (hT : TOK P T) (k : Rel w0 O M φ st a w) {c : Call} {t tx : Nat} {x y : Operand} (ho : o.op = .call c) (hc : c.callee = .builtin .append) (hta : c.argTypes.toList = [t, tx]) (ha : c.args.toList = [x, y])
    (hx : (∃ e, P.underlying tx = some (.slice e)) ∨ P.underlying tx = some .string) {e : Nat} {te : TI} {r : RT} (hu : P.underlying t = some (.slice e)) (hE : TIok P e te) (hr : te.row = some r)
    {s d : Nat} (hd : o.dst = some d) (hsl : s < st.heap.length) (hnr : ∀ cs, hget st.heap s ≠ some (.row cs)) {zs ys : List r.I} (hb : BlkOK φ st.heap w (Imm M φ) (φ s) (.lst r zs)) (hv : HeadOK w r (φ s) zs.length (a.eval x))
    (hy : rowsOf r st.heap (ev st.env y) = some ys) {K : St → Option R} {q : R} (he : appendTo s d r zs ys te.bytes st K = some q) : ∃ st', K st' = some q ∧ Does P a o w fun a' w' => ∃ φ', Rel w0 O M φ' st' a' w' := by
  unfold appendTo at he
  cases hg : (Nat.ble 1 te.bytes && decide ((zs.length + ys.length) * te.bytes ≤ 140737488355328)) with
  | false => rw [hg, cond_false] at he; cases he
  | true =>
  rw [hg, cond_true] at he
  rw [Bool.and_eq_true] at hg
  have hfit := of_decide_eq_true hg.2
  obtain ⟨news, hf, hn⟩ := rowsOf_ok (P := P) k.toHRel (k.ev y) hy
  obtain ⟨v', w', φ', hrun, g1, g2, g3, g4, g5, f1, f2, f3, f4, f5⟩ := append_core (P := P) (ty := o.type) k.toHRel hsl hb hv hu hE hr hx hf hn (Nat.le_of_ble_eq_true hg.1) hfit
  have hheap := kill_heap st.heap s r (zs ++ ys)
  refine ⟨_, he, .inl ⟨v', w', run_append_op ho hc hta ha hrun, φ', ?_⟩⟩
  have hlen : (lmap (mapV (killCell s)) st.env).length = a.tmps.size := by rw [lmap_length]; exact k.len
  refine { toHRel := ?_, len := ?_, env := ?_, defers := ?_, frm := ?_, fresh := ?_, pin := ?_ }
  · show HRel M φ' (lmap (mapB (killCell s)) (hset st.heap s (.lst r (zs ++ ys)))) w'
    rw [hheap]; exact g1
  · show (lset _ _ _).length = _
    rw [lset_length, hd]
    show (lmap (mapV (killCell s)) st.env).length = (a.tmps.setIfInBounds d v').size
    rw [hlen]; simp
  · intro t
    show VOK φ' (lmap (mapB (killCell s)) (hset st.heap s (.lst r (zs ++ ys)))) w' (Imm M φ') (lget (lset (lmap (mapV (killCell s)) st.env) d (.one (.vec s))) t .any) ((a.put o.dst v').tmps.getD t undef)
    rw [hheap, hd]
    refine env_put hlen (fun t => ?_) ?_ t
    · rw [lget_mapV]; exact mapV_ok g2 (k.env t)
    · exact ⟨r, zs ++ ys, hget_hset_same _ _ _ (by rw [lset_length, lmap_length]; exact hsl), g3⟩
  · rw [hd]; exact k.defers
  · exact ⟨f1.trans k.frm.os, f2.trans k.frm.tape, f3.trans k.frm.output, Nat.le_trans k.frm.size f4, fun b hb hO => by
      rw [f5 b (Nat.lt_of_lt_of_le hb k.frm.size) (fun hs => by rcases k.fresh s b hs with h | h; exact hO h; omega)]
      exact k.frm.block b hb hO⟩
  · intro t b ht
    rcases g4 t b ht with h | h
    · exact k.fresh t b h
    · exact .inr (Nat.le_trans k.frm.size h)
  · intro t b ht
    obtain ⟨p1, p2, cs', p3⟩ := k.pin t b ht
    have hst : t ≠ s := fun e => by subst e; exact hnr cs' p3
    refine ⟨by rw [g5 t hst]; exact p1, ?_, lmap (killCell s) cs', ?_⟩
    · show InPin (lset _ _ _).length t
      rw [lset_length]
      show InPin (lmap (mapV (killCell s)) st.env).length t
      rw [lmap_length]; exact p2
    · show hget (lmap (mapB (killCell s)) (hset st.heap s (.lst r (zs ++ ys)))) t = _
      rw [hheap, hget_hset_other _ _ _ _ (Ne.symm hst), show hget (lset (lmap (mapB (killCell s)) st.heap) s none) t = hget (lmap (mapB (killCell s)) st.heap) t from lget_lset_other _ _ _ _ _ (Ne.symm hst), hget_lmap, p3]; rfl
theorem appendK_ok (hT : TOK P T) (k : Rel w0 O M φ st a w) {c : Call} {t tx : Nat} {x y : Operand} (ho : o.op = .call c) (hc : c.callee = .builtin .append) (hta : c.argTypes.toList = [t, tx]) (ha : c.args.toList = [x, y])
    (hs : seqT T tx = true) {K : St → Option R} {q : R} (he : appendK T t (ev st.env x) (ev st.env y) o.dst st K = some q) : ∃ st', K st' = some q ∧ Does P a o w fun a' w' => ∃ φ', Rel w0 O M φ' st' a' w' := by
  have hx := seqT_ok hT hs
  have hv := k.ev x
  unfold appendK at he
  split at he
  · rename_i ti d ht hd
    split at he
    · rename_i e hde
      have hu := (hT t ti ht).under_slice hde
      split at he
      · rename_i te hte
        have hE := hT e te hte
        split at he
        · rename_i r hr
          split at he
          · rename_i ys hy
            split at he
            · rename_i hn
              rw [hn] at hv
              split at he
              · rename_i hdn
                cases hroom : room st.heap d with
                | false => rw [hroom, cond_false] at he; cases he
                | true =>
                rw [hroom, cond_true] at he
                have hφ := k.toHRel.non d hdn
                exact appendTo_ok hT k ho hc hta ha hx hu hE hr hd (room_lt hroom) (fun cs h => by rw [hdn] at h; cases h) (by rw [hφ]; rfl) (by rw [hφ]; exact ⟨hv, rfl⟩) hy he
              · cases he
            · rename_i s hn
              rw [hn] at hv
              split at he
              · rename_i r' xs hsb
                split at he
                · rename_i q' hq
                  cases q' with | up e' =>
                  subst e'
                  obtain ⟨r0, xs0, hs0, hk⟩ := hv
                  rw [hsb] at hs0
                  cases hs0
                  exact appendTo_ok hT k ho hc hta ha hx hu hE hr hd (hget_lt hsb) (fun cs h => by rw [hsb] at h; cases h) (k.toHRel.blk s _ hsb) hk hy he
                · cases he
              · cases he
            · rename_i s n hn
              rw [hn] at hv
              split at he
              · rename_i r' xs hsb
                split at he
                · rename_i q' hq
                  cases q' with | up e' =>
                  subst e'
                  obtain ⟨r0, xs0, hs0, hl, hz, _⟩ := hv
                  rw [hsb] at hs0
                  cases hs0
                  have hlen : (xs.take n).length = n := by simp; omega
                  have hblk := k.toHRel.blk s _ hsb
                  refine appendTo_ok hT k ho hc hta ha hx hu hE hr hd (hget_lt hsb) (fun cs h => by rw [hsb] at h; cases h) (zs := xs.take n) ?_ (by rw [hlen]; exact hz rfl) hy he
                  cases hf : φ s with
                  | none => rw [hf] at hblk; rw [show xs = [] from hblk]; simp [BlkOK]
                  | some b =>
                    rw [hf] at hblk
                    obtain ⟨cap, c', h1, h2, h3, h4, h5⟩ := hblk
                    exact ⟨cap, c', h1, h2, h3, by simp; omega, fun i hi => by
                      have := h5 i (by simp at hi; omega)
                      simpa using this⟩
                · cases he
              · cases he
            · cases he
          · cases he
        · cases he
      · cases he
    · cases he
  · cases he
theorem opA_put (hT : TOK P T) (hF : FOK P F) (hG : GlobW F.g w0 O M) (k : Rel w0 O M φ st a w) {K : St → Option R} {q : R} (he : opA T F o (ev st.env) st.heap (putA o.dst st K) = some q) :
    ∃ st', K st' = some q ∧ Does P a o w fun a' w' => ∃ φ', Rel w0 O M φ' st' a' w' := by
  obtain ⟨u, nb, h1, h2⟩ := opA_ok hT hF.v (hG.ok k.frm k.fresh) k.toHRel (fun x => k.ev x) he
  obtain ⟨st', h3, h4⟩ := putA_ok k h1
  exact ⟨st', h3, Does.of_yields h2 h4⟩
theorem opK_ok (hT : TOK P T) (hF : FOK P F) (hG : GlobW F.g w0 O M) (k : Rel w0 O M φ st a w) {K : St → Option R} {q : R} (he : opK T F o st K = some q) :
    ∃ st', K st' = some q ∧ Does P a o w fun a' w' => ∃ φ', Rel w0 O M φ' st' a' w' := by
  unfold opK at he
  split at he
  · rename_i t x y ho
    split at he
    · obtain ⟨φ', k'⟩ := freezes_ok (vNames [ev st.env y]) k
      exact storeK_ok hT k' ho he
    · exact storeK_ok hT k ho he
  · obtain ⟨φ', k'⟩ := freezes_ok _ k
    exact opA_put hT hF hG k' he
  · rename_i c ho
    split at he
    · rename_i hc
      split at he
      · rename_i t tx x y hta ha
        cases hs : seqT T tx with
        | false => rw [hs, cond_false] at he; cases he
        | true =>
        rw [hs, cond_true] at he
        exact appendK_ok hT k ho hc hta ha hs he
      · cases he
    · rename_i f hc
      split at he
      · rename_i cal hcal
        cases hfl : allFlat cal.rs with
        | true => rw [hfl] at he; exact opA_put hT hF hG k he
        | false =>
          rw [hfl] at he
          obtain ⟨φ', k'⟩ := freezes_ok _ k
          exact opA_put hT hF hG k' he
      · split at he
        · rename_i cal hcal
          exact callR_ok hG k ho hc (hF.r f cal hcal) he
        · cases he
    · exact opA_put hT hF hG k he
  · exact opA_put hT hF hG k he
end
end Go.AM
