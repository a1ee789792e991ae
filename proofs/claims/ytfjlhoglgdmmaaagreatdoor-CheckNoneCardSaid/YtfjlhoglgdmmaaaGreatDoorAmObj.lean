/- Objects in memory, and what belongs to them alone: read out of named memory, and laid into it. -/
import Derived.Test.YtfjlhoglgdmmaaaGreatDoorAmB4
set_option autoImplicit false
set_option linter.unusedVariables false
set_option linter.unusedSimpArgs false
namespace Go.AM
mutual
/-- The value v is x; the blocks B belong to it alone, in this order. -/
def OwnC (w : World) (N : Nat → Prop) : (o : OT) → o.I → Value → List Nat → Prop
  | .c t, x, v, B => RepC w N t x v ∧ B = []
  | .own r, xs, v, B => ∃ f : Option Nat, B = f.toList ∧ HeadOK w r f xs.length v ∧ BlkOK (fun _ => none) [] w N f (.lst r xs)
  | .obj r, x, v, B => match x with
    | none => v = .pointer none ∧ B = []
    | some y => ∃ b c B', v = .pointer (some ⟨b, 0, none⟩) ∧ B = b :: B' ∧ wcells w b = some c ∧ warm w b ∧ OwnR w N r y c.toList B'
def OwnR (w : World) (N : Nat → Prop) : (r : OR) → r.I → List Value → List Nat → Prop
  | .one o, x, vs, B => ∃ v, vs = [v] ∧ OwnC w N o x v B
  | .cons o r, x, vs, B => ∃ v vs' B1 B2, vs = v :: vs' ∧ B = B1 ++ B2 ∧ OwnC w N o x.1 v B1 ∧ OwnR w N r x.2 vs' B2
end
theorem BlkOK.plain {φ φ' : Nat → Option Nat} {h h' : Heap} {w : World} {N : Nat → Prop} {f : Option Nat} {r : RT} {xs : List r.I} (k : BlkOK φ h w N f (.lst r xs)) : BlkOK φ' h' w N f (.lst r xs) := k
section
variable {M : Nat → Prop} {φ : Nat → Option Nat} {h : Heap} {w : World}
theorem BlkOK.take {N : Nat → Prop} {f : Option Nat} {r : RT} {xs : List r.I} (n : Nat) (k : BlkOK φ h w N f (.lst r xs)) : BlkOK φ h w N f (.lst r (xs.take n)) := by
  cases f with
  | none => rw [show xs = [] from k]; simp [BlkOK]
  | some b =>
    obtain ⟨cap, c', h1, h2, h3, h4, h5⟩ := k
    exact ⟨cap, c', h1, h2, h3, by simp; omega, fun i hi => by
      have := h5 i (by simp at hi; omega)
      simpa using this⟩
mutual
theorem readC_ok (k : HRel M φ h w) : ∀ (o : OT) {x : Cell} {v : Value} {y : o.I} {ns : List Nat}, CellOK φ h w (Imm M φ) x v → readC h o x = some (y, ns) → OwnC w (Imm M φ) o y v (ns.filterMap φ)
  | .c t, x, v, y, ns, hx, hr => by
    unfold readC at hr
    split at hr
    · rename_i y' hy
      cases hr
      exact ⟨castCell_ok hy hx, rfl⟩
    · cases hr
  | .own r, x, v, y, ns, hx, hr => by
    unfold readC at hr
    simp only at hr
    split at hr
    · rename_i s
      split at hr
      · rename_i r' xs hs
        split at hr
        · rename_i q hq
          cases q with | up e =>
          subst e
          cases hr
          obtain ⟨r0, xs0, hs0, hk⟩ := hx
          rw [hs] at hs0; cases hs0
          exact ⟨φ s, by cases hf : φ s <;> simp [hf], hk, (k.blk s _ hs).plain⟩
        · cases hr
      · cases hr
    · rename_i s n
      split at hr
      · rename_i r' xs hs
        split at hr
        · rename_i q hq
          cases q with | up e =>
          subst e
          cases hr
          obtain ⟨r0, xs0, hs0, hl, hz, _⟩ := hx
          rw [hs] at hs0; cases hs0
          have hlen : (xs.take n).length = n := by simp; omega
          exact ⟨φ s, by cases hf : φ s <;> simp [hf], by rw [hlen]; exact hz rfl, ((k.blk s _ hs).take n).plain⟩
        · cases hr
      · cases hr
    · cases hr
      exact ⟨none, rfl, ⟨hx, rfl⟩, rfl⟩
    · cases hr
  | .obj r, x, v, y, ns, hx, hr => by
    unfold readC at hr
    split at hr
    · cases hr
      exact ⟨hx, rfl⟩
    · rename_i s
      split at hr
      · rename_i cs hs
        split at hr
        · rename_i y' ns' hy
          cases hr
          obtain ⟨cs0, b, hs0, hf, hv⟩ := hx
          have hb := k.blk s _ hs
          obtain ⟨b', c, hf', hc, hw, hk⟩ := hb
          rw [hf] at hf'; cases hf'
          exact ⟨b, c, ns'.filterMap φ, hv, by simp [hf], hc, hw, readR_ok k r hk hy⟩
        · cases hr
      · cases hr
    · cases hr
theorem readR_ok (k : HRel M φ h w) : ∀ (r : OR) {cs : List Cell} {vs : List Value} {y : r.I} {ns : List Nat}, CellsOK φ h w (Imm M φ) cs vs → readR h r cs = some (y, ns) → OwnR w (Imm M φ) r y vs (ns.filterMap φ)
  | .one o, cs, vs, y, ns, hk, hr => by
    match cs, vs, hk, hr with
    | [x], [v], hk, hr => exact ⟨v, rfl, readC_ok k o hk.1 hr⟩
    | [x], [], hk, _ => exact hk.elim
    | [x], _ :: _ :: _, hk, _ => exact hk.2.elim
    | [], _, _, hr => simp [readR] at hr
    | _ :: _ :: _, _, _, hr => simp [readR] at hr
  | .cons o r, cs, vs, y, ns, hk, hr => by
    match cs, vs, hk, hr with
    | x :: xs, v :: vs', hk, hr =>
      unfold readR at hr
      split at hr
      · rename_i a ns1 b ns2 h1 h2
        cases hr
        exact ⟨v, vs', ns1.filterMap φ, ns2.filterMap φ, rfl, by simp, readC_ok k o hk.1 h1, readR_ok k r hk.2 h2⟩
      · cases hr
    | x :: xs, [], hk, _ => exact hk.elim
    | [], _, _, hr => simp [readR] at hr
end

/-! ### Laid into memory -/
def MB (M : Nat → Prop) (B : List Nat) (b : Nat) : Prop := M b ∨ b ∈ B
/-- From one naming to one that knows more. -/
structure Up (M1 : Nat → Prop) (φ1 : Nat → Option Nat) (h1 : Heap) (M2 : Nat → Prop) (φ2 : Nat → Option Nat) (h2 : Heap) (w : World) : Prop where
  rel : HRel M2 φ2 h2 w
  cell : ∀ x v, CellOK φ1 h1 w (Imm M1 φ1) x v → CellOK φ2 h2 w (Imm M2 φ2) x v
  keep : ∀ s b, hget h1 s = some b → hget h2 s = some b ∧ φ2 s = φ1 s
  len : h2.length = h1.length
  imm : ∀ b, Imm M1 φ1 b → Imm M2 φ2 b
  new : ∀ s b, φ2 s = some b → φ1 s = some b ∨ M1 b
theorem Up.refl (k : HRel M φ h w) : Up M φ h M φ h w := ⟨k, fun _ _ h => h, fun _ _ h => ⟨h, rfl⟩, rfl, fun _ h => h, fun _ _ h => .inl h⟩
theorem Up.trans {M1 M2 M3 : Nat → Prop} {φ1 φ2 φ3 : Nat → Option Nat} {h1 h2 h3 : Heap} (a : Up M1 φ1 h1 M2 φ2 h2 w) (b : Up M2 φ2 h2 M3 φ3 h3 w) (hM : ∀ x, M2 x → M1 x) : Up M1 φ1 h1 M3 φ3 h3 w :=
  ⟨b.rel, fun x v h => b.cell x v (a.cell x v h), fun s y h => ⟨(b.keep s y (a.keep s y h).1).1, by rw [(b.keep s y (a.keep s y h).1).2, (a.keep s y h).2]⟩, b.len.trans a.len, fun x h => b.imm x (a.imm x h), fun s x h => by
    rcases b.new s x h with h | h
    · exact a.new s x h
    · exact .inr (hM x h)⟩
theorem room'_ok {s : Nat} (hr : room' h s = true) : hget h s = none ∧ s < h.length := by
  unfold room' at hr
  split at hr
  · rename_i hn
    rw [llen_eq] at hr
    exact ⟨hn, Nat.le_of_ble_eq_true hr⟩
  · cases hr
/-- A block of others' has a name. -/
theorem Up.name {Mr : Nat → Prop} {f : Option Nat} (k : HRel (MB Mr f.toList) φ h w) {s : Nat} (hs : hget h s = none) (hl : s < h.length) {x : Blk} (hf : ∀ b, f = some b → ¬ Mr b)
    (hx : BlkOK (upd φ s f) (hset h s x) w (Imm Mr (upd φ s f)) f x) : Up (MB Mr f.toList) φ h Mr (upd φ s f) (hset h s x) w := by
  have he : MB Mr f.toList = Also Mr f := by
    funext b
    refine propext ?_
    cases f with
    | none => simp [MB, Also]
    | some b' => simp [MB, Also, eq_comm]
  rw [he] at k ⊢
  obtain ⟨g1, g2⟩ := k.readd hs hl hf hx
  refine ⟨g1, g2, fun t b hb => ?_, by simp [hset, lset_length], fun b hb => ⟨fun hm => hb.1 (.inl hm), fun t ht => ?_⟩, fun t b ht => ?_⟩
  · have hne : t ≠ s := fun e => by subst e; rw [hs] at hb; cases hb
    exact ⟨by rw [hget_hset_other _ _ _ _ (Ne.symm hne)]; exact hb, upd_other _ _ hne⟩
  · unfold upd at ht
    split at ht
    · exact hb.1 (.inr ht)
    · exact hb.2 t ht
  · unfold upd at ht
    split at ht
    · exact .inr (.inr ht)
    · exact .inl ht
theorem imm_name {Mr : Nat → Prop} {f : Option Nat} {s b : Nat} (hb : Imm (MB Mr f.toList) φ b) : Imm Mr (upd φ s f) b :=
  ⟨fun hm => hb.1 (.inl hm), fun t ht => by
    unfold upd at ht
    split at ht
    · subst ht; exact hb.1 (.inr (by simp))
    · exact hb.2 t ht⟩
theorem MB_cons (Mr : Nat → Prop) (b : Nat) (B : List Nat) : MB Mr (b :: B) = MB (MB Mr [b]) B := by
  funext x; simp only [MB, List.mem_cons, List.mem_nil_iff, or_false, or_assoc, List.not_mem_nil]
theorem MB_append (Mr : Nat → Prop) (B1 B2 : List Nat) : MB Mr (B1 ++ B2) = MB (MB Mr B2) B1 := by
  funext x; simp only [MB, List.mem_append]
  exact propext ⟨fun h => by rcases h with h | h | h; exact .inl (.inl h); exact .inr h; exact .inl (.inr h), fun h => by rcases h with (h | h) | h; exact .inl h; exact .inr (.inr h); exact .inr (.inl h)⟩
theorem freeN_ge : ∀ (h : Heap) (n i : Nat), freeN h n i < i + h.length → i + n ≤ freeN h n i
  | [], n, i, hl => by simp [freeN] at hl
  | x :: l, n + 1, i, hl => by
    have := freeN_ge l n (i + 1) (by simp [freeN] at hl; omega)
    simp only [freeN]; omega
  | none :: l, 0, i, _ => by simp [freeN]
  | some x :: l, 0, i, hl => by
    have := freeN_ge l 0 (i + 1) (by simp [freeN] at hl; omega)
    simp only [freeN]; omega
/-- The names below n0 are left alone. -/
def Low (n0 : Nat) (φ : Nat → Option Nat) (h : Heap) (φ' : Nat → Option Nat) (h' : Heap) : Prop := ∀ s, s < n0 → hget h' s = hget h s ∧ φ' s = φ s
theorem Low.trans {n0 : Nat} {φ1 φ2 φ3 : Nat → Option Nat} {h1 h2 h3 : Heap} (a : Low n0 φ1 h1 φ2 h2) (b : Low n0 φ2 h2 φ3 h3) : Low n0 φ1 h1 φ3 h3 := fun s hs => ⟨(b s hs).1.trans (a s hs).1, (b s hs).2.trans (a s hs).2⟩
theorem Low.name {n0 : Nat} {f : Option Nat} {x : Blk} (hl : freeN h n0 0 < h.length) : Low n0 φ h (upd φ (freeN h n0 0) f) (hset h (freeN h n0 0) x) := fun s hs => by
  have := freeN_ge h n0 0 (by omega)
  exact ⟨hget_hset_other _ _ _ _ (by omega), upd_other _ _ (by omega)⟩
variable {R : Type} {n0 : Nat} {q : R} {N : Nat → Prop}
mutual
theorem layC_ok : ∀ (o : OT) {x : o.I} {v : Value} {B : List Nat} {Mr : Nat → Prop} {φ : Nat → Option Nat} {h : Heap} {K : Cell → Heap → Option R}, HRel (MB Mr B) φ h w → OwnC w N o x v B → (∀ b, N b → b < w.heap.size → Imm (MB Mr B) φ b) → B.Nodup → (∀ b ∈ B, ¬ Mr b) →
    layC n0 o x h K = some q → ∃ c h' φ', K c h' = some q ∧ Up (MB Mr B) φ h Mr φ' h' w ∧ Low n0 φ h φ' h' ∧ CellOK φ' h' w (Imm Mr φ') c v
  | .c t, x, v, B, Mr, φ, h, K, k, hO, hN, hnd, hd, hl => by
    obtain ⟨hr, rfl⟩ := hO
    have he : MB Mr [] = Mr := by funext b; simp [MB]
    rw [he] at k hN ⊢
    exact ⟨_, h, φ, hl, Up.refl k, fun _ _ => ⟨rfl, rfl⟩, RepC.mono (fun b hb hlt => ⟨rfl, hN b hb hlt⟩) t x v hr⟩
  | .own r, xs, v, B, Mr, φ, h, K, k, hO, hN, hnd, hd, hl => by
    obtain ⟨f, rfl, hv, hb⟩ := hO
    unfold layC at hl
    cases hr : room' h (freeN h n0 0) with
    | false => rw [hr, cond_false] at hl; cases hl
    | true =>
    rw [hr, cond_true] at hl
    obtain ⟨h1, h2⟩ := room'_ok hr
    have hup := Up.name k h1 h2 (x := .lst r xs) (fun b hb => hd b (by rw [hb]; simp)) (by
      cases f with
      | none => exact hb
      | some b =>
        obtain ⟨cap, c, e1, e2, e3, e4, e5⟩ := hb
        exact ⟨cap, c, e1, e2, e3, e4, fun i hi => RepR.mono (fun b hb hlt => ⟨rfl, imm_name (hN b hb hlt)⟩) r _ _ _ rfl (e5 i hi)⟩)
    exact ⟨_, _, _, hl, hup, Low.name h2, r, xs, hget_hset_same _ _ _ h2, by rw [upd_same]; exact hv⟩
  | .obj r, x, v, B, Mr, φ, h, K, k, hO, hN, hnd, hd, hl => by
    cases x with
    | none =>
      obtain ⟨hv, rfl⟩ := hO
      have he : MB Mr [] = Mr := by funext b; simp [MB]
      rw [he] at k ⊢
      unfold layC at hl
      exact ⟨_, h, φ, hl, Up.refl k, fun _ _ => ⟨rfl, rfl⟩, hv⟩
    | some y =>
      obtain ⟨b, c, B', hv, rfl, hc, hw, hR⟩ := hO
      unfold layC at hl
      simp only at hl
      rw [MB_cons] at k hN ⊢
      rw [List.nodup_cons] at hnd
      obtain ⟨cs, h', φ', hk, hup, hlow, hcs⟩ := layR_ok r k hR hN hnd.2 (fun b' hb' hm => by
        rcases hm with hm | hm
        · exact hd b' (by simp [hb']) hm
        · simp at hm; subst hm; exact hnd.1 hb') hl
      cases hr : room' h' (freeN h' n0 0) with
      | false => rw [hr, cond_false] at hk; cases hk
      | true =>
      rw [hr, cond_true] at hk
      obtain ⟨h1, h2⟩ := room'_ok hr
      have hL : Later φ' h' w (Imm (MB Mr [b]) φ') (upd φ' (freeN h' n0 0) (some b)) (hset h' (freeN h' n0 0) (.row cs)) w (Imm Mr (upd φ' (freeN h' n0 0) (some b))) :=
        ⟨Sub.name h1, fun b' hb' _ => ⟨rfl, imm_name (f := some b) hb'⟩, fun s b' _ _ c hc => ⟨c, hc, rfl⟩⟩
      have hup2 := Up.name (f := some b) hup.rel h1 h2 (x := .row cs) (fun b' hb' => by cases hb'; exact hd b (by simp)) ⟨b, c, rfl, hc, hw, CellsOK.later hL hcs⟩
      exact ⟨_, _, _, hk, hup.trans hup2 (fun x hx => .inl hx), hlow.trans (Low.name h2), cs, b, hget_hset_same _ _ _ h2, upd_same _ _ _, hv⟩
theorem layR_ok : ∀ (r : OR) {x : r.I} {vs : List Value} {B : List Nat} {Mr : Nat → Prop} {φ : Nat → Option Nat} {h : Heap} {K : List Cell → Heap → Option R}, HRel (MB Mr B) φ h w → OwnR w N r x vs B → (∀ b, N b → b < w.heap.size → Imm (MB Mr B) φ b) → B.Nodup → (∀ b ∈ B, ¬ Mr b) →
    layR n0 r x h K = some q → ∃ cs h' φ', K cs h' = some q ∧ Up (MB Mr B) φ h Mr φ' h' w ∧ Low n0 φ h φ' h' ∧ CellsOK φ' h' w (Imm Mr φ') cs vs
  | .one o, x, vs, B, Mr, φ, h, K, k, hO, hN, hnd, hd, hl => by
    obtain ⟨v, rfl, hC⟩ := hO
    unfold layR at hl
    obtain ⟨c, h', φ', h1, h2, hw, h3⟩ := layC_ok o k hC hN hnd hd hl
    exact ⟨[c], h', φ', h1, h2, hw, h3, trivial⟩
  | .cons o r, x, vs, B, Mr, φ, h, K, k, hO, hN, hnd, hd, hl => by
    obtain ⟨v, vs', B1, B2, rfl, rfl, hC, hR⟩ := hO
    unfold layR at hl
    rw [MB_append] at k hN ⊢
    rw [List.nodup_append] at hnd
    obtain ⟨c, h', φ', h1, h2, hw, h3⟩ := layC_ok o k hC hN hnd.1 (fun b hb hm => by
      rcases hm with hm | hm
      · exact hd b (by simp [hb]) hm
      · exact hnd.2.2 b hb b hm rfl) hl
    obtain ⟨cs, h'', φ'', h4, h5, hw2, h6⟩ := layR_ok r h2.rel hR (fun b hb hlt => h2.imm b (hN b hb hlt)) hnd.2.1 (fun b hb => hd b (by simp [hb])) h1
    exact ⟨c :: cs, h'', φ'', h4, h2.trans h5 (fun x hx => .inl hx), hw.trans hw2, h5.cell _ _ h3, h6⟩
end
end
end Go.AM
