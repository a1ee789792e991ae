/- More operations of the abstract machine that turn nothing that was there. -/
import Derived.Test.YtfjlhoglgdmmaaaGreatDoorAmOps
import Derived.Laws.Strings
set_option autoImplicit false
set_option linter.unusedVariables false
set_option linter.unusedSimpArgs false
namespace Go.AM
section
variable {P : Program} {T : List (Nat × TI)} {R : Type} {M : Nat → Prop} {φ : Nat → Option Nat} {h : Heap} {w : World}

theorem HeadOK.slice {r : RT} {f : Option Nat} {n : Nat} {v : Value} (k : HeadOK w r f n v) : ∃ a cap, v = .slice a n cap ∧ n ≤ cap ∧ (n ≠ 0 → ∃ b, f = some b ∧ a = some ⟨b, 0, none⟩) := by
  unfold HeadOK at k
  cases f with
  | none => obtain ⟨hv, hn⟩ := k; subst hn; exact ⟨none, 0, hv, Nat.le_refl _, fun h => absurd rfl h⟩
  | some b => obtain ⟨cap, c, hv, hn, _⟩ := k; exact ⟨_, cap, hv, hn, fun _ => ⟨b, rfl, rfl⟩⟩
theorem run_indexAt_slice' {t e : Nat} {te : TI} (hu : P.underlying t = some (.slice e)) (hE : TIok P e te) (b o n cap : Nat) (q : IntKind) {i : Int} (h0 : 0 ≤ i) (h1 : i < n) :
    (Instr.indexAt t (.slice (some ⟨b, o, none⟩) n cap) (.int q i)).run P w = .ok (.pointer (some ⟨b, o + i.toNat * te.size, none⟩)) w := by
  simp only [Instr.indexAt, asIntOf, Sem.run_bind, Sem.run_pure, Result.andThen_ok, run_underlying hu]
  rw [if_pos ⟨h0, h1⟩]
  simp only [Sem.run_bind, hE.sizeOf, Result.andThen_ok, Sem.run_pure, add_plain]
theorem run_indexAt_array' {t n e : Nat} {te : TI} (hu : P.underlying t = some (.array n e)) (hE : TIok P e te) (b o : Nat) (q : IntKind) {i : Int} (h0 : 0 ≤ i) (h1 : i < n) :
    (Instr.indexAt t (.pointer (some ⟨b, o, none⟩)) (.int q i)).run P w = .ok (.pointer (some ⟨b, o + i.toNat * te.size, none⟩)) w := by
  simp only [Instr.indexAt, asIntOf, Sem.run_bind, Sem.run_pure, Result.andThen_ok, run_underlying hu, Instr.sureAddr]
  rw [if_pos ⟨h0, h1⟩]
  simp only [Sem.run_bind, hE.sizeOf, Result.andThen_ok, Sem.run_pure, add_plain]
theorem TIok.rowSlice (hT : TOK P T) {t e : Nat} {ti te : TI} {r : RT} (ht : tfind T t = some ti) (hd : ti.d = .slice e) (he : tfind T e = some te) (hr : te.row = some r) :
    P.underlying t = some (.slice e) ∧ r.n = te.size := ⟨(hT t ti ht).under_slice hd, ((hT e te he).rown hr).1⟩
theorem indexAddrK_ok (hT : TOK P T) (k : HRel M φ h w) {t : Nat} {u i : V} {v vi : Value} (hu : VOK φ h w (Imm M φ) u v) (hi : VOK φ h w (Imm M φ) i vi) {K : V → Option R} {r : R}
    (he : indexAddrK T t u i h K = some r) : ∃ u', K u' = some r ∧ ∃ v', (Instr.indexAt t v vi).run P w = .ok v' w ∧ VOK φ h w (Imm M φ) u' v' := by
  unfold indexAddrK at he
  split at he
  · rename_i ti n ht hn
    obtain ⟨q, rfl⟩ := asInt_ok hn hi
    split at he
    · rename_i e hd
      have hus := (hT t ti ht).under_slice hd
      split at he
      · rename_i te hte
        have hE := hT e te hte
        split at he
        · rename_i s
          obtain ⟨r', xs, hs, hk⟩ := hu
          rw [hs] at he
          simp only at he
          cases hb : Nat.beq r'.n te.size with
          | false => rw [hb] at he; cases he
          | true =>
            have hsz := Nat.eq_of_beq_eq_true hb
            rw [hb, cond_true] at he
            cases hr : inR n xs.length with
            | false => rw [hr] at he; cases he
            | true =>
              rw [hr, cond_true] at he
              obtain ⟨h0, h1⟩ := inR_iff.1 hr
              obtain ⟨a, cap, hv, hc, ha⟩ := hk.slice
              obtain ⟨b, hf, ha⟩ := ha (by omega)
              subst ha
              refine ⟨_, he, _, by rw [hv]; exact run_indexAt_slice' hus hE b 0 xs.length cap q h0 h1, r', xs, b, hs, hf, by omega, by simp [hsz]⟩
        · rename_i s lo m
          obtain ⟨r', xs, hs, hl, hz, a, cap, hv, hc, ha⟩ := hu
          rw [hs] at he
          simp only at he
          cases hb : Nat.beq r'.n te.size with
          | false => rw [hb] at he; cases he
          | true =>
            have hsz := Nat.eq_of_beq_eq_true hb
            rw [hb, cond_true] at he
            cases hr : inR n m with
            | false => rw [hr] at he; cases he
            | true =>
              rw [hr, cond_true] at he
              obtain ⟨h0, h1⟩ := inR_iff.1 hr
              obtain ⟨b, hf, ha⟩ := ha (by omega)
              subst ha
              refine ⟨_, he, _, by rw [hv]; exact run_indexAt_slice' hus hE b _ m cap q h0 h1, r', xs, b, hs, hf, by omega, ?_⟩
              rw [← hsz, Nat.add_mul]; rfl
        · rename_i r' xs
          cases hb : Nat.beq r'.n te.size with
          | false => rw [hb] at he; cases he
          | true =>
            have hsz := Nat.eq_of_beq_eq_true hb
            rw [hb, cond_true] at he
            cases hr : inR n xs.length with
            | false => rw [hr] at he; cases he
            | true =>
              rw [hr, cond_true] at he
              obtain ⟨h0, h1⟩ := inR_iff.1 hr
              obtain ⟨a, cap, hv, hc, ha⟩ := hu
              obtain ⟨b, o, ha, hN, hx⟩ := ha (fun e => by rw [e] at h1; simp at h1; omega)
              subst ha
              have hlt : n.toNat < xs.length := by omega
              have hg : xs.getD n.toNat r'.zero = xs[n.toNat] := by simp [List.getD, hlt]
              refine ⟨_, he, _, by rw [hv]; exact run_indexAt_slice' hus hE b o xs.length cap q h0 h1, b, o + n.toNat * r'.n, hN, ?_, by rw [hsz]; rfl⟩
              rw [hg]
              exact hx _ hlt
        · cases he
      · cases he
    · rename_i m e hd
      have hua := (hT t ti ht).under_arr hd
      split at he
      · rename_i te hte
        have hE := hT e te hte
        split at he
        · rename_i s o
          obtain ⟨j, h1, h2, h3, h4⟩ := sel_ok _ _ he
          subst h3
          obtain ⟨cs, b, hs, hf, hv⟩ := hu
          exact ⟨_, h4, _, by rw [hv]; exact run_indexAt_array' hua hE b o q (by omega) (by omega), cs, b, hs, hf, by simp⟩
        · rename_i s k' o
          obtain ⟨j, h1, h2, h3, h4⟩ := sel_ok _ _ he
          subst h3
          obtain ⟨r', xs, b, hs, hf, hi', hv⟩ := hu
          exact ⟨_, h4, _, by rw [hv]; exact run_indexAt_array' hua hE b _ q (by omega) (by omega), r', xs, b, hs, hf, hi', by simp [Nat.add_assoc]⟩
        · rename_i r' y o
          obtain ⟨j, h1, h2, h3, h4⟩ := sel_ok _ _ he
          subst h3
          obtain ⟨b, o', hN, hr, hv⟩ := hu
          exact ⟨_, h4, _, by rw [hv]; exact run_indexAt_array' hua hE b _ q (by omega) (by omega), b, o', hN, hr, by simp [Nat.add_assoc]⟩
        · cases he
      · cases he
    · cases he
  · cases he
theorem indexK_ok (hT : TOK P T) {N : Nat → Prop} {t : Nat} {u i : V} {v vi : Value} (hu : VOK φ h w N u v) (hi : VOK φ h w N i vi) {K : V → Option R} {r : R}
    (he : indexK T t u i K = some r) : ∃ u', K u' = some r ∧ ∃ v', (Instr.index t v vi).run P w = .ok v' w ∧ VOK φ h w N u' v' := by
  unfold indexK at he
  split at he
  · rename_i ti n ht hn
    obtain ⟨q, rfl⟩ := asInt_ok hn hi
    split at he
    · rename_i l hd
      have hus := (hT t ti ht).under_str hd
      cases hr : inR n l.length with
      | false => rw [hr] at he; cases he
      | true =>
        rw [hr, cond_true] at he
        obtain ⟨h0, h1⟩ := inR_iff.1 hr
        have hv : v = .string ⟨l.toArray⟩ := hu
        subst hv
        have hlt : n.toNat < l.length := by omega
        refine ⟨_, he, .int .u8 (l[n.toNat].toNat), ?_, ?_⟩
        · simp only [Instr.index, asIntOf, Sem.run_bind, Sem.run_pure, Result.andThen_ok, run_underlying hus]
          rw [if_pos h0]
          have hs : (⟨l.toArray⟩ : ByteArray)[n.toNat]? = some l[n.toNat] := by
            have hl : n.toNat < (⟨l.toArray⟩ : ByteArray).size := by show n.toNat < l.toArray.size; simpa using hlt
            rw [ByteArray.getElem?_lt' _ _ hl]
            congr 1
          simp [hs]
        · show _ = _
          simp [List.getD, hlt]
    · rename_i m e cs hd
      have hua := (hT t ti ht).under_arr hd
      split at he
      · rename_i te hte
        have hE := hT e te hte
        obtain ⟨j, h1, h2, h3, h4⟩ := sel_ok _ _ he
        subst h3
        split at h4
        · rename_i u' hm
          obtain ⟨arr, hv, ha⟩ := hu
          obtain ⟨v', hr, hk⟩ := run_part (P := P) (w := w) hE ha hm
          refine ⟨u', h4, v', ?_, hk⟩
          rw [hv]
          simp only [Instr.index, asIntOf, Sem.run_bind, Sem.run_pure, Result.andThen_ok, run_underlying hua]
          rw [if_pos ⟨by omega, by omega⟩]
          simp only [Sem.run_bind, hE.sizeOf, Result.andThen_ok, Int.toNat_natCast, hr]
        · cases h4
      · cases he
    · cases he
  · cases he
end
end Go.AM
