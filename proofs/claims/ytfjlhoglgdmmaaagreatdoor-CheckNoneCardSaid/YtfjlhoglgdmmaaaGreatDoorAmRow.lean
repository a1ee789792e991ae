/- From a function that the abstract machine shows to come to true to the contract that a law's row asks for. -/
import Derived.Test.YtfjlhoglgdmmaaaGreatDoorAmUse
import Derived.ProofKit
import Derived.LaidMore
import Derived.OpenShut
set_option autoImplicit false
set_option linter.unusedVariables false
namespace Go.AM
open Go.ChangeShapes Go.WideShapes Go.ChangeAt Go.WideMaps Go.WideElems Go.RowKit
theorem Ext.below {W W' : World} (h : Ext W W') : Below W.heap.size W W' := ⟨h.os, h.tape, h.output, h.size, h.block⟩
section
variable {H : Type} {enc : TypeId × Value → H} {P : Program}
/-- Arguments read as they did. -/
theorem trodAll_below {W W' : World} (hl : laidOutB P = true) (hb : Below W.heap.size W W') : ∀ {ts : List TypeId} {vs : List Value} {ds : List (DataW H)} {ps : List MemPlace}, (∀ t ∈ ts, P.readableRec t = true ∧ t < P.types.size) →
    DataW.TrodAll enc P W 0 (fun _ => true) true ts vs ds ps → ∀ sp : Nat → Bool, (∀ x ∈ ps, x.block < W.heap.size ∧ sp x.block = true) → DataW.TrodAll enc P W' 0 sp true ts vs ds ps
  | [], [], [], ps, _, h, sp, _ => h
  | t :: ts, v :: vs, d :: ds, ps, hr, ⟨p, q, h1, h2, h3⟩, sp, hp => by
    subst h3
    exact ⟨p, q, Trod_stays hl (hr t (by simp)).1 (hr t (by simp)).2 h1 (fun x hx => hb.same (hp x (by simp [hx])).1) (fun x hx => (hp x (by simp [hx])).2),
      trodAll_below hl hb (fun u hu => hr u (by simp [hu])) h2 sp (fun x hx => hp x (by simp [hx])), rfl⟩
  | [], _ :: _, _, _, _, h, _, _ => h.elim
  | [], [], _ :: _, _, _, h, _, _ => h.elim
  | _ :: _, [], _, _, _, h, _, _ => h.elim
  | _ :: _, _ :: _, [], _, _, h, _, _ => h.elim
theorem post_of_below {f : Func} {s : ChangeSpec} {apart fresh handsOn again : Bool} {W W' : World} {args : Array Value} {v : Value} {ds gs : List (DataW H)} {before pa pv : List MemPlace}
    (hW : DataW.Whole enc P f.params.toList s.vars apart W args.toList ds gs before)
    (hres : ∀ (b : Nat) (sp : Nat → Bool) (hd : Bool), DataW.TrodAll enc P W' b sp hd f.resultTypes.toList (v.resultList f.resultTypes.size) (s.fn H (ds ++ gs)).results [])
    (hargs : ∀ sp : Nat → Bool, (∀ p ∈ before, sp p.block = true) → DataW.TrodAll enc P W' 0 sp true f.params.toList args.toList (s.fn H (ds ++ gs)).args pa)
    (hvars : ∀ sp : Nat → Bool, (∀ p ∈ before, sp p.block = true) → DataW.TrodVars enc P W' sp s.vars (s.fn H (ds ++ gs)).vars pv)
    (hps : before = pa ++ pv) (hb : Below W.heap.size W W')
    (hok : ∀ (j : Nat) (t : TypeId) (r : Value), f.resultTypes[j]? = some t → (v.resultList f.resultTypes.size)[j]? = some r → Value.okWide P W' .any 0 t r) :
    s.post enc P f apart fresh handsOn again W args v W' := by
  have hlt : ∀ p ∈ before, p.block < W.heap.size := fun p hp => hW.lt p hp
  have hold : ∀ p ∈ before, (fun b => decide (b < W.heap.size)) p.block = true := fun p hp => by simpa using hlt p hp
  refine ⟨ds, gs, before, [], pa, pv, hW, hres _ _ _, hargs _ hold, hvars _ hold, hb.frame _, fun _ => ?_⟩
  obtain ⟨_, _, _, _, _, hz, hn⟩ := hW
  refine ⟨hok, _, _, ([] ++ pa) ++ pv, ⟨[] ++ pa, pv, trodAll_append (hargs _ (fun _ _ => rfl)) (hres _ _ _), hvars _ (fun _ _ => rfl), rfl, ?_, ?_⟩, ?_⟩
  · intro b off hp
    have hp' : MemPlace.cell b off ∈ before := by rw [hps]; simpa using hp
    rw [hb.frozen (p := ⟨b, off, none⟩) (hlt _ hp')]
    exact hz b off hp'
  · intro ha
    have := hn ha
    rw [hps] at this
    simpa using this
  · intro p hp _
    rw [hps]
    simpa using hp
theorem trodAll_length {base : Nat} {sp : Nat → Bool} {held : Bool} {W : World} : ∀ {ts : List TypeId} {vs : List Value} {ds : List (DataW H)} {ps : List MemPlace}, DataW.TrodAll enc P W base sp held ts vs ds ps → vs.length = ts.length ∧ ds.length = ts.length
  | [], [], [], _, _ => ⟨rfl, rfl⟩
  | t :: ts, v :: vs, d :: ds, ps, ⟨p, q, _, h2, _⟩ => by
    obtain ⟨h3, h4⟩ := trodAll_length h2
    simp [h3, h4]
  | [], _ :: _, _, _, h => h.elim
  | [], [], _ :: _, _, h => h.elim
  | _ :: _, [], _, _, h => h.elim
  | _ :: _, _ :: _, [], _, h => h.elim
/-- A law that comes to true, as the row's contract has it. -/
theorem law_contract {f : FuncId} {fn : Func} {s : ChangeSpec} {apart fresh handsOn again : Bool} (hl : laidOutB P = true) (hr : ∀ t ∈ fn.params.toList, P.readableRec t = true ∧ t < P.types.size) {tb : TypeId} (hres : fn.resultTypes = #[tb]) (htb : P.underlying tb = some .bool)
    (hsv : s.vars = []) (hs : ∀ ds : List (DataW H), ds.length = fn.params.size → s.fn H ds = { results := [.lit (.bool true)], args := ds }) {W : World} {args : Array Value} {ds gs : List (DataW H)} {before : List MemPlace}
    (hW : DataW.Whole enc P fn.params.toList s.vars apart W args.toList ds gs before)
    (hc : Calls P f args W fun e W' => match e with
      | .returned v => Ext W W' ∧ v = .bool true
      | _ => False) :
    Calls P f args W fun e W' => ∃ v, e = .returned v ∧ s.post enc P fn apart fresh handsOn again W args v W' := by
  refine hc.mono fun e W' he => ?_
  cases e with
  | panicked _ => exact he.elim
  | outgrown => exact he.elim
  | returned v =>
    obtain ⟨hx, rfl⟩ := he
    refine ⟨_, rfl, ?_⟩
    have hW' := hW
    obtain ⟨p, q, hA, hV, hps, hfz, hnd⟩ := hW'
    rw [hsv] at hV
    obtain ⟨rfl, rfl⟩ := trodVars_none hV
    have hlen := (trodAll_length hA).2
    have hfn : s.fn H (ds ++ []) = { results := [.lit (.bool true)], args := ds } := by rw [List.append_nil]; exact hs ds (by simpa using hlen)
    have hpe : before = p := by simpa using hps
    subst hpe
    refine post_of_below (pa := before) (pv := []) hW (fun b sp hd => ?_) (fun sp hsp => ?_) (fun sp _ => ?_) (by simp) hx.below (ok_one hres rfl (okWide_bool_mk htb true))
    · rw [hres, hfn]
      exact trodAll_mk1 (shut_bool htb true)
    · rw [hfn]
      exact trodAll_below hl hx.below hr hA sp (fun x hx' => ⟨hW.lt x hx', hsp x hx'⟩)
    · rw [hsv, hfn]
      rfl
end

/-! ### Package variables that are arrays of whole numbers -/
def intRow (k : IntKind) : Nat → RT
  | 0 => .one (.int k)
  | n + 1 => .cons (.int k) (intRow k n)
def intVals (k : IntKind) : (n : Nat) → List Int → (intRow k n).I
  | 0, x :: _ => x
  | 0, [] => (0 : Int)
  | n + 1, x :: l => (x, intVals k n l)
  | n + 1, [] => ((0 : Int), intVals k n [])
theorem intRow_flat (k : IntKind) : ∀ n, (intRow k n).flat = true
  | 0 => rfl
  | n + 1 => by simp [intRow, RT.flat, CT.flat, intRow_flat k n]
theorem intVals_rep {w : World} {N : Nat → Prop} {b : Nat} (k : IntKind) : ∀ (n : Nat) (l : List Int) (o : Nat), (∀ j, j ≤ n → w.cell? ⟨b, o + j, none⟩ = some (.int k (l.getD j 0))) → RepR w N (intRow k n) (intVals k n l) b o
  | 0, x :: l, o, h => ⟨_, h 0 (Nat.le_refl _), rfl⟩
  | 0, [], o, h => ⟨_, h 0 (Nat.le_refl _), rfl⟩
  | n + 1, x :: l, o, h => ⟨⟨_, h 0 (Nat.zero_le _), rfl⟩, intVals_rep k n l (o + 1) fun j hj => by
      have := h (j + 1) (by omega)
      rw [show o + 1 + j = o + (j + 1) by omega]; simpa using this⟩
  | n + 1, [], o, h => ⟨⟨_, h 0 (Nat.zero_le _), rfl⟩, intVals_rep k n [] (o + 1) fun j hj => by
      have := h (j + 1) (by omega)
      rw [show o + 1 + j = o + (j + 1) by omega]; simpa using this⟩
/-- What a reading of an array of whole numbers says of its cells. -/
theorem array_cells {H : Type} {enc : TypeId × Value → H} {P : Program} {w : World} {base : Nat} {sp : Nat → Bool} {held : Bool} {fuel t e n : Nat} {k : IntKind} {cs : List Value} {l : List Int} {m : List MemPlace}
    (ht : P.underlying t = some (.array n e)) (he : P.underlying e = some (.int k)) (h1 : P.cellsOf e = 1) (hl : l.length = n) (h : DataW.trod enc P w base sp held fuel t cs = some (.agg (l.map fun x => .lit (.int k x)), m)) : ∀ j, j < n → cs[j]? = some (.int k (l.getD j 0)) := by
  intro j hj
  obtain ⟨xs, m', _, hx, hcl, hxl, hel⟩ := DataW.trod_array ht h
  have h2 := hel j hj
  rw [h1, Nat.mul_one] at h2
  have hxj : xs[j]? = some (xs[j]'(by omega)) := List.getElem?_eq_getElem (by omega)
  rw [hxj] at h2
  obtain ⟨v, e1, e2, _⟩ := DataW.trod_int he h2
  simp only [Prod.mk.injEq, DataW.agg.injEq] at hx
  have h3 := congrArg (fun z => z[j]?) hx.1
  simp only [List.getElem?_map, hxj, Option.map_some] at h3
  rw [List.getElem?_eq_getElem (show j < l.length by omega)] at h3
  rw [e2] at h3
  simp at h3
  have h4 : (cs.drop j)[0]? = some (.int k v) := by
    have : ((cs.drop j).take 1)[0]? = some (.int k v) := by rw [e1]; rfl
    simpa using this
  rw [List.getElem?_drop] at h4
  rw [show j + 0 = j from rfl] at h4
  rw [h4, ← h3, List.getD_eq_getElem?_getD, List.getElem?_eq_getElem (by omega)]
  rfl
end Go.AM
