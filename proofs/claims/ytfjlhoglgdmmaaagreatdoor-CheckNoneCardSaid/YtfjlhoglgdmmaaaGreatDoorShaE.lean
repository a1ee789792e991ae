/- sha.mixed, sha.Sum: they come to something. -/
import Derived.Test.YtfjlhoglgdmmaaaGreatDoorShaB
import Derived.Test.YtfjlhoglgdmmaaaGreatDoorShaC
import Derived.Test.YtfjlhoglgdmmaaaGreatDoorShaD
set_option autoImplicit false
set_option linter.unusedVariables false
set_option maxRecDepth 100000
namespace Go.AM
open Go.Proofs
theorem bind_some {α β : Type} {o : Option α} {f : α → Option β} (h : o.isSome = true) (hf : ∀ x, (f x).isSome = true) : (o.bind f).isSome = true := by
  cases o with
  | none => cases h
  | some x => exact hf x
theorem rnd_some {R : Type} {k wi a b c d e f g h : Int} {K : Int → Int → Int → Int → Int → Int → Int → Int → Option R} (hK : ∀ a b c d e f g h, (K a b c d e f g h).isSome = true) : (rnd k wi a b c d e f g h K).isSome = true := by
  unfold rnd
  refine bind_some (by kernel_rfl) fun _ => bind_some (by kernel_rfl) fun _ => bind_some (by kernel_rfl) fun _ => bind_some (by kernel_rfl) fun _ => bind_some (by kernel_rfl) fun _ => bind_some (by kernel_rfl) fun _ => hK _ _ _ _ _ _ _ _
noncomputable def restM : Code := dropC 5 (right (bodyOf Tryz.f112) .skip)
theorem partsM : dropC 4 (right (bodyOf Tryz.f112) .skip) = .seq (.block 0 (.loop (loopIn (bodyOf Tryz.f112)))) restM := by kernel_rfl
noncomputable def KM (sched : List UInt8 → Option (u32s 63).I) : Exit → St → Option (u32s 7).I := behindK TY (FM sched) 70 hM 0 restM (retK TY [.agg (u32s 7)] Tryz.f112.results.toList)
section
variable (sched : List UInt8 → Option (u32s 63).I) (w : Nat → Int) (a b c d e f g h : Int) (s0 s1 s2 s3 s4 s5 s6 s7 : Int)
theorem mixed_head {R : Type} (blk : List UInt8) (G : St → Option R) (K : Exit → St → Option R) : exec TY (FM sched) 70 hM 0 (takeC 4 (right (bodyOf Tryz.f112) .skip)) ⟨[.agg (v8 a b c d e f g h), .one (.c .str blk)] ++ skips (Tryz.f112.ntmps - llen [V.agg (v8 a b c d e f g h), .one (.c .str blk)]), nones (Tryz.f112.ntmps + 20)⟩ (seqK (fun st => G (norm (hfind hM 0) st)) K) =
  (sched blk).bind fun W => G (SM (v8 a b c d e f g h) (nthF 63 W) 0 (v8 a b c d e f g h)) := by kernel_rfl
theorem mixed_run (blk : List UInt8) : run TY (FM sched) 70 hM 20 Tryz.f112 [.agg (u32s 7)] [.agg (v8 a b c d e f g h), .one (.c .str blk)] =
  (sched blk).bind fun W => iter (LM sched (KM sched)) 70 (SM (v8 a b c d e f g h) (nthF 63 W) 0 (v8 a b c d e f g h)) := by
  rw [run_body (by kernel_rfl), exec_parts 4 partsM]
  exact mixed_head sched a b c d e f g h blk (iter (LM sched (KM sched)) 70) _
theorem h64 : (iter (LM sched (KM sched)) 6 (SM (v8 s0 s1 s2 s3 s4 s5 s6 s7) w 64 (v8 a b c d e f g h))).isSome = true := by kernel_rfl
theorem h63 : (iter (LM sched (KM sched)) 7 (SM (v8 s0 s1 s2 s3 s4 s5 s6 s7) w 63 (v8 a b c d e f g h))).isSome = true := by rw [iter_succ, r63]; exact rnd_some fun a b c d e f g h => h64 sched w a b c d e f g h s0 s1 s2 s3 s4 s5 s6 s7
theorem h62 : (iter (LM sched (KM sched)) 8 (SM (v8 s0 s1 s2 s3 s4 s5 s6 s7) w 62 (v8 a b c d e f g h))).isSome = true := by rw [iter_succ, r62]; exact rnd_some fun a b c d e f g h => h63 sched w a b c d e f g h s0 s1 s2 s3 s4 s5 s6 s7
theorem h61 : (iter (LM sched (KM sched)) 9 (SM (v8 s0 s1 s2 s3 s4 s5 s6 s7) w 61 (v8 a b c d e f g h))).isSome = true := by rw [iter_succ, r61]; exact rnd_some fun a b c d e f g h => h62 sched w a b c d e f g h s0 s1 s2 s3 s4 s5 s6 s7
theorem h60 : (iter (LM sched (KM sched)) 10 (SM (v8 s0 s1 s2 s3 s4 s5 s6 s7) w 60 (v8 a b c d e f g h))).isSome = true := by rw [iter_succ, r60]; exact rnd_some fun a b c d e f g h => h61 sched w a b c d e f g h s0 s1 s2 s3 s4 s5 s6 s7
theorem h59 : (iter (LM sched (KM sched)) 11 (SM (v8 s0 s1 s2 s3 s4 s5 s6 s7) w 59 (v8 a b c d e f g h))).isSome = true := by rw [iter_succ, r59]; exact rnd_some fun a b c d e f g h => h60 sched w a b c d e f g h s0 s1 s2 s3 s4 s5 s6 s7
theorem h58 : (iter (LM sched (KM sched)) 12 (SM (v8 s0 s1 s2 s3 s4 s5 s6 s7) w 58 (v8 a b c d e f g h))).isSome = true := by rw [iter_succ, r58]; exact rnd_some fun a b c d e f g h => h59 sched w a b c d e f g h s0 s1 s2 s3 s4 s5 s6 s7
theorem h57 : (iter (LM sched (KM sched)) 13 (SM (v8 s0 s1 s2 s3 s4 s5 s6 s7) w 57 (v8 a b c d e f g h))).isSome = true := by rw [iter_succ, r57]; exact rnd_some fun a b c d e f g h => h58 sched w a b c d e f g h s0 s1 s2 s3 s4 s5 s6 s7
theorem h56 : (iter (LM sched (KM sched)) 14 (SM (v8 s0 s1 s2 s3 s4 s5 s6 s7) w 56 (v8 a b c d e f g h))).isSome = true := by rw [iter_succ, r56]; exact rnd_some fun a b c d e f g h => h57 sched w a b c d e f g h s0 s1 s2 s3 s4 s5 s6 s7
theorem h55 : (iter (LM sched (KM sched)) 15 (SM (v8 s0 s1 s2 s3 s4 s5 s6 s7) w 55 (v8 a b c d e f g h))).isSome = true := by rw [iter_succ, r55]; exact rnd_some fun a b c d e f g h => h56 sched w a b c d e f g h s0 s1 s2 s3 s4 s5 s6 s7
theorem h54 : (iter (LM sched (KM sched)) 16 (SM (v8 s0 s1 s2 s3 s4 s5 s6 s7) w 54 (v8 a b c d e f g h))).isSome = true := by rw [iter_succ, r54]; exact rnd_some fun a b c d e f g h => h55 sched w a b c d e f g h s0 s1 s2 s3 s4 s5 s6 s7
theorem h53 : (iter (LM sched (KM sched)) 17 (SM (v8 s0 s1 s2 s3 s4 s5 s6 s7) w 53 (v8 a b c d e f g h))).isSome = true := by rw [iter_succ, r53]; exact rnd_some fun a b c d e f g h => h54 sched w a b c d e f g h s0 s1 s2 s3 s4 s5 s6 s7
theorem h52 : (iter (LM sched (KM sched)) 18 (SM (v8 s0 s1 s2 s3 s4 s5 s6 s7) w 52 (v8 a b c d e f g h))).isSome = true := by rw [iter_succ, r52]; exact rnd_some fun a b c d e f g h => h53 sched w a b c d e f g h s0 s1 s2 s3 s4 s5 s6 s7
theorem h51 : (iter (LM sched (KM sched)) 19 (SM (v8 s0 s1 s2 s3 s4 s5 s6 s7) w 51 (v8 a b c d e f g h))).isSome = true := by rw [iter_succ, r51]; exact rnd_some fun a b c d e f g h => h52 sched w a b c d e f g h s0 s1 s2 s3 s4 s5 s6 s7
theorem h50 : (iter (LM sched (KM sched)) 20 (SM (v8 s0 s1 s2 s3 s4 s5 s6 s7) w 50 (v8 a b c d e f g h))).isSome = true := by rw [iter_succ, r50]; exact rnd_some fun a b c d e f g h => h51 sched w a b c d e f g h s0 s1 s2 s3 s4 s5 s6 s7
theorem h49 : (iter (LM sched (KM sched)) 21 (SM (v8 s0 s1 s2 s3 s4 s5 s6 s7) w 49 (v8 a b c d e f g h))).isSome = true := by rw [iter_succ, r49]; exact rnd_some fun a b c d e f g h => h50 sched w a b c d e f g h s0 s1 s2 s3 s4 s5 s6 s7
theorem h48 : (iter (LM sched (KM sched)) 22 (SM (v8 s0 s1 s2 s3 s4 s5 s6 s7) w 48 (v8 a b c d e f g h))).isSome = true := by rw [iter_succ, r48]; exact rnd_some fun a b c d e f g h => h49 sched w a b c d e f g h s0 s1 s2 s3 s4 s5 s6 s7
theorem h47 : (iter (LM sched (KM sched)) 23 (SM (v8 s0 s1 s2 s3 s4 s5 s6 s7) w 47 (v8 a b c d e f g h))).isSome = true := by rw [iter_succ, r47]; exact rnd_some fun a b c d e f g h => h48 sched w a b c d e f g h s0 s1 s2 s3 s4 s5 s6 s7
theorem h46 : (iter (LM sched (KM sched)) 24 (SM (v8 s0 s1 s2 s3 s4 s5 s6 s7) w 46 (v8 a b c d e f g h))).isSome = true := by rw [iter_succ, r46]; exact rnd_some fun a b c d e f g h => h47 sched w a b c d e f g h s0 s1 s2 s3 s4 s5 s6 s7
theorem h45 : (iter (LM sched (KM sched)) 25 (SM (v8 s0 s1 s2 s3 s4 s5 s6 s7) w 45 (v8 a b c d e f g h))).isSome = true := by rw [iter_succ, r45]; exact rnd_some fun a b c d e f g h => h46 sched w a b c d e f g h s0 s1 s2 s3 s4 s5 s6 s7
theorem h44 : (iter (LM sched (KM sched)) 26 (SM (v8 s0 s1 s2 s3 s4 s5 s6 s7) w 44 (v8 a b c d e f g h))).isSome = true := by rw [iter_succ, r44]; exact rnd_some fun a b c d e f g h => h45 sched w a b c d e f g h s0 s1 s2 s3 s4 s5 s6 s7
theorem h43 : (iter (LM sched (KM sched)) 27 (SM (v8 s0 s1 s2 s3 s4 s5 s6 s7) w 43 (v8 a b c d e f g h))).isSome = true := by rw [iter_succ, r43]; exact rnd_some fun a b c d e f g h => h44 sched w a b c d e f g h s0 s1 s2 s3 s4 s5 s6 s7
theorem h42 : (iter (LM sched (KM sched)) 28 (SM (v8 s0 s1 s2 s3 s4 s5 s6 s7) w 42 (v8 a b c d e f g h))).isSome = true := by rw [iter_succ, r42]; exact rnd_some fun a b c d e f g h => h43 sched w a b c d e f g h s0 s1 s2 s3 s4 s5 s6 s7
theorem h41 : (iter (LM sched (KM sched)) 29 (SM (v8 s0 s1 s2 s3 s4 s5 s6 s7) w 41 (v8 a b c d e f g h))).isSome = true := by rw [iter_succ, r41]; exact rnd_some fun a b c d e f g h => h42 sched w a b c d e f g h s0 s1 s2 s3 s4 s5 s6 s7
theorem h40 : (iter (LM sched (KM sched)) 30 (SM (v8 s0 s1 s2 s3 s4 s5 s6 s7) w 40 (v8 a b c d e f g h))).isSome = true := by rw [iter_succ, r40]; exact rnd_some fun a b c d e f g h => h41 sched w a b c d e f g h s0 s1 s2 s3 s4 s5 s6 s7
theorem h39 : (iter (LM sched (KM sched)) 31 (SM (v8 s0 s1 s2 s3 s4 s5 s6 s7) w 39 (v8 a b c d e f g h))).isSome = true := by rw [iter_succ, r39]; exact rnd_some fun a b c d e f g h => h40 sched w a b c d e f g h s0 s1 s2 s3 s4 s5 s6 s7
theorem h38 : (iter (LM sched (KM sched)) 32 (SM (v8 s0 s1 s2 s3 s4 s5 s6 s7) w 38 (v8 a b c d e f g h))).isSome = true := by rw [iter_succ, r38]; exact rnd_some fun a b c d e f g h => h39 sched w a b c d e f g h s0 s1 s2 s3 s4 s5 s6 s7
theorem h37 : (iter (LM sched (KM sched)) 33 (SM (v8 s0 s1 s2 s3 s4 s5 s6 s7) w 37 (v8 a b c d e f g h))).isSome = true := by rw [iter_succ, r37]; exact rnd_some fun a b c d e f g h => h38 sched w a b c d e f g h s0 s1 s2 s3 s4 s5 s6 s7
theorem h36 : (iter (LM sched (KM sched)) 34 (SM (v8 s0 s1 s2 s3 s4 s5 s6 s7) w 36 (v8 a b c d e f g h))).isSome = true := by rw [iter_succ, r36]; exact rnd_some fun a b c d e f g h => h37 sched w a b c d e f g h s0 s1 s2 s3 s4 s5 s6 s7
theorem h35 : (iter (LM sched (KM sched)) 35 (SM (v8 s0 s1 s2 s3 s4 s5 s6 s7) w 35 (v8 a b c d e f g h))).isSome = true := by rw [iter_succ, r35]; exact rnd_some fun a b c d e f g h => h36 sched w a b c d e f g h s0 s1 s2 s3 s4 s5 s6 s7
theorem h34 : (iter (LM sched (KM sched)) 36 (SM (v8 s0 s1 s2 s3 s4 s5 s6 s7) w 34 (v8 a b c d e f g h))).isSome = true := by rw [iter_succ, r34]; exact rnd_some fun a b c d e f g h => h35 sched w a b c d e f g h s0 s1 s2 s3 s4 s5 s6 s7
theorem h33 : (iter (LM sched (KM sched)) 37 (SM (v8 s0 s1 s2 s3 s4 s5 s6 s7) w 33 (v8 a b c d e f g h))).isSome = true := by rw [iter_succ, r33]; exact rnd_some fun a b c d e f g h => h34 sched w a b c d e f g h s0 s1 s2 s3 s4 s5 s6 s7
theorem h32 : (iter (LM sched (KM sched)) 38 (SM (v8 s0 s1 s2 s3 s4 s5 s6 s7) w 32 (v8 a b c d e f g h))).isSome = true := by rw [iter_succ, r32]; exact rnd_some fun a b c d e f g h => h33 sched w a b c d e f g h s0 s1 s2 s3 s4 s5 s6 s7
theorem h31 : (iter (LM sched (KM sched)) 39 (SM (v8 s0 s1 s2 s3 s4 s5 s6 s7) w 31 (v8 a b c d e f g h))).isSome = true := by rw [iter_succ, r31]; exact rnd_some fun a b c d e f g h => h32 sched w a b c d e f g h s0 s1 s2 s3 s4 s5 s6 s7
theorem h30 : (iter (LM sched (KM sched)) 40 (SM (v8 s0 s1 s2 s3 s4 s5 s6 s7) w 30 (v8 a b c d e f g h))).isSome = true := by rw [iter_succ, r30]; exact rnd_some fun a b c d e f g h => h31 sched w a b c d e f g h s0 s1 s2 s3 s4 s5 s6 s7
theorem h29 : (iter (LM sched (KM sched)) 41 (SM (v8 s0 s1 s2 s3 s4 s5 s6 s7) w 29 (v8 a b c d e f g h))).isSome = true := by rw [iter_succ, r29]; exact rnd_some fun a b c d e f g h => h30 sched w a b c d e f g h s0 s1 s2 s3 s4 s5 s6 s7
theorem h28 : (iter (LM sched (KM sched)) 42 (SM (v8 s0 s1 s2 s3 s4 s5 s6 s7) w 28 (v8 a b c d e f g h))).isSome = true := by rw [iter_succ, r28]; exact rnd_some fun a b c d e f g h => h29 sched w a b c d e f g h s0 s1 s2 s3 s4 s5 s6 s7
theorem h27 : (iter (LM sched (KM sched)) 43 (SM (v8 s0 s1 s2 s3 s4 s5 s6 s7) w 27 (v8 a b c d e f g h))).isSome = true := by rw [iter_succ, r27]; exact rnd_some fun a b c d e f g h => h28 sched w a b c d e f g h s0 s1 s2 s3 s4 s5 s6 s7
theorem h26 : (iter (LM sched (KM sched)) 44 (SM (v8 s0 s1 s2 s3 s4 s5 s6 s7) w 26 (v8 a b c d e f g h))).isSome = true := by rw [iter_succ, r26]; exact rnd_some fun a b c d e f g h => h27 sched w a b c d e f g h s0 s1 s2 s3 s4 s5 s6 s7
theorem h25 : (iter (LM sched (KM sched)) 45 (SM (v8 s0 s1 s2 s3 s4 s5 s6 s7) w 25 (v8 a b c d e f g h))).isSome = true := by rw [iter_succ, r25]; exact rnd_some fun a b c d e f g h => h26 sched w a b c d e f g h s0 s1 s2 s3 s4 s5 s6 s7
theorem h24 : (iter (LM sched (KM sched)) 46 (SM (v8 s0 s1 s2 s3 s4 s5 s6 s7) w 24 (v8 a b c d e f g h))).isSome = true := by rw [iter_succ, r24]; exact rnd_some fun a b c d e f g h => h25 sched w a b c d e f g h s0 s1 s2 s3 s4 s5 s6 s7
theorem h23 : (iter (LM sched (KM sched)) 47 (SM (v8 s0 s1 s2 s3 s4 s5 s6 s7) w 23 (v8 a b c d e f g h))).isSome = true := by rw [iter_succ, r23]; exact rnd_some fun a b c d e f g h => h24 sched w a b c d e f g h s0 s1 s2 s3 s4 s5 s6 s7
theorem h22 : (iter (LM sched (KM sched)) 48 (SM (v8 s0 s1 s2 s3 s4 s5 s6 s7) w 22 (v8 a b c d e f g h))).isSome = true := by rw [iter_succ, r22]; exact rnd_some fun a b c d e f g h => h23 sched w a b c d e f g h s0 s1 s2 s3 s4 s5 s6 s7
theorem h21 : (iter (LM sched (KM sched)) 49 (SM (v8 s0 s1 s2 s3 s4 s5 s6 s7) w 21 (v8 a b c d e f g h))).isSome = true := by rw [iter_succ, r21]; exact rnd_some fun a b c d e f g h => h22 sched w a b c d e f g h s0 s1 s2 s3 s4 s5 s6 s7
theorem h20 : (iter (LM sched (KM sched)) 50 (SM (v8 s0 s1 s2 s3 s4 s5 s6 s7) w 20 (v8 a b c d e f g h))).isSome = true := by rw [iter_succ, r20]; exact rnd_some fun a b c d e f g h => h21 sched w a b c d e f g h s0 s1 s2 s3 s4 s5 s6 s7
theorem h19 : (iter (LM sched (KM sched)) 51 (SM (v8 s0 s1 s2 s3 s4 s5 s6 s7) w 19 (v8 a b c d e f g h))).isSome = true := by rw [iter_succ, r19]; exact rnd_some fun a b c d e f g h => h20 sched w a b c d e f g h s0 s1 s2 s3 s4 s5 s6 s7
theorem h18 : (iter (LM sched (KM sched)) 52 (SM (v8 s0 s1 s2 s3 s4 s5 s6 s7) w 18 (v8 a b c d e f g h))).isSome = true := by rw [iter_succ, r18]; exact rnd_some fun a b c d e f g h => h19 sched w a b c d e f g h s0 s1 s2 s3 s4 s5 s6 s7
theorem h17 : (iter (LM sched (KM sched)) 53 (SM (v8 s0 s1 s2 s3 s4 s5 s6 s7) w 17 (v8 a b c d e f g h))).isSome = true := by rw [iter_succ, r17]; exact rnd_some fun a b c d e f g h => h18 sched w a b c d e f g h s0 s1 s2 s3 s4 s5 s6 s7
theorem h16 : (iter (LM sched (KM sched)) 54 (SM (v8 s0 s1 s2 s3 s4 s5 s6 s7) w 16 (v8 a b c d e f g h))).isSome = true := by rw [iter_succ, r16]; exact rnd_some fun a b c d e f g h => h17 sched w a b c d e f g h s0 s1 s2 s3 s4 s5 s6 s7
theorem h15 : (iter (LM sched (KM sched)) 55 (SM (v8 s0 s1 s2 s3 s4 s5 s6 s7) w 15 (v8 a b c d e f g h))).isSome = true := by rw [iter_succ, r15]; exact rnd_some fun a b c d e f g h => h16 sched w a b c d e f g h s0 s1 s2 s3 s4 s5 s6 s7
theorem h14 : (iter (LM sched (KM sched)) 56 (SM (v8 s0 s1 s2 s3 s4 s5 s6 s7) w 14 (v8 a b c d e f g h))).isSome = true := by rw [iter_succ, r14]; exact rnd_some fun a b c d e f g h => h15 sched w a b c d e f g h s0 s1 s2 s3 s4 s5 s6 s7
theorem h13 : (iter (LM sched (KM sched)) 57 (SM (v8 s0 s1 s2 s3 s4 s5 s6 s7) w 13 (v8 a b c d e f g h))).isSome = true := by rw [iter_succ, r13]; exact rnd_some fun a b c d e f g h => h14 sched w a b c d e f g h s0 s1 s2 s3 s4 s5 s6 s7
theorem h12 : (iter (LM sched (KM sched)) 58 (SM (v8 s0 s1 s2 s3 s4 s5 s6 s7) w 12 (v8 a b c d e f g h))).isSome = true := by rw [iter_succ, r12]; exact rnd_some fun a b c d e f g h => h13 sched w a b c d e f g h s0 s1 s2 s3 s4 s5 s6 s7
theorem h11 : (iter (LM sched (KM sched)) 59 (SM (v8 s0 s1 s2 s3 s4 s5 s6 s7) w 11 (v8 a b c d e f g h))).isSome = true := by rw [iter_succ, r11]; exact rnd_some fun a b c d e f g h => h12 sched w a b c d e f g h s0 s1 s2 s3 s4 s5 s6 s7
theorem h10 : (iter (LM sched (KM sched)) 60 (SM (v8 s0 s1 s2 s3 s4 s5 s6 s7) w 10 (v8 a b c d e f g h))).isSome = true := by rw [iter_succ, r10]; exact rnd_some fun a b c d e f g h => h11 sched w a b c d e f g h s0 s1 s2 s3 s4 s5 s6 s7
theorem h9 : (iter (LM sched (KM sched)) 61 (SM (v8 s0 s1 s2 s3 s4 s5 s6 s7) w 9 (v8 a b c d e f g h))).isSome = true := by rw [iter_succ, r9]; exact rnd_some fun a b c d e f g h => h10 sched w a b c d e f g h s0 s1 s2 s3 s4 s5 s6 s7
theorem h8 : (iter (LM sched (KM sched)) 62 (SM (v8 s0 s1 s2 s3 s4 s5 s6 s7) w 8 (v8 a b c d e f g h))).isSome = true := by rw [iter_succ, r8]; exact rnd_some fun a b c d e f g h => h9 sched w a b c d e f g h s0 s1 s2 s3 s4 s5 s6 s7
theorem h7 : (iter (LM sched (KM sched)) 63 (SM (v8 s0 s1 s2 s3 s4 s5 s6 s7) w 7 (v8 a b c d e f g h))).isSome = true := by rw [iter_succ, r7]; exact rnd_some fun a b c d e f g h => h8 sched w a b c d e f g h s0 s1 s2 s3 s4 s5 s6 s7
theorem h6 : (iter (LM sched (KM sched)) 64 (SM (v8 s0 s1 s2 s3 s4 s5 s6 s7) w 6 (v8 a b c d e f g h))).isSome = true := by rw [iter_succ, r6]; exact rnd_some fun a b c d e f g h => h7 sched w a b c d e f g h s0 s1 s2 s3 s4 s5 s6 s7
theorem h5 : (iter (LM sched (KM sched)) 65 (SM (v8 s0 s1 s2 s3 s4 s5 s6 s7) w 5 (v8 a b c d e f g h))).isSome = true := by rw [iter_succ, r5]; exact rnd_some fun a b c d e f g h => h6 sched w a b c d e f g h s0 s1 s2 s3 s4 s5 s6 s7
theorem h4 : (iter (LM sched (KM sched)) 66 (SM (v8 s0 s1 s2 s3 s4 s5 s6 s7) w 4 (v8 a b c d e f g h))).isSome = true := by rw [iter_succ, r4]; exact rnd_some fun a b c d e f g h => h5 sched w a b c d e f g h s0 s1 s2 s3 s4 s5 s6 s7
theorem h3 : (iter (LM sched (KM sched)) 67 (SM (v8 s0 s1 s2 s3 s4 s5 s6 s7) w 3 (v8 a b c d e f g h))).isSome = true := by rw [iter_succ, r3]; exact rnd_some fun a b c d e f g h => h4 sched w a b c d e f g h s0 s1 s2 s3 s4 s5 s6 s7
theorem h2 : (iter (LM sched (KM sched)) 68 (SM (v8 s0 s1 s2 s3 s4 s5 s6 s7) w 2 (v8 a b c d e f g h))).isSome = true := by rw [iter_succ, r2]; exact rnd_some fun a b c d e f g h => h3 sched w a b c d e f g h s0 s1 s2 s3 s4 s5 s6 s7
theorem h1 : (iter (LM sched (KM sched)) 69 (SM (v8 s0 s1 s2 s3 s4 s5 s6 s7) w 1 (v8 a b c d e f g h))).isSome = true := by rw [iter_succ, r1]; exact rnd_some fun a b c d e f g h => h2 sched w a b c d e f g h s0 s1 s2 s3 s4 s5 s6 s7
theorem h0 : (iter (LM sched (KM sched)) 70 (SM (v8 s0 s1 s2 s3 s4 s5 s6 s7) w 0 (v8 a b c d e f g h))).isSome = true := by rw [iter_succ, r0]; exact rnd_some fun a b c d e f g h => h1 sched w a b c d e f g h s0 s1 s2 s3 s4 s5 s6 s7
theorem mixed_some {blk : List UInt8} (hs : (sched blk).isSome = true) : (run TY (FM sched) 70 hM 20 Tryz.f112 [.agg (u32s 7)] [.agg (v8 a b c d e f g h), .one (.c .str blk)]).isSome = true := by
  rw [mixed_run]
  exact bind_some hs fun W => h0 sched _ _ _ _ _ _ _ _ _ _ _ _ _ _ _ _ _
end
end Go.AM
