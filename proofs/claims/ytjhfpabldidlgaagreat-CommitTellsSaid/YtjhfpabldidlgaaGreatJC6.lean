/- The texts Ak, Al, Au, Av, Aw, Tl, Ap, Aq, Ar, Ax, Dg, Dh, Ba, Di, Am35, Dj, Dk, Rm, Rp, Rs, joined. -/
import Derived.Carry
import Derived.Test.YtjhfpabldidlgaaGreatJC5

set_option linter.all false
set_option maxRecDepth 100000
set_option maxHeartbeats 8000000
namespace Go.Proofs.YtjhfpabldidlgaaGreat.AM
open Go Go.RowKit

theorem RV.dCells {φ : Nat → Option Loc} {S : Nat → Prop} {H : Heap} {w : World} {ds : List D} {c : Value} (h : RV φ S H w (.agg (ds.map V.d)) c) : RV φ S H w (.d (.agg ds)) c := by
  cases h with
  | agg _ cs hl hh =>
    refine .d _ _ (.agg ds cs (by simpa using hl) (fun i d c hd hc => ?_))
    have := hh i (.d d) c (by simp [hd]) hc
    cases this; assumption
theorem RSpec.structArg {f : Nat} {v0 : V} {ds : List D} {H H1 : Heap} {r : V} (h : RSpec Tryz.prog f [v0, .d (.agg ds)] H r H1) : RSpec Tryz.prog f [v0, .agg (ds.map V.d)] H r H1 :=
  ⟨h.1, fun C φ S w cs hH hv => h.2 C φ S w cs hH ⟨by have := hv.len; simpa using this, fun i v c hi hc => by
    match i, hi with
    | 0, hi => exact hv.at_ 0 v c hi hc
    | 1, hi =>
      obtain rfl : _ = v := by simpa using hi
      exact RV.dCells (hv.at_ 1 _ c rfl hc)⟩⟩

structure StpOk (t : Ty) (h : List (Bool × Int)) (r : List (Int × Int)) (x : St) : Prop where
  hl : h.length ≤ 1000000
  htb : tableR r = true
  hreg : t.regs.length = 8
  hpc : 0 ≤ t.pc ∧ t.pc ≤ 1000000
  hrd : readsR t.reads = true
  hrl : t.reads.length < 24
  h1 : t.log.1.length ≤ 1000000
  h2 : t.log.2.length ≤ 1000000
  hf : t.frames.length ≤ 1000000
  hp : t.path.length ≤ 1000000
  hfr : ∀ f, t.frames.getLast? = some f → 0 ≤ f.long ∧ f.long ≤ t.path.length
  htl : x.t.length ≤ 1000000
  may : mayS x = true

theorem r_x_do (t : Ty) (h : List (Bool × Int)) (r : List (Int × Int)) (x : St) (k : StpOk t h r x) : RSpec Tryz.prog 64 [.ptr 0 0 0, .d (dS x)] [bX t h r] (.tuple []) [bX (doT t x h r) h r] := by
  obtain ⟨hl, htb, hreg, hpc, hrd, hrl, h1, h2, hf, hp, hfr, htl, may⟩ := k
  obtain ⟨g4, g7⟩ := mayS_rng may
  have hwp : IntKind.i64.wrap (t.pc + 1) = t.pc + 1 := by rw [wrap_in (by omega)]
  by_cases d1 : x.d = 1
  case pos =>
    have e1 : (x.d == 1) = true := by simpa using d1
    have hst : doT t x h r = loadT t x h r := by unfold doT; rw [if_pos d1]
    rw [hst]
    have ha : 0 ≤ x.a ∧ x.a < 8 := by unfold mayS belowI at may; rw [if_pos d1] at may; simp at may; omega
    have hr := r_x_load t h r x hl htb hreg ha hpc hrd hrl
    simp only [dS] at hr
    replace hr := RSpec.structArg hr
    simp only [List.map_cons, List.map_nil] at hr
    unfold bX at hr
    refine RSpec.of_awp envOf_ok hmix Tryz.func64 rfl (fun args w => Tryz.call64 args w) (by simp [Tryz.f64]) ?_
    simp only [Tryz.f64]
    simp (maxSteps := 2000000) -implicitDefEqProofs only [zz, zE, evop, ev, ofVal, tget, tput, ok, V.isUndef, intBin, Ch.on, calleeOf, withArgs, told, hget, hput, V.cells, structAt, isPtr, Blk.width, resOf, resVs, ↓reduceIte, reduceCtorEq, Nat.reduceLT, Nat.reduceEqDiff, Nat.reduceAdd, Nat.reduceLeDiff, nilTest, initV, dS]
    unfold bX
    simp (maxSteps := 2000000) -implicitDefEqProofs only [↓reduceIte, e1]
    refine acall_ref [0] (hr) (by first | rfl | simp [renL, V.ren, frρ, renL_ds]) (by simp) rfl (by simp) (by simp) (by intro j hj; match j, hj with | 0, _ => exact ⟨by simp [hget], rfl⟩) ?_
    try simp (maxSteps := 2000000) -implicitDefEqProofs only [zz, tput, hput, resOf, resVs, ↓reduceIte, Nat.reduceLT, Nat.reduceAdd, Blk.ren, V.ren, renL, frameH, putL]
    exact Weak.trimsM 1 (by simp) rfl (by simp [tget, V.lower, lowerL]) (by simp [Blk.lower, lowerL, V.lower])
  have e1 : (x.d == 1) = false := by simpa using d1
  by_cases d2 : x.d = 2
  case pos =>
    have e2 : (x.d == 2) = true := by simpa using d2
    have hst : doT t x h r = putT t x.a (tellT t h x.t) := by unfold doT; rw [if_neg d1, if_pos d2]
    rw [hst]
    have ha : 0 ≤ x.a ∧ x.a < 8 := by unfold mayS belowI at may; rw [if_neg d1, if_pos d2] at may; simp at may; omega
    have hr := r_x_put t h r x.a (tellT t h x.t) hreg ha hpc
    have ht := r_x_tell t h r x.t hl htl
    unfold bX at ht
    unfold bX at hr
    refine RSpec.of_awp envOf_ok hmix Tryz.func64 rfl (fun args w => Tryz.call64 args w) (by simp [Tryz.f64]) ?_
    simp only [Tryz.f64]
    simp (maxSteps := 2000000) -implicitDefEqProofs only [zz, zE, evop, ev, ofVal, tget, tput, ok, V.isUndef, intBin, Ch.on, calleeOf, withArgs, told, hget, hput, V.cells, structAt, isPtr, Blk.width, resOf, resVs, ↓reduceIte, reduceCtorEq, Nat.reduceLT, Nat.reduceEqDiff, Nat.reduceAdd, Nat.reduceLeDiff, nilTest, initV, dS]
    unfold bX
    simp (maxSteps := 2000000) -implicitDefEqProofs only [zz, ↓reduceIte, e1, e2]
    refine wdraw_plan [⟨[], false, [14, 15, 16, 17, 18, 19], [], false⟩, ⟨[], false, [13, 16, 17, 18, 19], [0], false⟩, ⟨[1], false, [13, 16, 17, 18, 19], [0], false⟩, ⟨[], false, [13, 14, 15, 17, 18], [0, 1, 2], false⟩, ⟨[], false, [13, 14, 15, 16], [0, 1, 2, 3], false⟩, ⟨[4], false, [13, 14, 15, 16], [0, 1, 2, 3], false⟩, ⟨[3, 4, 5], false, [13, 14, 15], [0, 1, 2], false⟩, ⟨[0, 1, 2, 3, 4, 5, 6], true, [], [], false⟩] (by decide) ?_
    simp (maxSteps := 2000000) -implicitDefEqProofs only [zz, zE, evop, ev, ofVal, tget, tput, ok, V.isUndef, calleeOf, withArgs, hget, hput, D.cells, loadD, structAt, Blk.width, ↓reduceIte, reduceCtorEq, Nat.reduceLT, Nat.reduceEqDiff, Nat.reduceAdd, Nat.reduceLeDiff]
    refine dcall_ref0 [0] (ht) (fun k => by first | rfl | simp [renL, V.ren, frρ, renL_ds]) (fun k => rfl) (by simp) rfl (by intro j hj; match j, hj with | 0, _ => exact ⟨by simp [hget], by simp [hget, frρ], fun k => rfl⟩) ?_
    try simp (maxSteps := 2000000) -implicitDefEqProofs only [zz]
    refine acall_ref [0] (hr) (by first | rfl | simp [renL, V.ren, frρ, renL_ds]) (by simp) rfl (by simp) (by simp) (by intro j hj; match j, hj with | 0, _ => exact ⟨by simp [hget], rfl⟩) ?_
    try simp (maxSteps := 2000000) -implicitDefEqProofs only [zz, tput, hput, resOf, resVs, ↓reduceIte, Nat.reduceLT, Nat.reduceAdd, Blk.ren, V.ren, renL, frameH, putL]
    exact Weak.trimsM 1 (by simp) rfl (by simp [tget, V.lower, lowerL]) (by simp [Blk.lower, lowerL, V.lower])
  have e2 : (x.d == 2) = false := by simpa using d2
  by_cases d3 : x.d = 3
  case pos =>
    have e3 : (x.d == 3) = true := by simpa using d3
    have hst : doT t x h r = storeT t x h := by unfold doT; rw [if_neg d1, if_neg d2, if_pos d3]
    rw [hst]
    have hr := r_x_store t h r x hl htl h1 h2 hpc
    simp only [dS] at hr
    replace hr := RSpec.structArg hr
    simp only [List.map_cons, List.map_nil] at hr
    unfold bX at hr
    refine RSpec.of_awp envOf_ok hmix Tryz.func64 rfl (fun args w => Tryz.call64 args w) (by simp [Tryz.f64]) ?_
    simp only [Tryz.f64]
    simp (maxSteps := 2000000) -implicitDefEqProofs only [zz, zE, evop, ev, ofVal, tget, tput, ok, V.isUndef, intBin, Ch.on, calleeOf, withArgs, told, hget, hput, V.cells, structAt, isPtr, Blk.width, resOf, resVs, ↓reduceIte, reduceCtorEq, Nat.reduceLT, Nat.reduceEqDiff, Nat.reduceAdd, Nat.reduceLeDiff, nilTest, initV, dS]
    unfold bX
    simp (maxSteps := 2000000) -implicitDefEqProofs only [zz, ↓reduceIte, e1, e2, e3]
    refine acall_ref [0] (hr) (by first | rfl | simp [renL, V.ren, frρ, renL_ds]) (by simp) rfl (by simp) (by simp) (by intro j hj; match j, hj with | 0, _ => exact ⟨by simp [hget], rfl⟩) ?_
    try simp (maxSteps := 2000000) -implicitDefEqProofs only [zz, tput, hput, resOf, resVs, ↓reduceIte, Nat.reduceLT, Nat.reduceAdd, Blk.ren, V.ren, renL, frameH, putL]
    exact Weak.trimsM 1 (by simp) rfl (by simp [tget, V.lower, lowerL]) (by simp [Blk.lower, lowerL, V.lower])
  have e3 : (x.d == 3) = false := by simpa using d3
  by_cases d4 : x.d = 4
  case pos =>
    have e4 : (x.d == 4) = true := by simpa using d4
    have hst : doT t x h r = skipT t x h := by unfold doT; rw [if_neg d1, if_neg d2, if_neg d3, if_pos d4]
    rw [hst]
    have hr := r_x_tell { t with pc := t.pc + 1 } h r x.t hl htl
    have htt : tellT { t with pc := t.pc + 1 } h x.t = tellT t h x.t := rfl
    rw [htt] at hr
    have hws : IntKind.i64.wrap (t.pc + 1 + x.a) = t.pc + 1 + x.a := by have := g4 d4; rw [wrap_in (by omega)]
    unfold bX at hr
    refine RSpec.of_awp envOf_ok hmix Tryz.func64 rfl (fun args w => Tryz.call64 args w) (by simp [Tryz.f64]) ?_
    simp only [Tryz.f64]
    simp (maxSteps := 2000000) -implicitDefEqProofs only [zz, zE, evop, ev, ofVal, tget, tput, ok, V.isUndef, intBin, Ch.on, calleeOf, withArgs, told, hget, hput, V.cells, structAt, isPtr, Blk.width, resOf, resVs, ↓reduceIte, reduceCtorEq, Nat.reduceLT, Nat.reduceEqDiff, Nat.reduceAdd, Nat.reduceLeDiff, nilTest, initV, dS]
    unfold bX
    simp (maxSteps := 2000000) -implicitDefEqProofs only [zz, zE, evop, ev, ofVal, tget, tput, ok, V.isUndef, intBin, Ch.on, calleeOf, withArgs, hget, hput, V.cells, V.one, structAt, isPtr, Blk.width, splice, ↓reduceIte, reduceCtorEq, Nat.reduceLT, Nat.reduceEqDiff, Nat.reduceAdd, Nat.reduceLeDiff, nilTest, e1, e2, e3, e4, hwp]
    refine acall_ref [0] (hr) (by first | rfl | simp [renL, V.ren, frρ, renL_ds]) (by simp) rfl (by simp) (by simp) (by intro j hj; match j, hj with | 0, _ => exact ⟨by simp [hget], rfl⟩) ?_
    try simp (maxSteps := 2000000) -implicitDefEqProofs only [zz, evop, ev, ofVal, tget, tput, intBin, Ch.on, told, hput, resOf, resVs, ↓reduceIte, Nat.reduceLT, Nat.reduceAdd, nilTest, Blk.ren, V.ren, renL, frameH, putL]
    by_cases hz : tellT t h x.t = 0
    · have ez : (tellT t h x.t == 0) = true := by simpa using hz
      have hsk : skipT t x h = { t with pc := t.pc + 1 + x.a } := by unfold skipT; rw [if_pos hz]
      rw [hsk]
      simp (maxSteps := 2000000) -implicitDefEqProofs only [↓reduceIte, ez]
      refine wdraw_plan [⟨[], false, [47, 48], [], false⟩, ⟨[0], false, [47, 48], [], false⟩, ⟨[0, 1], false, [47, 48], [], false⟩, ⟨[0, 1, 2], false, [47, 48], [], false⟩, ⟨[0, 1, 2, 3], false, [47, 48], [], false⟩, ⟨[], false, [42, 43, 44, 45, 46], [0, 1, 2, 3, 4], false⟩, ⟨[5], false, [42, 43, 44, 45, 46], [0, 1, 2, 3, 4], false⟩, ⟨[0, 1, 2, 3, 4, 5, 6], true, [], [], false⟩, ⟨[0, 1, 2, 3, 4, 5, 6, 7], true, [], [], false⟩, ⟨[0, 1, 2, 3, 4, 5, 6, 7, 8], true, [], [], false⟩, ⟨[0, 1, 2, 3, 4, 5, 6, 7, 8, 9], true, [], [], false⟩, ⟨[0, 1, 2, 3, 4, 5, 6, 7, 8, 9, 10], true, [], [], false⟩] (by decide) ?_
      simp (maxSteps := 2000000) -implicitDefEqProofs only [zz, zE, evop, ev, tget, tput, ok, V.isUndef, intBin, Ch.on, hget, hput, V.cells, D.cells, V.isAgg, V.one, loadD, structAt, isPtr, Blk.width, splice, resOf, resVs, ↓reduceIte, reduceCtorEq, Nat.reduceLT, Nat.reduceEqDiff, Nat.reduceAdd, Nat.reduceLeDiff, hws]
      exact Weak.trimsM 1 (by simp) rfl (by simp [tget, V.lower, lowerL]) (by simp [Blk.lower, lowerL, V.lower])
    have ez : (tellT t h x.t == 0) = false := by simpa using hz
    have hsk : skipT t x h = { t with pc := t.pc + 1 } := by unfold skipT; rw [if_neg hz]
    rw [hsk]
    simp (maxSteps := 2000000) -implicitDefEqProofs only [zz, ↓reduceIte, ez]
    exact Weak.trimsM 1 (by simp) rfl (by simp [tget, V.lower, lowerL]) (by simp [Blk.lower, lowerL, V.lower])
  have e4 : (x.d == 4) = false := by simpa using d4
  by_cases d5 : x.d = 5
  case pos =>
    have e5 : (x.d == 5) = true := by simpa using d5
    have hst : doT t x h r = agT t := by unfold doT; rw [if_neg d1, if_neg d2, if_neg d3, if_neg d4, if_pos d5]
    rw [hst]
    have hr := r_x_again t h r h1 h2 hf hp hfr
    unfold bX at hr
    refine RSpec.of_awp envOf_ok hmix Tryz.func64 rfl (fun args w => Tryz.call64 args w) (by simp [Tryz.f64]) ?_
    simp only [Tryz.f64]
    simp (maxSteps := 2000000) -implicitDefEqProofs only [zz, zE, evop, ev, ofVal, tget, tput, ok, V.isUndef, intBin, Ch.on, calleeOf, withArgs, told, hget, hput, V.cells, structAt, isPtr, Blk.width, resOf, resVs, ↓reduceIte, reduceCtorEq, Nat.reduceLT, Nat.reduceEqDiff, Nat.reduceAdd, Nat.reduceLeDiff, nilTest, initV, dS]
    unfold bX
    simp (maxSteps := 2000000) -implicitDefEqProofs only [zz, ↓reduceIte, e1, e2, e3, e4, e5]
    refine acall_ref [0] (hr) (by first | rfl | simp [renL, V.ren, frρ, renL_ds]) (by simp) rfl (by simp) (by simp) (by intro j hj; match j, hj with | 0, _ => exact ⟨by simp [hget], rfl⟩) ?_
    try simp (maxSteps := 2000000) -implicitDefEqProofs only [zz, tput, hput, resOf, resVs, ↓reduceIte, Nat.reduceLT, Nat.reduceAdd, Blk.ren, V.ren, renL, frameH, putL]
    exact Weak.trimsM 1 (by simp) rfl (by simp [tget, V.lower, lowerL]) (by simp [Blk.lower, lowerL, V.lower])
  have e5 : (x.d == 5) = false := by simpa using d5
  by_cases d6 : x.d = 6
  case pos =>
    have e6 : (x.d == 6) = true := by simpa using d6
    have hst : doT t x h r = endT t 3 x.a := by unfold doT; rw [if_neg d1, if_neg d2, if_neg d3, if_neg d4, if_neg d5, if_pos d6]
    rw [hst]
    have hr := r_x_end t h r 3 x.a
    unfold bX at hr
    refine RSpec.of_awp envOf_ok hmix Tryz.func64 rfl (fun args w => Tryz.call64 args w) (by simp [Tryz.f64]) ?_
    simp only [Tryz.f64]
    simp (maxSteps := 2000000) -implicitDefEqProofs only [zz, zE, evop, ev, ofVal, tget, tput, ok, V.isUndef, intBin, Ch.on, calleeOf, withArgs, told, hget, hput, V.cells, structAt, isPtr, Blk.width, resOf, resVs, ↓reduceIte, reduceCtorEq, Nat.reduceLT, Nat.reduceEqDiff, Nat.reduceAdd, Nat.reduceLeDiff, nilTest, initV, dS]
    unfold bX
    simp (maxSteps := 2000000) -implicitDefEqProofs only [zz, ↓reduceIte, e1, e2, e3, e4, e5, e6]
    refine acall_ref [0] (hr) (by first | rfl | simp [renL, V.ren, frρ, renL_ds]) (by simp) rfl (by simp) (by simp) (by intro j hj; match j, hj with | 0, _ => exact ⟨by simp [hget], rfl⟩) ?_
    try simp (maxSteps := 2000000) -implicitDefEqProofs only [zz, tput, hput, resOf, resVs, ↓reduceIte, Nat.reduceLT, Nat.reduceAdd, Blk.ren, V.ren, renL, frameH, putL]
    exact Weak.trimsM 1 (by simp) rfl (by simp [tget, V.lower, lowerL]) (by simp [Blk.lower, lowerL, V.lower])
  have e6 : (x.d == 6) = false := by simpa using d6
  have d7 : x.d = 7 := by
    unfold mayS at may
    rw [if_neg d1, if_neg d2, if_neg d3, if_neg d4, if_neg d5, if_neg d6] at may
    simp at may
    omega
  have e7 : (x.d == 7) = true := by simpa using d7
  have hst : doT t x h r = eiT t x := by unfold doT; rw [if_neg d1, if_neg d2, if_neg d3, if_neg d4, if_neg d5, if_neg d6]
  rw [hst]
  have hg := g7 d7
  have hr := r_x_either t h r x h1 h2 hpc ⟨by omega, by omega⟩ ⟨by omega, by omega⟩ hf hp
  simp only [dS] at hr
  replace hr := RSpec.structArg hr
  simp only [List.map_cons, List.map_nil] at hr
  unfold bX at hr
  refine RSpec.of_awp envOf_ok hmix Tryz.func64 rfl (fun args w => Tryz.call64 args w) (by simp [Tryz.f64]) ?_
  simp only [Tryz.f64]
  simp (maxSteps := 2000000) -implicitDefEqProofs only [zz, zE, evop, ev, ofVal, tget, tput, ok, V.isUndef, intBin, Ch.on, calleeOf, withArgs, told, hget, hput, V.cells, structAt, isPtr, Blk.width, resOf, resVs, ↓reduceIte, reduceCtorEq, Nat.reduceLT, Nat.reduceEqDiff, Nat.reduceAdd, Nat.reduceLeDiff, nilTest, initV, dS]
  unfold bX
  simp (maxSteps := 2000000) -implicitDefEqProofs only [zz, ↓reduceIte, e1, e2, e3, e4, e5, e6, e7]
  refine acall_ref [0] (hr) (by first | rfl | simp [renL, V.ren, frρ, renL_ds]) (by simp) rfl (by simp) (by simp) (by intro j hj; match j, hj with | 0, _ => exact ⟨by simp [hget], rfl⟩) ?_
  try simp (maxSteps := 2000000) -implicitDefEqProofs only [zz, tput, hput, resOf, resVs, ↓reduceIte, Nat.reduceLT, Nat.reduceAdd, Blk.ren, V.ren, renL, frameH, putL]
  exact Weak.trimsM 1 (by simp) rfl (by simp [tget, V.lower, lowerL]) (by simp [Blk.lower, lowerL, V.lower])
end Go.Proofs.YtjhfpabldidlgaaGreat.AM

set_option linter.all false
set_option maxRecDepth 100000
set_option maxHeartbeats 8000000
namespace Go.Proofs.YtjhfpabldidlgaaGreat.AM
open Go Go.RowKit

theorem stpOk_of {c : List St} (hc : CodeOk c) {t : Ty} (hi : InvS c t) {h : List (Bool × Int)} {r : List (Int × Int)} (hl : h.length ≤ 1000000) (htl : ∀ s ∈ c, s.t.length ≤ 1000000) (hm : mayT t h r = true) {x : St} (hx : c[t.pc.toNat]? = some x) : StpOk t h r x := by
  simp only [mayT, Bool.and_eq_true, decide_eq_true_eq] at hm
  obtain ⟨⟨hh, hr⟩, hk⟩ := hm
  obtain ⟨a1, a2, a3, a4, a5, a6, a7, a8⟩ := hi.toInvT.lens hc
  obtain ⟨hlt, hst⟩ := hi.run hk
  have hrl := hi.rlen
  have hcl := hc.len
  refine ⟨hl, hr, a1, ⟨a8, by omega⟩, hi.rds, by omega, by omega, by omega, by omega, by omega, fun f hf => ?_, htl x (List.mem_of_getElem? hx), hc.may x (List.mem_of_getElem? hx)⟩
  have hfr := hi.fr
  cases hrv : t.frames.reverse with
  | nil =>
    have : t.frames = [] := by simpa using hrv
    rw [this] at hf; simp at hf
  | cons g fs =>
    obtain ⟨s1, s2, s3, s4, s5⟩ := reverse_split hrv
    rw [s2] at hf
    cases hf
    rw [hrv] at hfr
    obtain ⟨m, e, k, h1, h2, h3, h4, h5, h6, h7, h8, h9⟩ := hfr
    have := (List.getElem?_eq_some_iff.1 h4).1
    rw [h3]
    omega

theorem c_attempt_Step (c : List St) (t : Ty) (h : List (Bool × Int)) (r : List (Int × Int)) (hc : CodeOk c) (hi : InvS c t) (hl : h.length ≤ 1000000) (htl : ∀ s ∈ c, s.t.length ≤ 1000000) :
    CSpec Tryz.prog 20 [dT t, .vec (c.map dS), .vec (h.map dC), .vec (r.map dW)] (.tuple [dT (stepT t c h r), .int .i64 (if mayT t h r = true then 0 else 1)]) := by
  have bad : mayT t h r = false → stepT t c h r = t ∧ (if mayT t h r = true then (0 : Int) else 1) = 1 := fun e => by simp [stepT, e]
  have hpc0 := hi.pc0
  refine CSpec.of_awp envOf_ok hmix Tryz.func20 rfl (fun args w => Tryz.call20 args w) (by simp [Tryz.f20]) ?_
  simp only [Tryz.f20]
  simp (maxSteps := 2000000) -implicitDefEqProofs only [zz, zE, evop, ev, tget, V.isUndef, initT, V.cells, ↓reduceIte, Nat.reduceAdd]
  unfold dT tyC
  simp (maxSteps := 2000000) -implicitDefEqProofs only [zz, zE, evop, ev, ofVal, tget, tput, ok, V.isUndef, Ch.on, calleeOf, withArgs, hput, ↓reduceIte, reduceCtorEq, Nat.reduceLT, Nat.reduceEqDiff]
  refine acall_flat' (c_heap_Right h) rfl ?_
  try simp (maxSteps := 2000000) -implicitDefEqProofs only [zz, zE, evop, ev, ofVal, tget, tput, ok, V.isUndef, guardOf, Ch.on, calleeOf, withArgs, told, xport, xports, hget, hput, V.cells, V.one, splice, resOf, resV, resVs, ↓reduceIte, reduceCtorEq, Nat.reduceLT, Nat.reduceEqDiff, Nat.reduceAdd, Nat.reduceLeDiff]
  cases hh : heapR h with
  | false =>
    obtain ⟨b1, b2⟩ := bad (by simp [mayT, hh])
    rw [b1, b2]
    simp (maxSteps := 2000000) -implicitDefEqProofs only [zz, ↓reduceIte]
  | true =>
    simp (maxSteps := 2000000) -implicitDefEqProofs only [zz, ↓reduceIte]
    refine acall_flat' (c_stripe_Right r) rfl ?_
    try simp (maxSteps := 2000000) -implicitDefEqProofs only [zz, zE, evop, ev, ofVal, tget, tput, ok, V.isUndef, intBin, guardOf, Ch.on, told, xport, xports, hget, hput, V.cells, D.cells, V.one, structAt, sliceOf, partsV, Blk.width, lenOf, splice, resOf, resV, resVs, ↓reduceIte, reduceCtorEq, Nat.reduceLT, Nat.reduceEqDiff, Nat.reduceAdd, Nat.reduceLeDiff, nilTest]
    cases hr : tableR r with
    | false =>
      obtain ⟨b1, b2⟩ := bad (by simp [mayT, hr])
      rw [b1, b2]
      simp (maxSteps := 2000000) -implicitDefEqProofs only [zz, ↓reduceIte]
    | true =>
      by_cases hk : t.kind = 0
      case neg =>
        obtain ⟨b1, b2⟩ := bad (by simp [mayT, hk])
        have ek : (t.kind != 0) = true := by simpa using hk
        rw [b1, b2]
        simp (maxSteps := 2000000) -implicitDefEqProofs only [zz, ↓reduceIte, ek]
      have ek : (t.kind != 0) = false := by simpa using hk
      obtain ⟨hlt, hst⟩ := hi.run hk
      have hmay : mayT t h r = true := by simp [mayT, hh, hr, hk]
      have p1 : ¬ (t.pc < 0) := by omega
      have p2 : ¬ (t.pc ≥ (c.length : Int)) := by omega
      have hx : c[t.pc.toNat]? = some (c[t.pc.toNat]'(by omega)) := List.getElem?_eq_getElem (by omega)
      generalize c[t.pc.toNat]'(by omega) = x at hx
      have hg : stepT t c h r = if (doT t x h r).kind ≠ 0 then doT t x h r else setT c.length (doT t x h r) := by unfold stepT; rw [if_pos hmay]; unfold stpT; rw [hx]
      have hd := r_x_do t h r x (stpOk_of hc hi hl htl hmay hx)
      obtain ⟨inv, _, _, _⟩ := hi.doT hc hmay hx
      obtain ⟨a1, a2, a3, a4, a5, a6, a7, a8⟩ := inv.lens hc
      have hs := c_settled (doT t x h r) c (by omega) (by omega) (by omega)
      rw [hg, if_pos hmay]
      simp only [dS] at hd
      unfold bX at hd
      simp (maxSteps := 2000000) -implicitDefEqProofs only [zz, zE, evop, ev, tget, tput, ok, Ch.on, calleeOf, withArgs, D.cells, loadD, ↓reduceIte, Nat.reduceLT, Nat.reduceEqDiff, Nat.reduceAdd, Nat.reduceLeDiff, dS, ek, p1, p2, List.getElem?_map, hx, Option.map_some, hpc0]
      refine acall_ref [2] (hd) (by first | rfl | simp [renL, V.ren, frρ, renL_ds]) (by simp) rfl (by simp) (by simp) (by intro j hj; match j, hj with | 0, _ => exact ⟨by simp [hget], rfl⟩) ?_
      try simp (maxSteps := 2000000) -implicitDefEqProofs only [zz, zE, evop, ev, ofVal, tget, tput, ok, V.isUndef, intBin, Ch.on, calleeOf, withArgs, told, xport, xports, hget, hput, V.cells, V.one, structAt, isPtr, Blk.width, splice, resOf, resV, resVs, ↓reduceIte, reduceCtorEq, Nat.reduceLT, Nat.reduceEqDiff, Nat.reduceAdd, Nat.reduceLeDiff, nilTest, Blk.ren, V.ren, renL, frameH, putL]
      generalize doT t x h r = u at hs
      by_cases hu : u.kind = 0
      · have eu : (u.kind != 0) = false := by simpa using hu
        have hn := not_not_intro hu
        rw [if_neg hn]
        unfold dT tyC at hs
        simp (maxSteps := 2000000) -implicitDefEqProofs only [zz, ↓reduceIte, eu]
        refine acall_ice' (hs) ?_
        try simp (maxSteps := 2000000) -implicitDefEqProofs only [zz, zE, evop, ev, ofVal, tget, tput, ok, V.isUndef, Ch.on, xport, xports, tids, tidss, hget, hput, freeze, V.cells, V.one, splice, resOf, resV, resVs, ↓reduceIte, Nat.reduceLT, Nat.reduceEqDiff, Nat.reduceAdd, Nat.reduceLeDiff]
      · have eu : (u.kind != 0) = true := by simpa using hu
        rw [if_pos hu]
        simp (maxSteps := 2000000) -implicitDefEqProofs only [↓reduceIte, eu]
end Go.Proofs.YtjhfpabldidlgaaGreat.AM

set_option linter.all false
set_option maxRecDepth 100000
set_option maxHeartbeats 8000000
namespace Go.Proofs.YtjhfpabldidlgaaGreat.AM
open Go Go.RowKit

def smallC (c : List St) : Int := if (c.any fun s => decide (20 < s.t.length)) = true ∨ 40 < c.length then -1 else c.length
theorem smallC_0 {c : List St} (h : ¬ smallC c < 0) : c.length ≤ 40 ∧ ∀ s ∈ c, s.t.length ≤ 20 := by
  unfold smallC at h
  split at h
  · simp at h
  · rename_i h1
    simp only [not_or, List.any_eq_true, decide_eq_true_eq, not_exists, not_and, Nat.not_lt] at h1
    exact ⟨h1.2, h1.1⟩

theorem c_law08_Small (c : List St) (hl : c.length ≤ 9223372036854775807) : CSpec Tryz.prog 12 [.vec (c.map dS)] (.int .i64 (smallC c)) := by
  refine CSpec.of_awp envOf_ok hmix Tryz.func12 rfl (fun args w => Tryz.call12 args w) (by simp [Tryz.f12]) ?_
  simp only [Tryz.f12]
  simp (maxSteps := 2000000) -implicitDefEqProofs only [zz, zE, evop, ev, ofVal, tget, tput, ok, V.isUndef, initT, Ch.on, sliceOf, lenOf, ↓reduceIte, reduceCtorEq, Nat.reduceLT, Int.reduceNeg]
  refine wloop_count c.length (fun i => [(7, .d (.int .i64 i)), (6, .d (.int .i64 c.length)), (5, .d (.vec (c.map dS))), (0, .d (.vec (c.map dS)))]) (fun _ => []) (fun i => ∀ (j : Nat) (x : St), j < i → c[j]? = some x → x.t.length ≤ 20) (fun j x hj => by omega) (Weak.sub (by simp [tget])) (fun i hi hI => ?_) (fun hI => ?_)
  · have hx : c[i]? = some c[i] := List.getElem?_eq_getElem hi
    have h' : ((i : Int) < (c.length : Int)) := by omega
    have hw : IntKind.i64.wrap ((i : Int) + 1) = ((i + 1 : Nat) : Int) := by rw [wrap_in (by omega)]; omega
    simp (maxSteps := 2000000) -implicitDefEqProofs only [zz, zE, evop, ev, ofVal, tget, tput, ok, V.isUndef, intBin, Ch.on, told, xport, hget, hput, V.cells, D.cells, V.one, loadD, structAt, sliceOf, Blk.width, lenOf, splice, resOf, resV, resVs, ↓reduceIte, reduceCtorEq, Nat.reduceLT, Nat.reduceEqDiff, Nat.reduceAdd, Nat.reduceLeDiff, Int.reduceNeg, nilTest, dS, h', List.getElem?_map, hx, Option.map_some, Int.natCast_nonneg, hw]
    by_cases h20 : ((c[i].t.length : Int) > 20)
    · simp (maxSteps := 2000000) -implicitDefEqProofs only [↓reduceIte, Int.reduceNeg, h20]
      have : (c.any fun s => decide (20 < s.t.length)) = true := List.any_eq_true.2 ⟨_, List.getElem_mem hi, by simp; omega⟩
      simp [smallC, this]
    · simp (maxSteps := 2000000) -implicitDefEqProofs only [zz, ↓reduceIte, h20]
      refine ⟨fun j x hj hxj => ?_, Weak.trims 0 rfl (by simp [tget, V.lower]) (by simp)⟩
      by_cases e : j = i
      · subst e; rw [hx] at hxj; cases hxj; omega
      · exact hI j x (by omega) hxj
  · have h' : ¬ ((c.length : Int) < (c.length : Int)) := by omega
    have hany : (c.any fun s => decide (20 < s.t.length)) = false := by
      rw [List.any_eq_false]
      intro x hx
      obtain ⟨j, hj, rfl⟩ := List.getElem_of_mem hx
      have := hI j _ hj (List.getElem?_eq_getElem hj)
      simp; omega
    by_cases h40 : ((c.length : Int) > 40)
    · simp (maxSteps := 2000000) -implicitDefEqProofs only [zz, zE, evop, ev, ofVal, tget, tput, ok, V.isUndef, intBin, Ch.on, told, xport, sliceOf, lenOf, resOf, resV, resVs, ↓reduceIte, reduceCtorEq, Nat.reduceLT, Nat.reduceEqDiff, Int.reduceNeg, nilTest, h', h40]
      have : 40 < c.length := by omega
      simp [smallC, this]
    · simp (maxSteps := 2000000) -implicitDefEqProofs only [zz, zE, evop, ev, ofVal, tget, tput, ok, V.isUndef, intBin, Ch.on, told, xport, sliceOf, lenOf, resOf, resV, resVs, ↓reduceIte, reduceCtorEq, Nat.reduceLT, Nat.reduceEqDiff, Int.reduceNeg, nilTest, h', h40]
      have : ¬ 40 < c.length := by omega
      simp [smallC, this, hany]

end Go.Proofs.YtjhfpabldidlgaaGreat.AM

set_option linter.all false
set_option maxRecDepth 100000
set_option maxHeartbeats 8000000
namespace Go.Proofs.YtjhfpabldidlgaaGreat.AM
open Go Go.RowKit

def itT (c : List St) (h : List (Bool × Int)) (r : List (Int × Int)) : Nat → Ty → Ty × Nat
  | 0, t => (t, 0)
  | k + 1, t => if t.kind = 0 then ((itT c h r k (stpT t c h r)).1, (itT c h r k (stpT t c h r)).2 + 1) else (t, 0)
def okW (h : List (Bool × Int)) (r : List (Int × Int)) : Bool := heapR h && tableR r
def runT (t : Ty) (c : List St) (h : List (Bool × Int)) (r : List (Int × Int)) : Ty × Nat := itT c h r (c.length + 1) t

theorem itT_stop {c : List St} {h : List (Bool × Int)} {r : List (Int × Int)} {k : Nat} {t : Ty} (hk : t.kind ≠ 0) : itT c h r k t = (t, 0) := by
  cases k with
  | zero => rfl
  | succ k => rw [itT, if_neg hk]

theorem itT_ok {c : List St} (hc : CodeOk c) {h : List (Bool × Int)} {r : List (Int × Int)} (hw : okW h r = true) : ∀ (k : Nat) (t : Ty), InvS c t → (c.length : Int) - t.pc < k → InvS c (itT c h r k t).1 ∧ (itT c h r k t).1.kind ≠ 0 ∧ (itT c h r k t).1.snap = t.snap
  | 0, t, hi, hk => by have := hi.pcl; omega
  | k + 1, t, hi, hk => by
    rw [itT]
    by_cases h0 : t.kind = 0
    · rw [if_pos h0]
      have hm : mayT t h r = true := by simp only [okW] at hw; simp [mayT, hw, h0]
      obtain ⟨s1, s2, s3, s4⟩ := hi.stp hc hm
      by_cases h1 : (stpT t c h r).kind = 0
      · have := s3 h1
        obtain ⟨i1, i2, i3⟩ := itT_ok hc hw k _ s1 (by omega)
        exact ⟨i1, i2, by simp only; rw [i3, s2]⟩
      · rw [itT_stop h1]
        exact ⟨s1, h1, s2⟩
    · rw [if_neg h0]
      exact ⟨hi, h0, rfl⟩

theorem runT_ok {c : List St} (hc : CodeOk c) {h : List (Bool × Int)} {r : List (Int × Int)} (hw : okW h r = true) {t : Ty} (hi : InvS c t) : InvS c (runT t c h r).1 ∧ (runT t c h r).1.kind ≠ 0 ∧ (runT t c h r).1.snap = t.snap :=
  itT_ok hc hw _ t hi (by have := hi.pc0; omega)

theorem c_attempt_Run (c : List St) (t : Ty) (h : List (Bool × Int)) (r : List (Int × Int)) (hc : CodeOk c) (hi : InvS c t) (hl : h.length ≤ 1000000) (htl : ∀ s ∈ c, s.t.length ≤ 1000000) :
    CSpec Tryz.prog 51 [dT t, .vec (c.map dS), .vec (h.map dC), .vec (r.map dW)]
      (if t.kind = 0 ∧ okW h r = false then .tuple [dT t, .int .i64 0, .int .i64 1] else .tuple [dT (runT t c h r).1, .int .i64 (runT t c h r).2, .int .i64 0]) := by
  have hcl := hc.len
  refine CSpec.of_awp envOf_ok hmix Tryz.func51 rfl (fun args w => Tryz.call51 args w) (by simp [Tryz.f51]) ?_
  simp only [Tryz.f51]
  simp (maxSteps := 2000000) -implicitDefEqProofs only [zz, zE, evop, ev, tget, V.isUndef, initT, V.cells, ↓reduceIte, Nat.reduceAdd]
  unfold dT tyC
  simp (maxSteps := 2000000) -implicitDefEqProofs only [zz, zE, evop, ev, ofVal, tget, tput, ok, V.isUndef, Ch.on, hget, hput, V.cells, V.one, splice, ↓reduceIte, Nat.reduceLT, Nat.reduceEqDiff, Nat.reduceAdd, Nat.reduceLeDiff]
  refine wloop_ind (σ := Ty × Nat) (fun z => c.length + 5 - z.2) (fun z => [(11, .ptr 2 0 0), (12, .d (.int .i64 z.2)), (4, .ptr 0 0 0), (8, .ptr 1 0 0), (1, .d (.vec (c.map dS))), (2, .d (.vec (h.map dC))), (3, .d (.vec (r.map dW)))]) (fun z => [bT t, bZ, bT z.1])
    (fun z => z.2 ≤ c.length + 1 ∧ (itT c h r (c.length + 1) t).1 = (itT c h r (c.length + 1 - z.2) z.1).1 ∧ (itT c h r (c.length + 1) t).2 = z.2 + (itT c h r (c.length + 1 - z.2) z.1).2 ∧ InvS c z.1 ∧ ((z.2 : Int) ≤ z.1.pc + 1) ∧ (z.1.kind = 0 → (z.2 : Int) ≤ z.1.pc) ∧ (okW h r = false → z.1 = t ∧ z.2 = 0)) (t, 0) ⟨by simp, by simp, by simp, hi, by have := hi.pc0; simp only; omega, fun _ => by have := hi.pc0; simp only; omega, fun _ => ⟨rfl, rfl⟩⟩ ?_ ?_
  · exact Weak.trims 3 rfl (by simp [tget, V.lower]) (by simp [bT, bZ, Blk.lower, lowerL, V.lower])
  rintro ⟨u, n⟩ ⟨hn, e1, e2, hu, hp1, hp2, hbad⟩
  simp only at hn e1 e2 hu hp1 hp2 hbad
  by_cases hk : u.kind = 0
  case neg =>
    have ek : (u.kind == 0) = false := by simpa using hk
    rw [itT_stop hk] at e1 e2
    have hne : ¬ (t.kind = 0 ∧ okW h r = false) := fun g => hk (by rw [(hbad g.2).1]; exact g.1)
    have g1 : (runT t c h r).1 = u := e1
    have g2 : (runT t c h r).2 = n := e2
    rw [if_neg hne, g1, g2]
    simp (maxSteps := 2000000) -implicitDefEqProofs only [zz, zE, evop, ev, ofVal, tget, tput, ok, V.isUndef, intBin, Ch.on, told, xport, xports, hget, hput, V.cells, V.one, structAt, Blk.width, splice, resOf, resV, resVs, ↓reduceIte, reduceCtorEq, Nat.reduceLT, Nat.reduceEqDiff, Nat.reduceAdd, Nat.reduceLeDiff, nilTest, bT, bZ, ek]
  have ek : (u.kind == 0) = true := by simpa using hk
  have hst := c_attempt_Step c u h r hc hu hl htl
  have hsu := hp2 hk
  have hpl := (hu.run hk).1
  cases hw : okW h r with
  | false =>
    have hm : mayT u h r = false := by simp only [okW] at hw; simp [mayT, hw]
    obtain ⟨q1, q2⟩ := hbad hw
    subst q1
    have hs1 : stepT u c h r = u := by simp [stepT, hm]
    rw [hs1, hm] at hst
    rw [if_pos ⟨hk, rfl⟩]
    unfold dT tyC at hst
    have e10 : ((1 : Int) != 0) = true := rfl
    simp (maxSteps := 2000000) -implicitDefEqProofs only [zz, zE, evop, ev, ofVal, tget, tput, ok, V.isUndef, intBin, Ch.on, calleeOf, withArgs, told, hget, structAt, Blk.width, ↓reduceIte, reduceCtorEq, Nat.reduceLT, Nat.reduceEqDiff, Nat.reduceAdd, Nat.reduceLeDiff, nilTest, bT, bZ, ek]
    refine acall_ice' (hst) ?_
    try simp (maxSteps := 2000000) -implicitDefEqProofs only [zz, zE, evop, ev, ofVal, tget, tput, ok, V.isUndef, intBin, Ch.on, told, xport, xports, tids, tidss, hget, hput, freeze, V.cells, V.one, splice, resOf, resV, resVs, ↓reduceIte, Nat.reduceLT, Nat.reduceEqDiff, Nat.reduceAdd, Nat.reduceLeDiff, nilTest]
    simp (maxSteps := 2000000) -implicitDefEqProofs only [↓reduceIte, e10]
  | true =>
    have hm : mayT u h r = true := by simp only [okW] at hw; simp [mayT, hw, hk]
    have hs1 : stepT u c h r = stpT u c h r := by simp [stepT, hm]
    rw [hs1, hm] at hst
    obtain ⟨s1, s2, s3, s4⟩ := hu.stp hc hm
    have hit : itT c h r (c.length + 1 - n) u = ((itT c h r (c.length + 1 - (n + 1)) (stpT u c h r)).1, (itT c h r (c.length + 1 - (n + 1)) (stpT u c h r)).2 + 1) := by
      have : c.length + 1 - n = (c.length + 1 - (n + 1)) + 1 := by omega
      rw [this, itT, if_pos hk]
    rw [hit] at e1 e2
    have hwn : IntKind.i64.wrap ((n : Int) + 1) = ((n + 1 : Nat) : Int) := by rw [wrap_in (by omega)]; omega
    generalize stpT u c h r = v at *
    unfold dT tyC at hst
    simp (maxSteps := 2000000) -implicitDefEqProofs only [zz, zE, evop, ev, ofVal, tget, tput, ok, V.isUndef, intBin, Ch.on, calleeOf, withArgs, told, hget, structAt, Blk.width, ↓reduceIte, reduceCtorEq, Nat.reduceLT, Nat.reduceEqDiff, Nat.reduceAdd, Nat.reduceLeDiff, nilTest, bT, bZ, ek]
    refine acall_ice' (hst) ?_
    try simp (maxSteps := 2000000) -implicitDefEqProofs only [zz, zE, evop, ev, ofVal, tget, tput, ok, V.isUndef, intBin, Ch.on, told, tids, tidss, hget, hput, freeze, V.cells, V.one, splice, ↓reduceIte, Nat.reduceLT, Nat.reduceEqDiff, Nat.reduceAdd, Nat.reduceLeDiff, nilTest]
    simp (maxSteps := 2000000) -implicitDefEqProofs only [hwn]
    refine ⟨(v, n + 1), ⟨by simp only; omega, e1, by simp only; rw [e2]; simp only; omega, s1, by simp only; omega, fun g => ?_⟩, by simp only; omega, ?_⟩
    · have := s3 g
      simp only; omega
    · exact Weak.trims 3 rfl (by simp [tget, V.lower]) (by simp [bT, bZ, Blk.lower, lowerL, V.lower])
end Go.Proofs.YtjhfpabldidlgaaGreat.AM

set_option linter.all false
set_option maxRecDepth 100000
set_option maxHeartbeats 8000000
namespace Go.Proofs.YtjhfpabldidlgaaGreat.AM
open Go Go.RowKit

end Go.Proofs.YtjhfpabldidlgaaGreat.AM

set_option linter.all false
set_option maxRecDepth 100000
set_option maxHeartbeats 4000000
namespace Go.Proofs.YtjhfpabldidlgaaGreat.AM
open Go Go.RowKit


end Go.Proofs.YtjhfpabldidlgaaGreat.AM

set_option linter.all false
set_option maxRecDepth 100000
set_option maxHeartbeats 8000000
namespace Go.Proofs.YtjhfpabldidlgaaGreat.AM
open Go Go.RowKit

end Go.Proofs.YtjhfpabldidlgaaGreat.AM

set_option linter.all false
set_option maxRecDepth 100000
set_option maxHeartbeats 8000000
namespace Go.Proofs.YtjhfpabldidlgaaGreat.AM
open Go Go.RowKit

end Go.Proofs.YtjhfpabldidlgaaGreat.AM

set_option linter.all false
set_option maxRecDepth 100000
set_option maxHeartbeats 8000000
namespace Go.Proofs.YtjhfpabldidlgaaGreat.AM
open Go Go.RowKit

end Go.Proofs.YtjhfpabldidlgaaGreat.AM

set_option linter.all false
set_option maxRecDepth 100000
set_option maxHeartbeats 8000000
namespace Go.Proofs.YtjhfpabldidlgaaGreat.AM
open Go Go.RowKit

theorem InvT.frs {c : List St} {t : Ty} (h : InvT c t) : ∀ f ∈ t.frames, f.regs.length = 8 := by
  have : ∀ (fs : List Fr) (a : Nat) (p : List Int), FrOk c a p fs → ∀ f ∈ fs, f.regs.length = 8 := by
    intro fs
    induction fs with
    | nil => intro a p _ f hf; simp at hf
    | cons g r ih =>
      intro a p hfr f hf
      obtain ⟨m, e, k, h1, h2, h3, h4, h5, h6, h7, h8, h9⟩ := hfr
      rcases List.mem_cons.1 hf with rfl | hf
      · exact h6
      · exact ih _ _ h9 f hf
  intro f hf
  exact this _ _ _ h.fr f (by simpa using hf)

theorem same_ok {c : List St} (hc : CodeOk c) {t : Ty} (h : InvT c t) : CSpec Tryz.prog 18 [dT t, dT t] (.bool true) := by
  obtain ⟨b1, b2, b3, b4, b5, b6, b7, b8⟩ := h.lens hc
  exact c_r11_Same t (by omega) (by omega) (by omega) (by omega) (by omega) (by omega) (fun f hf => by rw [h.frs f hf]; decide)

theorem beg_ok {c : List St} {who snap : Int} (h : mayB c who snap = true) : CodeOk c ∧ InvS c (begT c who snap) ∧ (begT c who snap).snap = snap := by
  have hc : codeC c = 0 := by simp only [mayB, Bool.and_eq_true, decide_eq_true_eq] at h; exact h.1.1.1
  have ho := CodeOk.of hc
  obtain ⟨g1, g2, _⟩ := setT_ok (new_ok ho who snap) rfl
  have e : begT c who snap = setT c.length (newT who snap) := by simp [begT, h]
  rw [e]
  exact ⟨ho, g1, g2⟩

theorem zero_same : CSpec Tryz.prog 18 [dT zeroT, dT zeroT] (.bool true) := c_r11_Same zeroT (by decide) (by decide) (by decide) (by decide) (by decide) (by decide) (by decide)

end Go.Proofs.YtjhfpabldidlgaaGreat.AM

set_option linter.all false
set_option maxRecDepth 100000
set_option maxHeartbeats 8000000
namespace Go.Proofs.YtjhfpabldidlgaaGreat.AM
open Go Go.RowKit

theorem c_law12_Worlds (w : Wl) : CSpec Tryz.prog 34 [dWl w] (dWl w) := by
  refine CSpec.of_awp envOf_ok hmix Tryz.func34 rfl (fun args w => Tryz.call34 args w) (by simp [Tryz.f34]) ?_
  simp only [Tryz.f34]
  simp (maxSteps := 2000000) -implicitDefEqProofs only [zz, zE, evop, ev, tget, V.isUndef, initT, V.cells, ↓reduceIte]
  unfold dWl
  try simp (maxSteps := 2000000) -implicitDefEqProofs only [zz, zE, evop, ev, tget, tput, ok, Ch.on, xport, xports, hget, hput, V.cells, V.one, splice, resOf, resV, resVs, ↓reduceIte, Nat.reduceLT, Nat.reduceEqDiff, Nat.reduceAdd, Nat.reduceLeDiff]

theorem c_law12_Ref (c : Cm) (hf : c.t.frames.length ≤ 1000000) : CSpec Tryz.prog 36 [dCm c] (dCm c) := by
  have hr := c_law11_Ref c.t hf
  unfold dT tyC at hr
  refine CSpec.of_awp envOf_ok hmix Tryz.func36 rfl (fun args w => Tryz.call36 args w) (by simp [Tryz.f36]) ?_
  simp only [Tryz.f36]
  simp (maxSteps := 2000000) -implicitDefEqProofs only [zz, zE, evop, ev, tget, V.isUndef, initT, V.cells, ↓reduceIte]
  unfold dCm cmC
  try simp (maxSteps := 2000000) -implicitDefEqProofs only [zz, zE, evop, tput, Ch.on, hput, ↓reduceIte, Nat.reduceLT]
  refine wdraw_plan [⟨[], false, [6, 7, 8, 9, 10, 11], [], false⟩, ⟨[0], false, [6, 7, 8, 9, 10, 11], [], false⟩, ⟨[0, 1], false, [6, 7, 8, 9, 10, 11], [], false⟩, ⟨[], false, [3, 4, 5, 8, 9, 10, 11], [0, 1, 2], false⟩, ⟨[3], false, [3, 4, 5, 8, 9, 10, 11], [0, 1, 2], false⟩, ⟨[], false, [3, 4, 5, 6, 7, 10, 11], [0, 1, 2, 3, 4], false⟩, ⟨[5], false, [3, 4, 5, 6, 7, 10, 11], [0, 1, 2, 3, 4], false⟩, ⟨[], false, [3, 4, 5, 6, 7, 8, 9], [0, 1, 2, 3, 4, 5, 6], false⟩, ⟨[7], false, [3, 4, 5, 6, 7, 8, 9], [0, 1, 2, 3, 4, 5, 6], false⟩, ⟨[0, 1, 2, 3, 4, 5, 6, 7, 8], true, [], [], false⟩, ⟨[0, 1, 2, 3, 4, 5, 6, 7, 8, 9], true, [], [], false⟩] (by decide) ?_
  simp (maxSteps := 2000000) -implicitDefEqProofs only [zz, zE, evop, ev, ofVal, tget, tput, ok, V.isUndef, calleeOf, withArgs, hget, hput, V.cells, D.cells, loadD, structAt, partsV, Blk.width, splice, ↓reduceIte, reduceCtorEq, Nat.reduceLT, Nat.reduceEqDiff, Nat.reduceAdd, Nat.reduceLeDiff]
  refine dcall_still' (hr) rfl ?_
  try simp (maxSteps := 2000000) -implicitDefEqProofs only [zz, zE, evop, ev, tget, tput, Ch.on, xport, xports, hget, hput, V.cells, V.one, splice, resOf, resV, resVs, ↓reduceIte, Nat.reduceLT, Nat.reduceEqDiff, Nat.reduceAdd, Nat.reduceLeDiff]

def smallW (w : Wl) : Bool := decide (w.heap.length ≤ 80) && decide (w.tab.length ≤ 30)
theorem c_law12_small (w : Wl) : CSpec Tryz.prog 27 [dWl w] (.bool (smallW w)) := by
  refine CSpec.of_awp envOf_ok hmix Tryz.func27 rfl (fun args w => Tryz.call27 args w) (by simp [Tryz.f27]) ?_
  simp only [Tryz.f27]
  simp (maxSteps := 2000000) -implicitDefEqProofs only [zz, zE, evop, ev, tget, V.isUndef, initT, V.cells, ↓reduceIte]
  unfold dWl
  by_cases h1 : (w.heap.length : Int) ≤ 80
  · have h1' : w.heap.length ≤ 80 := by omega
    by_cases h2 : (w.tab.length : Int) ≤ 30
    · have h2' : w.tab.length ≤ 30 := by omega
      simp (maxSteps := 2000000) -implicitDefEqProofs only [zz, zE, evop, ev, ofVal, tget, tput, ok, V.isUndef, intBin, guardOf, Ch.on, xport, hget, hput, structAt, sliceOf, Blk.width, lenOf, resOf, resV, resVs, ↓reduceIte, reduceCtorEq, Nat.reduceLT, Nat.reduceEqDiff, Nat.reduceAdd, nilTest, h1, h2]
      simp [smallW, h1', h2']
    · have h2' : ¬ w.tab.length ≤ 30 := by omega
      simp (maxSteps := 2000000) -implicitDefEqProofs only [zz, zE, evop, ev, ofVal, tget, tput, ok, V.isUndef, intBin, guardOf, Ch.on, xport, hget, hput, structAt, sliceOf, Blk.width, lenOf, resOf, resV, resVs, ↓reduceIte, reduceCtorEq, Nat.reduceLT, Nat.reduceEqDiff, Nat.reduceAdd, nilTest, h1, h2]
      simp [smallW, h2']
  · have h1' : ¬ w.heap.length ≤ 80 := by omega
    simp (maxSteps := 2000000) -implicitDefEqProofs only [zz, zE, evop, ev, ofVal, tget, tput, ok, V.isUndef, intBin, guardOf, Ch.on, xport, hget, hput, structAt, sliceOf, Blk.width, lenOf, resOf, resV, resVs, ↓reduceIte, reduceCtorEq, Nat.reduceLT, Nat.reduceEqDiff, Nat.reduceAdd, nilTest, h1]
    simp [smallW, h1']

def tryT (c : List St) (who snap : Int) (w : Wl) : Ty × Bool :=
  if mayB c who snap = true then (if (begT c who snap).kind = 0 ∧ okW w.heap w.tab = false then (begT c who snap, false) else ((runT (begT c who snap) c w.heap w.tab).1, true)) else (zeroT, false)

theorem c_tried (c : List St) (who snap : Int) (w : Wl) (hcl : c.length ≤ 1000000) (htl : ∀ s ∈ c, s.t.length ≤ 1000000) (hl : w.heap.length ≤ 1000000) :
    CSpec Tryz.prog 29 [.vec (c.map dS), .int .i64 who, .int .i64 snap, dWl w] (.tuple [dT (tryT c who snap w).1, .bool (tryT c who snap w).2]) := by
  have hb := c_attempt_Begin c who snap hcl htl
  have hY : tryT c who snap w = if mayB c who snap = true then (if (begT c who snap).kind = 0 ∧ okW w.heap w.tab = false then (begT c who snap, false) else ((runT (begT c who snap) c w.heap w.tab).1, true)) else (zeroT, false) := rfl
  generalize tryT c who snap w = y at hY ⊢
  have e00 : ((0 : Int) == 0) = true := rfl
  have e10 : ((1 : Int) != 0) = true := rfl
  have e01 : ((0 : Int) != 0) = false := rfl
  have e11 : ((1 : Int) == 0) = false := rfl
  cases hB : mayB c who snap with
  | false =>
    have hz : begT c who snap = zeroT := by simp [begT, hB]
    rw [hB, if_neg (by decide)] at hb hY
    rw [hz] at hb
    subst hY
    unfold dT tyC at hb
    refine CSpec.of_awp envOf_ok hmix Tryz.func29 rfl (fun args w => Tryz.call29 args w) (by simp [Tryz.f29]) ?_
    simp only [Tryz.f29]
    simp (maxSteps := 2000000) -implicitDefEqProofs only [zz, zE, evop, ev, tget, V.isUndef, initT, V.cells, ↓reduceIte, reduceCtorEq, Nat.reduceEqDiff, Nat.reduceAdd]
    unfold dT tyC dWl
    simp (maxSteps := 2000000) -implicitDefEqProofs only [zz, zE, evop, ev, ofVal, tget, tput, ok, V.isUndef, Ch.on, calleeOf, withArgs, hput, ↓reduceIte, reduceCtorEq, Nat.reduceLT, Nat.reduceEqDiff]
    refine acall_ice' (hb) ?_
    try simp (maxSteps := 2000000) -implicitDefEqProofs only [zz, zE, evop, ev, ofVal, tget, tput, ok, V.isUndef, intBin, Ch.on, calleeOf, withArgs, told, xport, xports, tids, tidss, hget, hput, freeze, V.cells, V.one, structAt, Blk.width, splice, resOf, resV, resVs, ↓reduceIte, reduceCtorEq, Nat.reduceLT, Nat.reduceEqDiff, Nat.reduceAdd, Nat.reduceLeDiff, nilTest]
    try simp (maxSteps := 2000000) -implicitDefEqProofs only [↓reduceIte, e10]
  | true =>
    obtain ⟨ho, hi0, hsn⟩ := beg_ok hB
    rw [hB, if_pos rfl] at hb hY
    have hr := c_attempt_Run c (begT c who snap) w.heap w.tab ho hi0 hl htl
    generalize begT c who snap = t0 at hb hi0 hsn hY hr
    by_cases hbad : t0.kind = 0 ∧ okW w.heap w.tab = false
    · rw [if_pos hbad] at hr hY
      subst hY
      unfold dT tyC at hb hr
      refine CSpec.of_awp envOf_ok hmix Tryz.func29 rfl (fun args w => Tryz.call29 args w) (by simp [Tryz.f29]) ?_
      simp only [Tryz.f29]
      simp (maxSteps := 2000000) -implicitDefEqProofs only [zz, zE, evop, ev, tget, V.isUndef, initT, V.cells, ↓reduceIte, reduceCtorEq, Nat.reduceEqDiff, Nat.reduceAdd]
      unfold dT tyC dWl
      simp (maxSteps := 2000000) -implicitDefEqProofs only [zz, zE, evop, ev, ofVal, tget, tput, ok, V.isUndef, Ch.on, calleeOf, withArgs, hput, ↓reduceIte, reduceCtorEq, Nat.reduceLT, Nat.reduceEqDiff]
      refine acall_ice' (hb) ?_
      try simp (maxSteps := 2000000) -implicitDefEqProofs only [zz, zE, evop, ev, ofVal, tget, tput, ok, V.isUndef, intBin, Ch.on, calleeOf, withArgs, told, tids, tidss, hget, hput, freeze, V.cells, V.one, structAt, Blk.width, splice, ↓reduceIte, reduceCtorEq, Nat.reduceLT, Nat.reduceEqDiff, Nat.reduceAdd, Nat.reduceLeDiff, nilTest]
      try skip
      refine acall_ice' (hr) ?_
      try simp (maxSteps := 2000000) -implicitDefEqProofs only [zz, zE, evop, ev, ofVal, tget, tput, ok, V.isUndef, intBin, Ch.on, xport, xports, tids, tidss, hget, hput, freeze, V.cells, V.one, splice, resOf, resV, resVs, ↓reduceIte, Nat.reduceLT, Nat.reduceEqDiff, Nat.reduceAdd, Nat.reduceLeDiff, nilTest]
      try simp (maxSteps := 2000000) -implicitDefEqProofs only [e11]
    · rw [if_neg hbad] at hr hY
      generalize (runT t0 c w.heap w.tab).2 = n at hr
      generalize (runT t0 c w.heap w.tab).1 = u at hr hY
      subst hY
      unfold dT tyC at hb hr
      refine CSpec.of_awp envOf_ok hmix Tryz.func29 rfl (fun args w => Tryz.call29 args w) (by simp [Tryz.f29]) ?_
      simp only [Tryz.f29]
      simp (maxSteps := 2000000) -implicitDefEqProofs only [zz, zE, evop, ev, tget, V.isUndef, initT, V.cells, ↓reduceIte, reduceCtorEq, Nat.reduceEqDiff, Nat.reduceAdd]
      unfold dT tyC dWl
      simp (maxSteps := 2000000) -implicitDefEqProofs only [zz, zE, evop, ev, ofVal, tget, tput, ok, V.isUndef, Ch.on, calleeOf, withArgs, hput, ↓reduceIte, reduceCtorEq, Nat.reduceLT, Nat.reduceEqDiff]
      refine acall_ice' (hb) ?_
      try simp (maxSteps := 2000000) -implicitDefEqProofs only [zz, zE, evop, ev, ofVal, tget, tput, ok, V.isUndef, intBin, Ch.on, calleeOf, withArgs, told, tids, tidss, hget, hput, freeze, V.cells, V.one, structAt, Blk.width, splice, ↓reduceIte, reduceCtorEq, Nat.reduceLT, Nat.reduceEqDiff, Nat.reduceAdd, Nat.reduceLeDiff, nilTest]
      try skip
      refine acall_ice' (hr) ?_
      try simp (maxSteps := 2000000) -implicitDefEqProofs only [zz, zE, evop, ev, ofVal, tget, tput, ok, V.isUndef, intBin, Ch.on, xport, xports, tids, tidss, hget, hput, freeze, V.cells, V.one, splice, resOf, resV, resVs, ↓reduceIte, Nat.reduceLT, Nat.reduceEqDiff, Nat.reduceAdd, Nat.reduceLeDiff, nilTest]
      try skip
end Go.Proofs.YtjhfpabldidlgaaGreat.AM

set_option linter.all false
set_option maxRecDepth 100000
set_option maxHeartbeats 8000000
namespace Go.Proofs.YtjhfpabldidlgaaGreat.AM
open Go Go.RowKit

theorem heapR_len {h : List (Bool × Int)} (hr : heapR h = true) : 1 ≤ h.length ∧ h.length ≤ 64 := by simp [heapR] at hr; omega
theorem setH_heapR {h : List (Bool × Int)} {w : Int × Int} (hr : heapR h = true) (hs : spanR w.2 = true) (ht : thereB h w.1 = true) : heapR (setH h w) = true := by
  obtain ⟨k, v, hk, hkl, hkg⟩ := thereB_get ht
  have e : w.1.toNat = k := by omega
  have hset : setH h w = h.set k (true, w.2) := by unfold setH; rw [e, hkg]; rfl
  rw [hset]
  simp only [heapR, Bool.and_eq_true, Bool.not_eq_true', List.any_eq_false, List.length_set] at hr ⊢
  refine ⟨hr.1, fun x hx => ?_⟩
  rcases List.mem_or_eq_of_mem_set hx with g | g
  · exact hr.2 x g
  · subst g; simp [wrongC, hs]
theorem thereB_live {a b : List (Bool × Int)} (h : a.map (fun x => x.1) = b.map (fun x => x.1)) (c : Int) : thereB a c = thereB b c := by
  have hl : a.length = b.length := by have := congrArg List.length h; simpa using this
  have hg := congrArg (fun l => l[c.toNat]?) h
  simp only [List.getElem?_map] at hg
  unfold thereB
  rw [hl]
  congr 1
  cases ha : a[c.toNat]? <;> cases hb : b[c.toNat]? <;> simp_all
theorem putsH_heapR {h : List (Bool × Int)} : ∀ {ws : List (Int × Int)}, heapR h = true → (∀ w ∈ ws, spanR w.2 = true ∧ thereB h w.1 = true) → heapR (putsH h ws) = true
  | [], hr, _ => hr
  | w :: r, hr, ha => by
    obtain ⟨a, b⟩ := ha w (by simp)
    have e : putsH h (w :: r) = putsH (setH h w) r := rfl
    rw [e]
    refine putsH_heapR (setH_heapR hr a b) (fun x hx => ?_)
    obtain ⟨p, q⟩ := ha x (by simp [hx])
    exact ⟨p, by rw [thereB_live (setH_live h w)]; exact q⟩
theorem heapPut_heapR {h : List (Bool × Int)} (ws : List (Int × Int)) (hr : heapR h = true) : heapR (heapPut h ws).1 = true := by
  unfold heapPut
  split
  · rename_i h1
    split
    · rename_i h2
      refine putsH_heapR hr (fun w hw => ⟨?_, List.all_eq_true.1 h2 w hw⟩)
      have := List.any_eq_false.1 h1.2 w hw
      simpa using this
    · exact hr
  · exact hr
theorem mayW_put {w : Wl} (ws : List (Int × Int)) (h : mayW w = true) : mayW { w with heap := (heapPut w.heap ws).1 } = true := by
  simp only [mayW, Bool.and_eq_true, Bool.not_eq_true'] at h ⊢
  exact ⟨⟨⟨heapPut_heapR ws h.1.1.1, h.1.1.2⟩, h.1.2⟩, h.2⟩

def bZC' : Blk := .box false [.d (.int .i64 0), .d (.int .i64 0), .d (.int .i64 0), .nils, .nils, .nils, .nils, .nils, .nils, .d (.int .i64 0), .d (.int .i64 0), .d (.int .i64 0), .d (.int .i64 0), .d (.int .i64 0)]
def bZW' : Blk := .box false [.nils, .nils, .d (.int .i64 0)]
theorem allN_last {c : Cm} {w : Wl} (n : Nat) (h : 5 ≤ c.phase) : allN (n + 1) c w = some (c, w) := by rw [allN_succ, if_neg (by omega)]
theorem late_next {c : Cm} {w : Wl} (h : mayW w = true) (h3 : 3 ≤ c.phase) (h5 : c.phase < 5) : mayC c w = true ∧ (5 ≤ (stpC c w).1.phase ∨ ((stpC c w).1.phase = 4 ∧ c.phase = 3 ∧ mayW (stpC c w).2 = true)) := by
  have hm : mayC c w = true := by
    have : 0 ≤ c.phase := by omega
    simp [mayC, h, this, h5]
  refine ⟨hm, ?_⟩
  have hp : c.phase = 3 ∨ c.phase = 4 := by omega
  rcases hp with g | g
  · rw [stp_3 g]
    split
    · left; simp [goneC]
    · right
      exact ⟨by simp only; omega, g, mayW_put _ h⟩
  · obtain ⟨q, _⟩ := stpC_phase c w
    left; omega
theorem stpC_keeps {c : Cm} {w : Wl} (h5 : c.phase < 5) (hp : 0 ≤ c.phase) (he : c.err = 0) : (stpC c w).1.phase < 5 → (stpC c w).1.err = 0 := by
  obtain ⟨k1, k2, k3, k4⟩ := phaseW_t c w
  unfold stpC
  split
  · intro g; simp [goneC] at g
  · intro _; simp only; rw [k3]; exact he

theorem c_r12_Drop (c : Cm) (w : Wl) (hc : CmWell c) (hp : 0 ≤ c.phase) (hl1 : w.heap.length ≤ 1000000) (hl2 : w.tab.length ≤ 1000000) : CSpec Tryz.prog 40 [dCm c, dWl w] (.tuple [dCm (dropC c w).1, dWl (dropC c w).2]) := by
  have hr := c_r12_Right w hl1 hl2
  have hY : dropC c w = if (!mayW w || decide (5 ≤ c.phase)) = true then (c, w) else if c.phase ≤ 2 then goneC c w 8 else (allC c w).1 := rfl
  generalize dropC c w = y at hY ⊢
  refine CSpec.of_awp envOf_ok hmix Tryz.func40 rfl (fun args w => Tryz.call40 args w) (by simp [Tryz.f40]) ?_
  simp only [Tryz.f40]
  simp (maxSteps := 2000000) -implicitDefEqProofs only [zz, zE, evop, ev, tget, V.isUndef, initT, V.cells, ↓reduceIte]
  unfold dCm cmC dWl
  unfold dWl at hr
  simp (maxSteps := 2000000) -implicitDefEqProofs only [zz, zE, evop, ev, tget, tput, ok, V.isUndef, Ch.on, calleeOf, withArgs, hget, hput, V.cells, ↓reduceIte, reduceCtorEq, Nat.reduceLT, Nat.reduceEqDiff, Nat.reduceAdd, Nat.reduceLeDiff]
  refine acall_flat' (hr) rfl ?_
  try simp (maxSteps := 2000000) -implicitDefEqProofs only [zz, zE, evop, ev, ofVal, tget, tput, ok, V.isUndef, intBin, guardOf, Ch.on, calleeOf, withArgs, told, hget, structAt, Blk.width, ↓reduceIte, reduceCtorEq, Nat.reduceLT, Nat.reduceEqDiff, Nat.reduceAdd, Nat.reduceLeDiff, nilTest]
  have fin : (!mayW w || decide (5 ≤ c.phase)) = true → y = (c, w) := fun h => by rw [hY, if_pos h]
  cases h0 : mayW w with
  | false =>
    obtain rfl := fin (by simp [h0])
    simp (maxSteps := 2000000) -implicitDefEqProofs only [zz, ↓reduceIte]
    refine wdraw_weak (Weak.sealed (T' := [(2, .d (.imm (dCm c) 0)), (3, .d (.imm (dWl w) 0)), (4, .ptr 2 0 0), (5, .ptr 3 0 0)]) [0, 1] (by simp [tget, sealF, xport, xports, tids, tidss, hget, dCm, cmC, dWl])) [⟨[], false, [17], [], false⟩, ⟨[], false, [16, 17], [0], true⟩, ⟨[0], true, [17], [], false⟩, ⟨[0, 1, 2], true, [], [], false⟩] (by decide) ?_
    simp only [sealH, AM.freeze, hput, hget, Blk.ice, List.map_cons, List.map_nil, sealB, sealF, List.mem_cons, dCm, cmC, dWl]
    simp (maxSteps := 2000000) -implicitDefEqProofs only [zz, zE, evop, ev, tget, tput, ok, Ch.on, xport, xports, hget, hput, V.cells, D.cells, V.one, loadD, splice, resOf, resV, resVs, ↓reduceIte, Nat.reduceLT, Nat.reduceEqDiff, Nat.reduceAdd, Nat.reduceLeDiff]
  | true =>
  have hm2 := h0
  simp only [mayW, Bool.and_eq_true, decide_eq_true_eq] at hm2
  have htl := tableR_len hm2.1.1.2
  by_cases p5 : c.phase > 4
  · obtain rfl := fin (by have : 5 ≤ c.phase := by omega
                          simp [this])
    simp (maxSteps := 2000000) -implicitDefEqProofs only [zz, ↓reduceIte, p5]
    refine wdraw_weak (Weak.sealed (T' := [(2, .d (.imm (dCm c) 0)), (3, .d (.imm (dWl w) 0)), (4, .ptr 2 0 0), (5, .ptr 3 0 0)]) [0, 1] (by simp [tget, sealF, xport, xports, tids, tidss, hget, dCm, cmC, dWl])) [⟨[], false, [17], [], false⟩, ⟨[], false, [16, 17], [0], true⟩, ⟨[0], true, [17], [], false⟩, ⟨[0, 1, 2], true, [], [], false⟩] (by decide) ?_
    simp only [sealH, AM.freeze, hput, hget, Blk.ice, List.map_cons, List.map_nil, sealB, sealF, List.mem_cons, dCm, cmC, dWl]
    simp (maxSteps := 2000000) -implicitDefEqProofs only [zz, zE, evop, ev, tget, tput, ok, Ch.on, xport, xports, hget, hput, V.cells, D.cells, V.one, loadD, splice, resOf, resV, resVs, ↓reduceIte, Nat.reduceLT, Nat.reduceEqDiff, Nat.reduceAdd, Nat.reduceLeDiff]
  rw [if_neg (by simp [h0]; omega)] at hY
  by_cases p2 : c.phase < 3
  · rw [if_pos (by omega)] at hY
    have hg := c_r12_out c w 8 (by omega)
    rw [← hY] at hg
    unfold dCm cmC dWl at hg
    simp (maxSteps := 2000000) -implicitDefEqProofs only [zz, ↓reduceIte, p5, p2]
    refine acall_ice' (hg) ?_
    try simp (maxSteps := 2000000) -implicitDefEqProofs only [zz, zE, evop, ev, tget, tput, ok, Ch.on, xport, xports, tids, tidss, hget, hput, freeze, V.cells, V.one, splice, resOf, resV, resVs, ↓reduceIte, Nat.reduceLT, Nat.reduceEqDiff, Nat.reduceAdd, Nat.reduceLeDiff]
  · rw [if_neg (by omega)] at hY
    simp (maxSteps := 2000000) -implicitDefEqProofs only [zz, ↓reduceIte, p5, p2]
    have ha : y = (match allN 6 c w with | some z => z | none => (c, w)) := by
      rw [hY]; unfold allC; cases allN 6 c w <;> rfl
    refine wloop_ind (σ := Nat × Cm × Wl) (fun z => z.1) (fun z => [(2, .ptr 0 0 0), (3, .ptr 1 0 0), (4, .ptr 2 0 0), (5, .ptr 3 0 0)]) (fun z => [bC z.2.1, bW z.2.2, bZC', bZW']) (fun z => allN 6 c w = allN (z.1 + 1) z.2.1 z.2.2 ∧ 5 - z.2.1.phase ≤ z.1 ∧ 3 ≤ z.2.1.phase ∧ CmWell z.2.1 ∧ (z.2.1.phase < 5 → mayW z.2.2 = true)) (5, c, w) ⟨rfl, by simp only; omega, by simp only; omega, hc, fun _ => h0⟩ ?_ ?_
    · exact Weak.trims 4 rfl (by simp [tget, V.lower]) (by simp [bZC', bZW', bC, bW, Blk.lower, lowerL, V.lower])
    rintro ⟨n, d, v⟩ ⟨hn, h1, h3, hd, hv⟩
    simp only at hn h1 h3 hd hv
    by_cases q5 : d.phase < 5
    case neg =>
      rw [allN_last n (by omega)] at hn
      rw [hn] at ha
      simp only at ha
      subst ha
      simp (maxSteps := 2000000) -implicitDefEqProofs only [zz, zE, evop, ev, ofVal, tget, tput, ok, V.isUndef, intBin, Ch.on, told, hget, structAt, Blk.width, ↓reduceIte, reduceCtorEq, Nat.reduceLT, Nat.reduceAdd, nilTest, bC, bW, bZC', bZW', q5]
      refine wdraw_weak (Weak.sealed (T' := [(2, .d (.imm (dCm d) 0)), (3, .d (.imm (dWl v) 0)), (4, .ptr 2 0 0), (5, .ptr 3 0 0)]) [0, 1] (by simp [tget, sealF, xport, xports, tids, tidss, hget, dCm, cmC, dWl])) [⟨[], false, [37], [], false⟩, ⟨[], false, [36, 37], [0], true⟩, ⟨[0], true, [37], [], false⟩, ⟨[0, 1, 2], true, [], [], false⟩] (by decide) ?_
      simp only [sealH, AM.freeze, hput, hget, Blk.ice, List.map_cons, List.map_nil, sealB, sealF, List.mem_cons, dCm, cmC, dWl]
      simp (maxSteps := 2000000) -implicitDefEqProofs only [zz, zE, evop, ev, tget, tput, ok, Ch.on, xport, xports, hget, hput, V.cells, D.cells, V.one, loadD, splice, resOf, resV, resVs, ↓reduceIte, Nat.reduceLT, Nat.reduceEqDiff, Nat.reduceAdd, Nat.reduceLeDiff]
    have hvw := hv q5
    obtain ⟨hm, hnx⟩ := late_next hvw h3 q5
    obtain ⟨k, rfl⟩ : ∃ k, n = k + 1 := ⟨n - 1, by omega⟩
    have hv2 := hvw
    simp only [mayW, Bool.and_eq_true, decide_eq_true_eq] at hv2
    have hvl := tableR_len hv2.1.1.2
    have hvh := heapR_len hv2.1.1.1
    have hst := c_r12_Step d v hd (by omega) (by omega)
    have hse : cmStep d v = stpC d v := by unfold cmStep; rw [if_pos hm]
    obtain ⟨q1, q2⟩ := stpC_phase d v
    have hke := stpC_keeps (w := v) q5 (by omega) (hd.err (by omega) q5)
    rw [allN_succ (k + 1) d v, if_pos q5, if_pos hm] at hn
    rw [hse, hm] at hst
    generalize stpC d v = x at hst hn q1 q2 hnx hke
    unfold dCm cmC dWl at hst
    simp (maxSteps := 2000000) -implicitDefEqProofs only [zz, zE, evop, ev, ofVal, tget, tput, ok, V.isUndef, intBin, Ch.on, calleeOf, withArgs, told, hget, structAt, Blk.width, ↓reduceIte, reduceCtorEq, Nat.reduceLT, Nat.reduceEqDiff, Nat.reduceAdd, Nat.reduceLeDiff, nilTest, bC, bW, bZC', bZW', q5]
    refine acall_ice' (hst) ?_
    try simp (maxSteps := 2000000) -implicitDefEqProofs only [zz, zE, evop, ev, tget, tput, ok, V.isUndef, Ch.on, tids, tidss, hget, hput, freeze, V.cells, V.one, splice, ↓reduceIte, Nat.reduceLT, Nat.reduceEqDiff, Nat.reduceAdd, Nat.reduceLeDiff]
    refine ⟨(k, x.1, x.2), ⟨hn, by simp only; omega, by simp only; omega, ⟨⟨by rw [q2]; exact hd.log, by rw [q2]; exact hd.reads⟩, by rw [q2]; exact hd.rds, by rw [q2]; exact hd.who, fun _ => hke⟩, fun g => ?_⟩, by simp only; omega, ?_⟩
    · rcases hnx with g1 | ⟨g1, g2, g3⟩
      · simp only at g; omega
      · exact g3
    · exact Weak.trims 4 rfl (by simp [tget, V.lower]) (by simp [bZC', bZW', bC, bW, Blk.lower, lowerL, V.lower])
end Go.Proofs.YtjhfpabldidlgaaGreat.AM

set_option linter.all false
set_option maxRecDepth 100000
set_option maxHeartbeats 8000000
namespace Go.Proofs.YtjhfpabldidlgaaGreat.AM
open Go Go.RowKit

def NewRd (h : List (Bool × Int)) (r : List (Int × Int)) (x : Rd) : Prop := (∃ b, h[x.1.toNat]? = some (b, x.2.2)) ∧ 0 ≤ x.1 ∧ 0 ≤ x.1.tmod r.length ∧ (r.length : Int) ≠ 0 ∧ r[(x.1.tmod r.length).toNat]? = some (x.2.1, 0)

theorem doT_reads {t : Ty} {s : St} {h : List (Bool × Int)} {r : List (Int × Int)} (htb : tableR r = true) : (doT t s h r).reads = t.reads ∨ ∃ x, (doT t s h r).reads = t.reads ++ [x] ∧ NewRd h r x := by
  unfold doT
  split
  · unfold loadT
    split
    · exact .inl rfl
    · rename_i hg
      simp only [ne_eq, Decidable.not_not] at hg
      split
      · exact .inl rfl
      · split
        · exact .inl rfl
        · split
          · exact .inl rfl
          · rename_i hno
            right
            obtain ⟨z1, z2, z3, z4, z5⟩ := heapGet_0 hg
            obtain ⟨y1, y2, y3, y4, y5, y6, y7⟩ := recR_in htb z4
            refine ⟨(s.b, (recR r s.b).1, (heapGet h s.b).1), rfl, ?_, z4, y6, by omega, ?_⟩
            · obtain ⟨k, v, hk, hkl, hkg⟩ := thereB_get z2
              refine ⟨true, ?_⟩
              simp only
              unfold heapGet
              rw [if_pos z1, if_pos z2]
              rw [hk, Int.toNat_natCast, hkg]
              simp
            · simp only
              have : recR r s.b = ((recR r s.b).1, 0) := by
                have : (recR r s.b).2 = 0 := by omega
                exact Prod.ext rfl this
              rw [← this]
              unfold recR
              rw [List.getElem?_eq_getElem (by omega)]
              rfl
  · split
    · exact .inl rfl
    · split
      · unfold storeT
        split
        · exact .inl rfl
        · exact .inl rfl
      · split
        · exact .inl rfl
        · split
          · unfold agT
            split
            · exact .inl rfl
            · exact .inl rfl
          · split
            · exact .inl rfl
            · exact .inl rfl

theorem stpT_reads {c : List St} (hc : CodeOk c) {t : Ty} (hi : InvS c t) {h : List (Bool × Int)} {r : List (Int × Int)} (hmay : mayT t h r = true) : (stpT t c h r).reads = t.reads ∨ ∃ x, (stpT t c h r).reads = t.reads ++ [x] ∧ NewRd h r x := by
  have hm := hmay
  simp only [mayT, Bool.and_eq_true, decide_eq_true_eq] at hm
  obtain ⟨hlt, hst⟩ := hi.run hm.2
  have hpc := hi.pc0
  have hs : c[t.pc.toNat]? = some (c[t.pc.toNat]'(by omega)) := List.getElem?_eq_getElem (by omega)
  obtain ⟨g1, _⟩ := hi.doT hc hmay hs
  have hd := doT_reads (t := t) (s := c[t.pc.toNat]'(by omega)) (h := h) (r := r) hm.1.2
  unfold stpT
  rw [hs]
  simp only
  split
  · exact hd
  · rename_i he
    simp only [ne_eq, Decidable.not_not] at he
    rw [(setT_ok g1 he).2.2.1]
    exact hd

end Go.Proofs.YtjhfpabldidlgaaGreat.AM

set_option linter.all false
set_option maxRecDepth 100000
set_option maxHeartbeats 8000000
namespace Go.Proofs.YtjhfpabldidlgaaGreat.AM
open Go Go.RowKit

theorem logKeep_mem {l : Lg} {x : Int × Int} (h : x ∈ (logKeep l).1.1) : x ∈ l.1 := by
  unfold logKeep at h; split at h <;> exact h
theorem logBack_mem {l : Lg} {x : Int × Int} (h : x ∈ (logBack l).1.1) : x ∈ l.1 := by
  unfold logBack at h; split at h
  · exact List.mem_of_mem_take h
  · exact h
theorem logMark_mem {l : Lg} {x : Int × Int} (h : x ∈ (logMark l).1.1) : x ∈ l.1 := by
  unfold logMark at h; split at h
  · split at h <;> exact h
  · exact h
theorem logPut_mem {l : Lg} {w x : Int × Int} (h : x ∈ (logPut l w).1.1) : x ∈ l.1 ∨ x = w := by
  unfold logPut at h; split at h
  · split at h
    · exact .inl h
    · rcases List.mem_append.1 h with g | g
      · exact .inl g
      · exact .inr (by simpa using g)
  · exact .inl h
theorem setF_log : ∀ (n : Nat) (t : Ty), (setF n t).who = t.who ∧ ∀ x ∈ (setF n t).log.1, x ∈ t.log.1
  | 0, t => ⟨rfl, fun _ h => h⟩
  | n + 1, t => by
    unfold setF
    split
    · split
      · obtain ⟨a, b⟩ := setF_log n (popT t _)
        exact ⟨a, fun x hx => logKeep_mem (b x hx)⟩
      · exact ⟨rfl, fun _ h => h⟩
    · exact ⟨rfl, fun _ h => h⟩
theorem setT_log (n : Int) (t : Ty) : (setT n t).who = t.who ∧ ∀ x ∈ (setT n t).log.1, x ∈ t.log.1 := by
  unfold setT doneT
  split <;> exact setF_log _ t
theorem doT_log (t : Ty) (s : St) (h : List (Bool × Int)) (r : List (Int × Int)) : (doT t s h r).who = t.who ∧ ∀ x ∈ (doT t s h r).log.1, x ∈ t.log.1 ∨ thereB h x.1 = true := by
  unfold doT
  split
  · unfold loadT
    split
    · exact ⟨rfl, fun _ h => .inl h⟩
    · split
      · exact ⟨rfl, fun _ h => .inl h⟩
      · split
        · exact ⟨rfl, fun _ h => .inl h⟩
        · split <;> exact ⟨rfl, fun _ h => .inl h⟩
  · split
    · exact ⟨rfl, fun _ h => .inl h⟩
    · split
      · unfold storeT
        split
        · exact ⟨rfl, fun _ h => .inl h⟩
        · rename_i hg
          simp only [ne_eq, Decidable.not_not] at hg
          refine ⟨rfl, fun x hx => ?_⟩
          rcases logPut_mem hx with g | g
          · exact .inl g
          · subst g; exact .inr (heapGet_0 hg).2.1
      · split
        · exact ⟨rfl, fun _ h => .inl h⟩
        · split
          · unfold agT
            split
            · exact ⟨rfl, fun _ h => .inl h⟩
            · exact ⟨rfl, fun x hx => .inl (logBack_mem hx)⟩
          · split
            · exact ⟨rfl, fun _ h => .inl h⟩
            · exact ⟨rfl, fun x hx => .inl (logMark_mem hx)⟩
theorem stpT_log (t : Ty) (c : List St) (h : List (Bool × Int)) (r : List (Int × Int)) : (stpT t c h r).who = t.who ∧ ∀ x ∈ (stpT t c h r).log.1, x ∈ t.log.1 ∨ thereB h x.1 = true := by
  unfold stpT
  split
  · rename_i s _
    obtain ⟨a, b⟩ := doT_log t s h r
    split
    · exact ⟨a, b⟩
    · obtain ⟨p, q⟩ := setT_log c.length (doT t s h r)
      exact ⟨by rw [p, a], fun x hx => b x (q x hx)⟩
  · exact ⟨rfl, fun _ h => .inl h⟩

structure RunOk (h : List (Bool × Int)) (r : List (Int × Int)) (who : Int) (t : Ty) : Prop where
  who : t.who = who
  reads : ∀ x ∈ t.reads, NewRd h r x
  live : ∀ x ∈ t.log.1, thereB h x.1 = true

theorem itT_run {c : List St} (hc : CodeOk c) {h : List (Bool × Int)} {r : List (Int × Int)} {who : Int} (hw : okW h r = true) : ∀ (k : Nat) (t : Ty), InvS c t → RunOk h r who t → RunOk h r who (itT c h r k t).1
  | 0, t, _, ho => ho
  | k + 1, t, hi, ho => by
    rw [itT]
    by_cases h0 : t.kind = 0
    · rw [if_pos h0]
      have hm : mayT t h r = true := by simp only [okW] at hw; simp [mayT, hw, h0]
      obtain ⟨s1, _⟩ := hi.stp hc hm
      have hr := stpT_reads hc hi hm
      obtain ⟨p, q⟩ := stpT_log t c h r
      refine itT_run hc hw k _ s1 ⟨by rw [p]; exact ho.who, fun x hx => ?_, fun x hx => ?_⟩
      · rcases hr with e | ⟨y, e, hy⟩
        · rw [e] at hx; exact ho.reads x hx
        · rw [e] at hx
          rcases List.mem_append.1 hx with g | g
          · exact ho.reads x g
          · simp at g; subst g; exact hy
      · rcases q x hx with g | g
        · exact ho.live x g
        · exact g
    · rw [if_neg h0]; exact ho

theorem begT_run {c : List St} {who snap : Int} (h : mayB c who snap = true) (hp : List (Bool × Int)) (r : List (Int × Int)) : RunOk hp r who (begT c who snap) ∧ whoB who = true := by
  have e : begT c who snap = setT c.length (newT who snap) := by simp [begT, h]
  have hc : CodeOk c := by simp only [mayB, Bool.and_eq_true, decide_eq_true_eq] at h; exact CodeOk.of h.1.1.1
  obtain ⟨_, _, g3, _⟩ := setT_ok (new_ok hc who snap) rfl
  obtain ⟨p, q⟩ := setT_log c.length (newT who snap)
  simp only [mayB, Bool.and_eq_true, decide_eq_true_eq] at h
  rw [e]
  refine ⟨⟨by rw [p]; rfl, ?_, ?_⟩, by simp [whoB, h.1.1.2, h.1.2]⟩
  · rw [g3]; simp [newT, zeroT]
  · intro x hx
    have := q x hx
    simp [newT, zeroT] at this

structure TryOk (c : List St) (who snap : Int) (w : Wl) (t : Ty) : Prop where
  code : CodeOk c
  inv : InvS c t
  snap : t.snap = snap
  whoB : whoB who = true
  run : t.reads = [] ∧ t.log.1 = [] ∨ okW w.heap w.tab = true
  ok : RunOk w.heap w.tab who t

theorem itT_stop' {c : List St} {h : List (Bool × Int)} {r : List (Int × Int)} {t : Ty} (hk : t.kind ≠ 0) : (runT t c h r).1 = t := by unfold runT; rw [itT_stop hk]
theorem begT_none {c : List St} {who snap : Int} (h : mayB c who snap = true) : (begT c who snap).reads = [] ∧ (begT c who snap).log.1 = [] := by
  obtain ⟨o, _⟩ := begT_run h [] []
  have hc : CodeOk c := by simp only [mayB, Bool.and_eq_true, decide_eq_true_eq] at h; exact CodeOk.of h.1.1.1
  have e : begT c who snap = setT c.length (newT who snap) := by simp [begT, h]
  obtain ⟨_, _, g3, _⟩ := setT_ok (new_ok hc who snap) rfl
  obtain ⟨_, q⟩ := setT_log c.length (newT who snap)
  rw [e]
  refine ⟨by rw [g3]; rfl, List.eq_nil_iff_forall_not_mem.2 (fun x hx => ?_)⟩
  have := q x hx
  simp [newT, zeroT] at this

theorem tryT_ok {c : List St} {who snap : Int} {w : Wl} (h : (tryT c who snap w).2 = true) : TryOk c who snap w (tryT c who snap w).1 := by
  unfold tryT at h ⊢
  by_cases hB : mayB c who snap = true
  · rw [if_pos hB] at h ⊢
    obtain ⟨ho, hi0, hsn⟩ := beg_ok hB
    obtain ⟨hr0, hwb⟩ := begT_run hB w.heap w.tab
    by_cases hbad : (begT c who snap).kind = 0 ∧ okW w.heap w.tab = false
    · rw [if_pos hbad] at h; simp at h
    · rw [if_neg hbad]
      by_cases h0 : (begT c who snap).kind = 0
      · have hw : okW w.heap w.tab = true := by
          cases e : okW w.heap w.tab with
          | true => rfl
          | false => exact absurd ⟨h0, e⟩ hbad
        obtain ⟨r1, r2, r3⟩ := runT_ok ho hw hi0
        exact ⟨ho, r1, by rw [r3, hsn], hwb, .inr hw, itT_run ho hw _ _ hi0 hr0⟩
      · simp only
        rw [itT_stop' h0]
        exact ⟨ho, hi0, hsn, hwb, .inl (begT_none hB), hr0⟩
  · rw [if_neg hB] at h; simp at h

theorem tryT_same {c : List St} {who snap : Int} {w : Wl} : (tryT c who snap w).1.frames.length ≤ 1000000 ∧ CSpec Tryz.prog 18 [dT (tryT c who snap w).1, dT (tryT c who snap w).1] (.bool true) := by
  cases h : (tryT c who snap w).2 with
  | true =>
    have ho := tryT_ok h
    exact ⟨by have := ho.inv.toInvT.lens ho.code; omega, same_ok ho.code ho.inv.toInvT⟩
  | false =>
    unfold tryT at h ⊢
    by_cases hB : mayB c who snap = true
    · rw [if_pos hB] at h ⊢
      obtain ⟨ho, hi0, hsn⟩ := beg_ok hB
      by_cases hbad : (begT c who snap).kind = 0 ∧ okW w.heap w.tab = false
      · rw [if_pos hbad]
        exact ⟨by have := hi0.toInvT.lens ho; simp only; omega, same_ok ho hi0.toInvT⟩
      · rw [if_neg hbad] at h; simp at h
    · rw [if_neg hB]
      exact ⟨by decide, zero_same⟩
theorem begC_same {c : List St} {who snap : Int} {w : Wl} : (begC (tryT c who snap w).1).t.frames.length ≤ 1000000 ∧ CSpec Tryz.prog 18 [dT (begC (tryT c who snap w).1).t, dT (begC (tryT c who snap w).1).t] (.bool true) := by
  unfold begC
  split
  · split <;> exact tryT_same
  · exact ⟨by decide, zero_same⟩

theorem begC_well {c : List St} {who snap : Int} {w : Wl} {t : Ty} (h : TryOk c who snap w t) (hd : t.kind = 1) : CmWell (begC t) ∧ (begC t).t = t ∧ ((begC t).phase = 5 ∧ t.log.1 = [] ∧ (begC t).version = t.snap ∨ (begC t).phase = 0 ∧ t.log.1 ≠ [] ∧ (begC t).version = 0) ∧ (begC t).err = 0 := by
  have hwho : whoB t.who = true := by rw [h.ok.who]; exact h.whoB
  have hrl := (readsR_parts.1 h.inv.rds).2.2
  unfold begC
  rw [if_pos hd]
  split
  · rename_i hl
    exact ⟨⟨⟨h.inv.log, by simp only; omega⟩, h.inv.rds, hwho, fun _ _ => rfl⟩, rfl, .inl ⟨rfl, by simpa using hl, rfl⟩, rfl⟩
  · rename_i hl
    exact ⟨⟨⟨h.inv.log, by simp only; omega⟩, h.inv.rds, hwho, fun _ _ => rfl⟩, rfl, .inr ⟨rfl, by simpa using hl, rfl⟩, rfl⟩
end Go.Proofs.YtjhfpabldidlgaaGreat.AM

set_option linter.all false
namespace Go.Proofs.YtjhfpabldidlgaaGreat.AM
open Go Go.RowKit

section
variable {P : Program} {E : Env} {C : Ctx} {n m : Nat}

theorem aops_soundL (hE : EOk P E) {all : Array Oper} {Q : Tmps → Heap → Prop} {Q' : Exit → Act → World → Prop} {L : List Nat} : ∀ (rest : List Oper) (k : Nat) {T : Tmps} {H : Heap} {φ : Nat → Option Loc} {S : Nat → Prop} {a : Act} {w : World}, (∀ i, i < rest.length → rest[i]? = all.toList[k + i]?) →
    Stands C n T H φ S a w → aops P E n all.toList rest T H Q → (∀ a' w', NextQ C n m φ S H w Q a' w' → wpOps P all Q' L a' w') → wpOps P all Q' ((List.range rest.length).map (k + ·) ++ L) a w
  | [], k, T, H, φ, S, a, w, _, hst, h, hQ => hQ _ _ ⟨T, H, φ, S, h, hst, .refl, .refl⟩
  | o :: rest, k, T, H, φ, S, a, w, hr, hst, h, hQ => by
    have ho : all[k]? = some o := by have := hr 0 (by simp); simpa using this.symm
    have hrest : ∀ i, i < rest.length → rest[i]? = all.toList[k + 1 + i]? := fun i hi => by have := hr (i + 1) (by simp; omega); rw [show k + (i + 1) = k + 1 + i by omega] at this; simpa using this
    have hlist : (List.range (o :: rest).length).map (k + ·) = k :: (List.range rest.length).map (k + 1 + ·) := by
      rw [List.length_cons, List.range_succ_eq_map]
      simp only [List.map_cons, List.map_map, Nat.add_zero]
      congr 1
      apply List.map_congr_left
      intro i _
      simp; omega
    rw [hlist, List.cons_append]
    simp only [wpOps, ho]
    have step : ∀ {T : Tmps}, Stands C n T H φ S a w → astep P E n o T H (fun T' H' => aops P E n all.toList rest T' H' Q) → o.wp P a w (wpOps P all Q' ((List.range rest.length).map (k + 1 + ·) ++ L)) Q' := fun {T} hst h => by
      refine Oper.wp_mono ?_ (astep_sound (m := m) (Q := Q') hE hst h)
      rintro a' w' ⟨T', H', φ', S', h1, h2, h3, h4⟩
      exact aops_soundL hE rest (k + 1) hrest h2 h1 (fun a'' w'' ⟨T2, H2, φ2, S2, g1, g2, g3, g4⟩ => hQ _ _ ⟨T2, H2, φ2, S2, g1, g2, h3.trans g3, h4.trans g4⟩)
    simp only [aops] at h
    split at h
    · rename_i hg
      have hw : Region.wanted o (yielded all a.tmps) = true := by simp [Region.wanted, hg]
      rw [if_pos hw]
      exact .inl (step hst h)
    · rename_i j want hg
      split at h
      · rename_i t ht
        split at h
        · rename_i b hb
          have hy := yielded_of ht hst.tmps hb
          have hv := hst.tmps t
          rw [hb] at hv
          split at h
          · rename_i hbw
            subst hbw
            have hw : Region.wanted o (yielded all a.tmps) = true := by simp [Region.wanted, hg, hy]
            rw [if_pos hw]
            exact .inl (step ⟨hst.heap, hst.tmps.told hv, hst.size, hst.defers⟩ h)
          · rename_i hbw
            have hw : ¬ Region.wanted o (yielded all a.tmps) = true := by simp [Region.wanted, hg, hy]; exact hbw
            rw [if_neg hw]
            have hbn : b = !want := by cases b <;> cases want <;> simp_all
            subst hbn
            exact aops_soundL hE rest (k + 1) hrest (Stands.skip ⟨hst.heap, hst.tmps.told hv, hst.size, hst.defers⟩ o.dst) h hQ
        · rename_i hb
          have hv := hst.tmps t
          rw [hb] at hv
          have hy := yielded_no ht (tuple0_inv hv)
          have hw : ¬ Region.wanted o (yielded all a.tmps) = true := by simp [Region.wanted, hg, hy]
          rw [if_neg hw]
          exact aops_soundL hE rest (k + 1) hrest (Stands.skip hst o.dst) h hQ
        · exact h.elim
      · exact h.elim

theorem range_cut (j l : Nat) (h : j ≤ l) : List.range l = (List.range j).map (0 + ·) ++ (List.range (l - j)).map (j + ·) := by
  refine List.ext_getElem? (fun i => ?_)
  rcases Nat.lt_or_ge i j with g | g
  · rw [List.getElem?_append_left (by simpa using g), List.getElem?_map, List.getElem?_range (by omega), List.getElem?_range g]; simp
  · rw [List.getElem?_append_right (by simpa using g), List.getElem?_map]
    simp only [List.length_map, List.length_range]
    rcases Nat.lt_or_ge i l with q | q
    · rw [List.getElem?_range q, List.getElem?_range (by omega)]; simp; omega
    · rw [List.getElem?_eq_none (by simpa using q), List.getElem?_eq_none (by simp; omega)]; rfl

theorem Snd.cut_ops (hE : EOk P E) (j : Nat) {id : Nat} {ops : Array Oper} {T : Tmps} {H : Heap} {Q : Ex → Tmps → Heap → Prop} (hj : j ≤ ops.size)
    (h : aops P E n ops.toList (ops.toList.take j) T H fun T1 H1 => ∃ T2 H2, Weak m T1 H1 T2 H2 ∧ aops P E n ops.toList (ops.toList.drop j) T2 H2 (Q .normal)) : Snd P E n m (.region id ops false) T H Q := fun C φ S a w hst => by
  refine wp_region ?_
  have key := aops_soundL (m := m) hE (all := ops) (Q' := PostQ C n m φ S H w Q) (L := (List.range (ops.size - j)).map (j + ·)) (ops.toList.take j) 0 (fun i hi => by
    have hi' : i < j := by simp at hi; omega
    rw [List.getElem?_take, if_pos hi', Nat.zero_add]) hst h ?_
  · have hl : (ops.toList.take j).length = j := by simp; omega
    rw [hl, ← range_cut j ops.size hj] at key
    simpa using key
  · rintro a' w' ⟨T1, H1, φ1, S1, ⟨T2, H2, hw, h2⟩, hst1, hs1, hk1⟩
    obtain ⟨φ2, S2, g1, g2, g3⟩ := hw C φ1 S1 w' a' hst1.heap hst1.tmps
    have := aops_sound (m := m) hE (all := ops) (Q := Q .normal) (Q' := PostQ C n m φ S H w Q) (ops.toList.drop j) j (fun i => by rw [List.getElem?_drop]) (by simp; omega) ⟨g1, g2, hst1.size, hst1.defers⟩ h2
      (fun a'' w'' ⟨T', H', φ', S', p1, p2, p3, p4⟩ => ⟨.normal, T', H', φ', S', p1, rfl, p2, hs1.trans (g3.trans p3), hk1.trans p4⟩)
    have hl : (ops.toList.drop j).length = ops.size - j := by simp
    rw [hl] at this
    exact this

theorem Snd.seqS {x y : Code} {T : Tmps} {H : Heap} {Q : Ex → Tmps → Heap → Prop} (h : Snd P E n m x T H (cutK P E n m y Q)) : Snd P E n m (.seq x y) T H Q := fun C φ S a w hst => by
  refine wp_seq (wp_mono (h C φ S a w hst) ?_)
  rintro e a1 w1 ⟨e', T', H', φ', S', hq, rfl, hst', hs', hk'⟩
  cases e' with
  | normal => exact wp_mono (hq C φ' S' a1 w1 hst') (fun e a2 w2 hp => hp.from hs' hk')
  | exit id => exact ⟨.exit id, T', H', φ', S', hq, rfl, hst', hs', hk'⟩
  | ret => exact ⟨.ret, T', H', φ', S', hq, rfl, hst', hs', hk'⟩
end
end Go.Proofs.YtjhfpabldidlgaaGreat.AM

set_option linter.all false
set_option maxRecDepth 100000
set_option maxHeartbeats 8000000
namespace Go.Proofs.YtjhfpabldidlgaaGreat.AM
open Go Go.RowKit

def k12 : List St := [⟨1, 1, 0, []⟩, ⟨3, 0, 0, [(1, 7)]⟩]
def w12 : Wl := ⟨[(true, 5)], [(2, 0)], 3⟩
def u12 : Ty := ⟨4, 3, 2, [0, 5, 0, 0, 0, 0, 0, 0], [], [(0, 2, 5)], ([(0, 7)], []), [], 1, 0⟩
def c12 : Cm := ⟨u12, 0, 0, 0⟩
def v12 : Wl := ⟨[(true, 7)], [(4, 0)], 4⟩

theorem k12_code : codeC k12 = 0 := by
  have h1 : (k12.any fun s => !mayS s) = false := by decide
  have h2 : wellW k12 = (0, true) := by simp [k12, wellW]
  unfold codeC
  rw [h1, h2]
  decide
theorem k12_ok : CodeOk k12 := CodeOk.of k12_code
theorem k12_t : ∀ s ∈ k12, s.t.length ≤ 1000000 := by decide
theorem n12_ok : InvS k12 (newT 4 3) := by
  have h := (setT_ok (new_ok k12_ok 4 3) rfl).1
  have e : setT (k12.length : Int) (newT 4 3) = newT 4 3 := by decide
  rwa [e] at h
theorem w12_1 : CSpec Tryz.prog 15 [.vec (k12.map dS), .int .i64 4, .int .i64 3] (.tuple [dT (newT 4 3), .int .i64 0]) := by
  have h := c_attempt_Begin k12 4 3 (by decide) k12_t
  have hB : mayB k12 4 3 = true := by simp [mayB, k12_code, tickR]
  have e : begT k12 4 3 = newT 4 3 := by
    unfold begT
    rw [if_pos hB]
    decide
  rw [e, if_pos hB] at h
  exact h
theorem w12_run : runT (newT 4 3) k12 [(true, 5)] [(2, 0)] = (u12, 2) := by decide
theorem w12_2 : CSpec Tryz.prog 51 [dT (newT 4 3), .vec (k12.map dS), .vec (w12.heap.map dC), .vec (w12.tab.map dW)] (.tuple [dT u12, .int .i64 2, .int .i64 0]) ∧ InvS k12 u12 := by
  have hr := c_attempt_Run k12 (newT 4 3) w12.heap w12.tab k12_ok n12_ok (by decide) k12_t
  have hw : okW w12.heap w12.tab = true := by decide
  have he : runT (newT 4 3) k12 w12.heap w12.tab = (u12, 2) := w12_run
  rw [if_neg (by rw [hw]; simp), he] at hr
  have hi := (runT_ok k12_ok hw n12_ok).1
  rw [he] at hi
  exact ⟨hr, hi⟩
theorem c12_ok : CmOk c12 := ⟨by decide, by decide⟩

theorem of12 (o : Int) (h : tableR [(2, o)] = true) : ofR [(2, o)] [0] = [0] := by
  have hm : mayO' [(2, o)] [0] = true := by simp [mayO', h, negI]
  unfold ofR
  rw [if_pos hm]
  have : placesL [(2, o)] [0] = [0] := by simp [placesL]
  rw [this]
  simp [srtI, cmpZ, cmpct, cmpctGo]
theorem cells12 : cellsC c12 = [0] := by decide
theorem lock12 : lockR [(2, 0)] 4 [0] = ([(2, 4)], 0) := by
  have e := of12 0 (by decide)
  unfold lockR
  rw [e, if_pos (by decide)]
  decide
theorem lock12' : lockR [(2, 1)] 4 [0] = ([(2, 1)], 7) := by
  have e := of12 1 (by decide)
  unfold lockR
  rw [e, if_pos (by decide)]
  decide
theorem all12 : allC c12 w12 = ((⟨u12, 5, 4, 0⟩, v12), 0) := by
  have s0 : stpC c12 w12 = (⟨u12, 1, 0, 0⟩, ⟨[(true, 5)], [(2, 4)], 3⟩) := by
    rw [stp_0 rfl, cells12]
    have e : lockR w12.tab c12.t.who [0] = ([(2, 4)], 0) := lock12
    rw [e]; rfl
  have s1 : stpC ⟨u12, 1, 0, 0⟩ ⟨[(true, 5)], [(2, 4)], 3⟩ = (⟨u12, 2, 4, 0⟩, ⟨[(true, 5)], [(2, 4)], 4⟩) := by
    rw [stp_1 rfl (by decide)]; rfl
  have s2 : stpC ⟨u12, 2, 4, 0⟩ ⟨[(true, 5)], [(2, 4)], 4⟩ = (⟨u12, 3, 4, 0⟩, ⟨[(true, 5)], [(2, 4)], 4⟩) := by
    rw [stp_2 rfl]
    have e : validR u12.reads [(2, 4)] u12.who = 0 := by decide
    rw [if_neg (by simp only; rw [e]; simp)]; rfl
  have s3 : stpC ⟨u12, 3, 4, 0⟩ ⟨[(true, 5)], [(2, 4)], 4⟩ = (⟨u12, 4, 4, 0⟩, ⟨[(true, 7)], [(2, 4)], 4⟩) := by
    rw [stp_3 rfl]
    have e : heapPut [(true, 5)] (lastW u12.log.1) = ([(true, 7)], 0) := by decide
    simp only [e]; rfl
  have s4 : stpC ⟨u12, 4, 4, 0⟩ ⟨[(true, 7)], [(2, 4)], 4⟩ = (⟨u12, 5, 4, 0⟩, v12) := by
    rw [stp_4 rfl]
    have e : stampR [(2, 4)] u12.who 4 = ([(4, 0)], 0) := by decide
    simp only [e]; rfl
  unfold allC
  rw [allN_succ, if_pos (by decide), if_pos (by decide), s0, allN_succ, if_pos (by decide), if_pos (by decide), s1, allN_succ, if_pos (by decide), if_pos (by decide), s2, allN_succ, if_pos (by decide), if_pos (by decide), s3, allN_succ, if_pos (by decide), if_pos (by decide), s4, allN_succ, if_neg (by decide)]
theorem held12 : allC c12 ⟨[(true, 5)], [(2, 1)], 3⟩ = ((⟨u12, 6, 0, 7⟩, ⟨[(true, 5)], [(2, 1)], 3⟩), 0) := by
  have s0 : stpC c12 ⟨[(true, 5)], [(2, 1)], 3⟩ = (⟨u12, 6, 0, 7⟩, ⟨[(true, 5)], [(2, 1)], 3⟩) := by
    rw [stp_0 rfl, cells12]
    have e : lockR [(2, 1)] c12.t.who [0] = ([(2, 1)], 7) := lock12'
    simp only [e]
    rw [if_pos (by decide)]
    have e2 : letR [(2, 1)] c12.t.who = [(2, 1)] := by decide
    unfold goneC
    simp only [e2]; rfl
  unfold allC
  rw [allN_succ, if_pos (by decide), if_pos (by decide), s0, allN_succ, if_neg (by decide)]

theorem c_awake12 : CSpec Tryz.prog 28 [] (.bool true) := by
  have q1 := w12_1
  have q2 := w12_2.1
  have q3 := c_commit_Begin (newT 4 3)
  have q4 := c_commit_Begin u12
  have q5 := c_commit_All c12 w12 c12_ok
  have q6 := c_commit_All c12 ⟨[(true, 5)], [(2, 1)], 3⟩ c12_ok
  have q7 := c_commit_Step ⟨u12, 5, 4, 0⟩ v12 ⟨by decide, by decide⟩
  have q8 := c_commit_Drop c12 w12 c12_ok
  have q9 := c_commit_Right v12
  have e3 : begC (newT 4 3) = zeroCm ∧ doneB (newT 4 3) = false := ⟨rfl, rfl⟩
  have e4 : begC u12 = c12 ∧ doneB u12 = true := ⟨rfl, rfl⟩
  have e7 : mayC ⟨u12, 5, 4, 0⟩ v12 = false := by decide
  have e7' : cmStep ⟨u12, 5, 4, 0⟩ v12 = (⟨u12, 5, 4, 0⟩, v12) := by simp [cmStep, e7]
  have e8 : dropC c12 w12 = (⟨u12, 6, 0, 8⟩, w12) := by
    unfold dropC
    rw [if_neg (by decide), if_pos (by decide)]
    rfl
  have e9 : mayW v12 = true := by decide
  rw [e3.1, e3.2, if_neg (by decide)] at q3
  rw [e4.1, e4.2, if_pos rfl] at q4
  rw [all12] at q5
  rw [held12] at q6
  rw [e7, e7', if_neg (by decide)] at q7
  rw [e8] at q8
  rw [e9] at q9
  simp only [dT, tyC, dCm, cmC, dWl, newT, zeroT, u12, v12, c12, w12, zeroCm, List.map_cons, List.map_nil, dI, dRd, dW, dFr, dC] at q1 q2 q3 q4 q5 q6 q7 q8 q9
  refine CSpec.of_snd envOf_ok hmix Tryz.func28 rfl (fun args w => Tryz.call28 args w) (by simp [Tryz.f28]) ?_
  simp only [Tryz.f28]
  refine Snd.upto envOf_ok hmix 2 _ ?_
  simp only [hdN, tlN]
  simp (maxSteps := 2000000) -implicitDefEqProofs only [zz, zE, evop, ev, ofVal, tget, tput, ok, V.isUndef, initT, Ch.on, hget, hput, V.cells, D.cells, V.one, V.clo, clos, V.toD, sliceOf, partsD, partsV, splice, ↓reduceIte, Nat.reduceLT, Nat.reduceEqDiff, Nat.reduceAdd, Nat.reduceMul, Nat.reduceLeDiff, cutK_normal]
  refine Snd.weak (T' := [(1, .ptr 2 0 0)]) (Weak.sealed [0, 1] (by simp [tget, sealF])) ?_
  simp only [sealH, AM.freeze, hput, hget, Blk.ice, List.map_cons, List.map_nil, sealB, sealF]
  refine Snd.weak (T' := [(1, .d (.imm (dWl w12) 0))]) (H' := []) (Weak.close [2] 0 (by simp) rfl (by simp [tget, sealF, hget, V.lower, xport, xports, tids, tidss, dW, dC, dWl, w12]) (by simp)) ?_
  refine Snd.seqS (Snd.cut_ops envOf_ok 3 (by decide) ?_)
  simp only [List.take, List.drop]
  simp (maxSteps := 2000000) -implicitDefEqProofs only [zz, zE, evop, ev, ofVal, tget, tput, ok, V.isUndef, Ch.on, hput, V.cells, D.cells, V.one, V.clo, clos, V.toD, sliceOf, partsD, partsV, splice, ↓reduceIte, Nat.reduceLT, Nat.reduceAdd, Nat.reduceMul, Nat.reduceLeDiff]
  refine ⟨[(28, .d (.vec [dW (1, 7)])), (26, .agg [.d (.int .i64 1), .d (.int .i64 1), .d (.int .i64 0), .nils]), (1, .d (.imm (dWl w12) 0))], [], Weak.close [0] 0 (by simp) rfl (by simp [tget, sealF, hget, V.lower, lowerL, dW]) (by simp), ?_⟩
  simp (maxSteps := 2000000) -implicitDefEqProofs only [zz, zE, evop, ev, ofVal, tget, tput, ok, V.isUndef, Ch.on, hput, V.cells, D.cells, V.one, V.clo, clos, V.toD, sliceOf, partsD, partsV, splice, ↓reduceIte, Nat.reduceLT, Nat.reduceEqDiff, Nat.reduceAdd, Nat.reduceMul, Nat.reduceLeDiff, dW, cutK_normal]
  refine Snd.weak (T' := [(2, .d (.vec (k12.map dS))), (1, .d (.imm (dWl w12) 0))]) (H' := []) (Weak.close [0] 0 (by simp) rfl (by simp [tget, sealF, hget, V.lower, dW, dS, k12]) (by simp)) ?_
  refine Snd.of_awp envOf_ok hmix ?_
  simp only [dWl, w12, List.map_cons, List.map_nil, dC, dW]
  simp (maxSteps := 2000000) -implicitDefEqProofs only [zz, evop, ev, ofVal, tget, tput, ok, V.isUndef, Ch.on, calleeOf, withArgs, ↓reduceIte, Nat.reduceLT]
  refine acall_ice' (q1) ?_
  try simp (maxSteps := 2000000) -implicitDefEqProofs only [zz, zE, evop, ev, tget, tput, ok, V.isUndef, Ch.on, calleeOf, withArgs, tids, tidss, hget, hput, freeze, V.cells, V.one, splice, ↓reduceIte, Nat.reduceLT, Nat.reduceEqDiff, Nat.reduceAdd, Nat.reduceLeDiff]
  refine acall_ice' (q3) ?_
  try simp (maxSteps := 2000000) -implicitDefEqProofs only [zz, zE, evop, ev, tget, tput, ok, V.isUndef, Ch.on, calleeOf, withArgs, tids, tidss, hget, hput, freeze, V.cells, D.cells, V.one, loadD, structAt, splice, ↓reduceIte, reduceCtorEq, Nat.reduceLT, Nat.reduceEqDiff, Nat.reduceAdd, Nat.reduceLeDiff]
  refine acall_ice' (q2) ?_
  try simp (maxSteps := 2000000) -implicitDefEqProofs only [zz, zE, evop, ev, tget, tput, ok, V.isUndef, Ch.on, calleeOf, withArgs, tids, tidss, hget, hput, freeze, V.cells, V.one, splice, ↓reduceIte, Nat.reduceLT, Nat.reduceEqDiff, Nat.reduceAdd, Nat.reduceLeDiff]
  refine acall_ice' (q4) ?_
  try simp (maxSteps := 2000000) -implicitDefEqProofs only [zz, zE, evop, ev, tget, tput, ok, V.isUndef, Ch.on, calleeOf, withArgs, tids, tidss, hget, hput, freeze, V.cells, D.cells, V.one, loadD, splice, ↓reduceIte, Nat.reduceLT, Nat.reduceEqDiff, Nat.reduceAdd, Nat.reduceLeDiff]
  refine acall_ice' (q5) ?_
  try simp (maxSteps := 2000000) -implicitDefEqProofs only [zz, zE, evop, ev, ofVal, tget, tput, ok, V.isUndef, Ch.on, calleeOf, withArgs, tids, tidss, hget, hput, freeze, V.cells, D.cells, V.one, V.clo, clos, V.toD, loadD, structAt, sliceOf, partsD, partsV, splice, ↓reduceIte, reduceCtorEq, Nat.reduceLT, Nat.reduceEqDiff, Nat.reduceAdd, Nat.reduceMul, Nat.reduceLeDiff]
  refine acall_ice' (q6) ?_
  try simp (maxSteps := 2000000) -implicitDefEqProofs only [zz, zE, evop, ev, tget, tput, ok, V.isUndef, Ch.on, calleeOf, withArgs, tids, tidss, hget, hput, Blk.ice, freeze, V.cells, V.one, splice, ↓reduceIte, Nat.reduceLT, Nat.reduceEqDiff, Nat.reduceAdd, Nat.reduceLeDiff]
  refine acall_ice' (q7) ?_
  try simp (maxSteps := 2000000) -implicitDefEqProofs only [zz, zE, evop, ev, tget, tput, ok, V.isUndef, Ch.on, calleeOf, withArgs, tids, tidss, hget, hput, freeze, V.cells, D.cells, V.one, loadD, splice, ↓reduceIte, Nat.reduceLT, Nat.reduceEqDiff, Nat.reduceAdd, Nat.reduceLeDiff]
  refine acall_ice' (q8) ?_
  try simp (maxSteps := 2000000) -implicitDefEqProofs only [zz, zE, evop, ev, ofVal, tget, tput, ok, V.isUndef, intBin, guardOf, Ch.on, calleeOf, withArgs, xport, tids, tidss, hget, hput, freeze, V.cells, D.cells, V.isAgg, V.one, V.clo, clos, loadD, structAt, eqCells, D.scalarEq, sliceOf, partsV, Blk.width, lenOf, splice, resOf, resV, resVs, ↓reduceIte, reduceCtorEq, Nat.reduceLT, Nat.reduceEqDiff, Nat.reduceAdd, Nat.reduceLeDiff, nilTest]
  have e1 : (((1 : Nat) : Int) == 1) = true := rfl
  simp (maxSteps := 2000000) -implicitDefEqProofs only [zz, ↓reduceIte, e1, Int.le_refl]
  refine acall_flat' (q9) rfl ?_
  try simp (maxSteps := 2000000) -implicitDefEqProofs only [zz, evop, ev, ofVal, tget, tput, ok, V.isUndef, Ch.on, xport, resOf, resV, resVs, ↓reduceIte, Nat.reduceLT, Nat.reduceEqDiff]
end Go.Proofs.YtjhfpabldidlgaaGreat.AM

set_option linter.all false
set_option maxRecDepth 100000
set_option maxHeartbeats 8000000
namespace Go.Proofs.YtjhfpabldidlgaaGreat.AM
open Go Go.RowKit

theorem goneC_t (c : Cm) (w : Wl) (e : Int) : (goneC c w e).1.t = c.t ∧ (goneC c w e).2.heap = w.heap ∧ (goneC c w e).2.tab.length = w.tab.length := ⟨rfl, rfl, by simp [goneC, letR, setsL_len]⟩
theorem stpC_lens (c : Cm) (w : Wl) : (stpC c w).2.heap.length = w.heap.length ∧ (stpC c w).2.tab.length = w.tab.length := by
  obtain ⟨k1, k2, k3, k4⟩ := phaseW_t c w
  have kh : (phaseW c w).1.2.heap.length = w.heap.length := by
    unfold phaseW
    split
    · rfl
    · split
      · split <;> rfl
      · split
        · rfl
        · split
          · exact heapPut_len ..
          · rfl
  unfold stpC
  split
  · obtain ⟨_, a, b⟩ := goneC_t (phaseW c w).1.1 (phaseW c w).1.2 (phaseW c w).2
    rw [a, b]; exact ⟨kh, k4⟩
  · exact ⟨kh, k4⟩
theorem cmStep_keeps {c : Cm} {w : Wl} : (cmStep c w).1.t = c.t ∧ (cmStep c w).2.heap.length = w.heap.length ∧ (cmStep c w).2.tab.length = w.tab.length := by
  unfold cmStep
  split
  · exact ⟨(stpC_phase c w).2, stpC_lens c w⟩
  · exact ⟨rfl, rfl, rfl⟩
theorem allN_keeps : ∀ (n : Nat) {c : Cm} {w : Wl} {z : Cm × Wl}, allN n c w = some z → z.1.t = c.t ∧ z.2.heap.length = w.heap.length ∧ z.2.tab.length = w.tab.length
  | 0, c, w, z, h => by cases h
  | n + 1, c, w, z, h => by
    rw [allN_succ] at h
    split at h
    · split at h
      · obtain ⟨a, b, d⟩ := allN_keeps n h
        obtain ⟨p, q⟩ := stpC_lens c w
        exact ⟨by rw [a, (stpC_phase c w).2], by rw [b, p], by rw [d, q]⟩
      · cases h
    · cases h; exact ⟨rfl, rfl, rfl⟩
theorem allC_keeps {c : Cm} {w : Wl} : (allC c w).1.1.t = c.t ∧ (allC c w).1.2.heap.length = w.heap.length ∧ (allC c w).1.2.tab.length = w.tab.length := by
  unfold allC
  cases h : allN 6 c w with
  | none => exact ⟨rfl, rfl, rfl⟩
  | some z => exact allN_keeps 6 h
theorem dropC_keeps {c : Cm} {w : Wl} : (dropC c w).1.t = c.t ∧ (dropC c w).2.heap.length = w.heap.length ∧ (dropC c w).2.tab.length = w.tab.length := by
  unfold dropC
  split
  · exact ⟨rfl, rfl, rfl⟩
  · split
    · exact ⟨rfl, rfl, (goneC_t c w 8).2.2⟩
    · exact allC_keeps
theorem cmStep_well {c : Cm} {w : Wl} (h : CmWell c) (hp : 0 ≤ c.phase) : CmWell (cmStep c w).1 ∧ 0 ≤ (cmStep c w).1.phase := by
  unfold cmStep
  split
  · rename_i hm
    simp only [mayC, Bool.and_eq_true, decide_eq_true_eq] at hm
    obtain ⟨q1, q2⟩ := stpC_phase c w
    have hk := stpC_keeps (w := w) hm.2 hp (h.err hp hm.2)
    exact ⟨⟨⟨by rw [q2]; exact h.log, by rw [q2]; exact h.reads⟩, by rw [q2]; exact h.rds, by rw [q2]; exact h.who, fun _ => hk⟩, by omega⟩
  · exact ⟨h, hp⟩

theorem renL_d (ρ : Nat → Nat) (H : Heap) : ∀ ds : List D, RenL ρ H (ds.map V.d) (ds.map V.d)
  | [] => .nil
  | d :: r => .cons (.same (.d d)) (renL_d ρ H r)
theorem smallW_t {w : Wl} (h : smallW w = true) : w.heap.length ≤ 80 ∧ w.tab.length ≤ 30 := by simpa [smallW] using h

theorem c_CommitTells (c : List St) (who snap : Int) (w : Wl) (l : List Wl) (hcl : c.length ≤ 9223372036854775807) (hll : l.length ≤ 9223372036854775807) :
    CSpec Tryz.prog 6 [.vec (c.map dS), .int .i64 who, .int .i64 snap, dWl w, .vec (l.map dWl)] (.bool true) := by
  have hsw := c_law12_small w
  refine CSpec.of_awp envOf_ok hmix Tryz.func6 rfl (fun args w => Tryz.call6 args w) (by simp [Tryz.f6]) ?_
  simp only [Tryz.f6]
  simp (maxSteps := 2000000) -implicitDefEqProofs only [zz, zE, evop, ev, tget, V.isUndef, initT, V.cells, ↓reduceIte, reduceCtorEq, Nat.reduceEqDiff, Nat.reduceAdd]
  rw [show dWl w = .agg [.vec (w.heap.map dC), .vec (w.tab.map dW), .int .i64 w.clock] from rfl]
  unfold dWl at hsw
  simp (maxSteps := 2000000) -implicitDefEqProofs only [zz, evop, ev, ofVal, tget, tput, ok, V.isUndef, Ch.on, calleeOf, withArgs, hput, ↓reduceIte, reduceCtorEq, Nat.reduceLT]
  refine acall_flat' (c_law08_Small c hcl) rfl ?_
  try simp (maxSteps := 2000000) -implicitDefEqProofs only [zz, zE, evop, ev, ofVal, tget, tput, ok, V.isUndef, intBin, guardOf, Ch.on, calleeOf, withArgs, told, hget, ↓reduceIte, Nat.reduceLT, Nat.reduceEqDiff, Nat.reduceAdd, Nat.reduceLeDiff, nilTest]
  by_cases hs : smallC c < 0
  · simp (maxSteps := 2000000) -implicitDefEqProofs only [zz, ↓reduceIte, hs]
    refine acall_flat' (c_awake12) rfl ?_
    try simp (maxSteps := 2000000) -implicitDefEqProofs only [zz, evop, ev, tget, tput, ok, V.isUndef, Ch.on, xport, resOf, resV, resVs, ↓reduceIte, Nat.reduceLT]
  simp (maxSteps := 2000000) -implicitDefEqProofs only [zz, ↓reduceIte, hs]
  refine acall_flat' (hsw) rfl ?_
  try simp (maxSteps := 2000000) -implicitDefEqProofs only [zz, zE, evop, ev, ofVal, tget, tput, ok, V.isUndef, intBin, guardOf, Ch.on, calleeOf, withArgs, told, hget, sliceOf, lenOf, ↓reduceIte, reduceCtorEq, Nat.reduceLT, Nat.reduceEqDiff, Nat.reduceAdd, Nat.reduceLeDiff, nilTest]
  cases hw : smallW w with
  | false =>
    simp (maxSteps := 2000000) -implicitDefEqProofs only [zz, ↓reduceIte]
    refine acall_flat' (c_awake12) rfl ?_
    try simp (maxSteps := 2000000) -implicitDefEqProofs only [zz, evop, ev, tget, tput, ok, V.isUndef, Ch.on, xport, resOf, resV, resVs, ↓reduceIte, Nat.reduceLT]
  | true =>
  by_cases hl : (l.length : Int) > 20
  · simp (maxSteps := 2000000) -implicitDefEqProofs only [zz, ↓reduceIte, hl]
    refine acall_flat' (c_awake12) rfl ?_
    try simp (maxSteps := 2000000) -implicitDefEqProofs only [zz, evop, ev, tget, tput, ok, V.isUndef, Ch.on, xport, resOf, resV, resVs, ↓reduceIte, Nat.reduceLT]
  obtain ⟨s1, s2⟩ := smallC_0 hs
  obtain ⟨s3, s4⟩ := smallW_t hw
  have htl : ∀ s ∈ c, s.t.length ≤ 1000000 := fun s h => by have := s2 s h; omega
  have ht := c_tried c who snap w (by omega) htl (by omega)
  have hb := c_commit_Begin (tryT c who snap w).1
  have hb2 := c_r12_Begin (tryT c who snap w).1
  have hr1 := c_law11_Ref (tryT c who snap w).1 tryT_same.1
  have hr2 := c_law12_Ref (begC (tryT c who snap w).1) begC_same.1
  have hsm := c_r12_Same (begC (tryT c who snap w).1) begC_same.2
  have hcr := c_commit_Right w
  have hrr := c_r12_Right w (by omega) (by omega)
  have hww := c_law12_Worlds w
  have good : (tryT c who snap w).2 = true → doneB (tryT c who snap w).1 = true → CmWell (begC (tryT c who snap w).1) ∧ 0 ≤ (begC (tryT c who snap w).1).phase ∧ CodeOk c ∧ InvS c (begC (tryT c who snap w).1).t := fun a b => by
    have h1 := tryT_ok a
    have b' : (tryT c who snap w).1.kind = 1 := by simpa [doneB] using b
    obtain ⟨g1, g2, g3, g4⟩ := begC_well h1 b'
    exact ⟨g1, by rcases g3 with g | g <;> omega, h1.code, by rw [g2]; exact h1.inv⟩
  generalize (tryT c who snap w).2 = b1 at ht good
  generalize hD : doneB (tryT c who snap w).1 = b2 at hb hb2 good
  generalize begC (tryT c who snap w).1 = c0 at hb hb2 hr2 hsm good
  generalize (tryT c who snap w).1 = t at ht hb hb2 hr1
  clear hD
  unfold dT tyC at ht hb hb2 hr1
  unfold dCm cmC at hb hb2 hr2 hsm
  unfold dWl at ht hcr hrr hww
  have e00 : ((0 : Int) == 0) = true := rfl
  have e10 : ((1 : Int) == 0) = false := rfl
  have e11 : ((1 : Int) != 1) = false := rfl
  have eb : ∀ b : Bool, (b != b) = false := fun b => by cases b <;> rfl
  simp (maxSteps := 2000000) -implicitDefEqProofs only [zz, ↓reduceIte, hl]
  refine acall_ice' (ht) ?_
  try simp (maxSteps := 2000000) -implicitDefEqProofs only [zz, zE, evop, ev, tget, tput, ok, V.isUndef, Ch.on, calleeOf, withArgs, tids, tidss, hget, hput, freeze, V.cells, V.one, splice, ↓reduceIte, Nat.reduceLT, Nat.reduceEqDiff, Nat.reduceAdd, Nat.reduceLeDiff]
  refine acall_ice' (hb) ?_
  try simp (maxSteps := 2000000) -implicitDefEqProofs only [zz, zE, evop, ev, tget, tput, ok, V.isUndef, Ch.on, calleeOf, withArgs, tids, tidss, hget, hput, freeze, V.cells, V.one, splice, ↓reduceIte, Nat.reduceLT, Nat.reduceEqDiff, Nat.reduceAdd, Nat.reduceLeDiff]
  refine acall_ice' (hr1) ?_
  try simp (maxSteps := 2000000) -implicitDefEqProofs only [zz, ev, tget, tput, calleeOf, withArgs, tids, tidss, freeze, ↓reduceIte, Nat.reduceLT]
  refine acall_ice' (hb2) ?_
  try simp (maxSteps := 2000000) -implicitDefEqProofs only [zz, zE, evop, ev, tget, tput, ok, V.isUndef, Ch.on, tids, tidss, hget, hput, freeze, V.cells, V.one, splice, ↓reduceIte, Nat.reduceLT, Nat.reduceEqDiff, Nat.reduceAdd, Nat.reduceLeDiff]
  refine wdraw_plan [⟨[], false, [64], [], false⟩, ⟨[0], false, [64], [], false⟩, ⟨[], false, [62, 63], [0, 1], false⟩, ⟨[0, 1, 2], true, [], [], false⟩, ⟨[0, 1, 2, 3], true, [], [], false⟩, ⟨[0, 1, 2, 3, 4], true, [], [], false⟩, ⟨[0, 1, 2, 3, 4, 5], true, [], [], false⟩, ⟨[0, 1, 2, 3, 4, 5, 6], false, [71], [], false⟩, ⟨[0, 1, 2, 3, 4, 5, 6, 7], false, [71], [], false⟩, ⟨[0, 1, 2, 3, 4, 5, 6], false, [69, 70], [7, 8], false⟩, ⟨[0, 1, 2, 3, 4, 5, 6, 7, 8, 9], false, [], [], false⟩, ⟨[0, 1, 2, 3, 4, 5, 6, 7, 8, 9, 10], true, [], [], false⟩, ⟨[0, 1, 2, 3, 4, 5, 6, 7, 8, 9, 10, 11], true, [], [], false⟩, ⟨[0, 1, 2, 3, 4, 5, 6, 7, 8, 9, 10, 11, 12], false, [], [], false⟩, ⟨[0, 1, 2, 3, 4, 5, 6, 7, 8, 9, 10, 11, 12, 13], false, [], [], false⟩, ⟨[0, 1, 2, 3, 4, 5, 6, 7, 8, 9, 10, 11, 12, 13, 14], false, [], [], false⟩, ⟨[0, 1, 2, 3, 4, 5, 6, 7, 8, 9, 10, 11, 12, 13, 14, 15], false, [], [], false⟩, ⟨[0, 1, 2, 3, 4, 5, 6, 7, 8, 9, 10, 11, 12, 13, 14, 15, 16], false, [], [], false⟩, ⟨[0, 1, 2, 3, 4, 5, 6, 7, 8, 9, 10, 11, 12, 13, 14, 15, 16, 17], false, [], [], false⟩, ⟨[0, 1, 2, 3, 4, 5, 6, 7, 8, 9, 10, 11, 12, 13, 14, 15, 16, 17, 18], true, [], [], false⟩, ⟨[0, 1, 2, 3, 4, 5, 6, 7, 8, 9, 10, 11, 12, 13, 14, 15, 16, 17, 18, 19], true, [], [], false⟩, ⟨[0, 1, 2, 3, 4, 5, 6, 7, 8, 9, 10, 11, 12, 13, 14, 15, 16, 17, 18, 19, 20], false, [85], [], false⟩, ⟨[0, 1, 2, 3, 4, 5, 6, 7, 8, 9, 10, 11, 12, 13, 14, 15, 16, 17, 18, 19, 20, 21], false, [85], [], false⟩, ⟨[0, 1, 2, 3, 4, 5, 6, 7, 8, 9, 10, 11, 12, 13, 14, 15, 16, 17, 18, 19, 20], false, [83, 84], [21, 22], false⟩, ⟨[0, 1, 2, 3, 4, 5, 6, 7, 8, 9, 10, 11, 12, 13, 14, 15, 16, 17, 18, 19, 20, 21, 22, 23], false, [], [], false⟩, ⟨[0, 1, 2, 3, 4, 5, 6, 7, 8, 9, 10, 11, 12, 13, 14, 15, 16, 17, 18, 19, 20, 21, 22, 23, 24], false, [], [], false⟩, ⟨[0, 1, 2, 3, 4, 5, 6, 7, 8, 9, 10, 11, 12, 13, 14, 15, 16, 17, 18, 19, 20, 21, 22, 23, 24, 25], true, [], [], false⟩] (by decide) ?_
  simp (maxSteps := 2000000) -implicitDefEqProofs only [zz, zE, evop, ev, ofVal, tget, tput, ok, V.isUndef, calleeOf, withArgs, hget, hput, ↓reduceIte, Nat.reduceLT, Nat.reduceEqDiff, Nat.reduceAdd, Nat.reduceLeDiff]
  first | refine acall_flat' (hcr) rfl ?_ | refine dcall_flat' (hcr) rfl ?_ | refine acall_ice' (hcr) ?_ | refine dcall_still' (hcr) rfl ?_
  try skip
  first | refine acall_flat' (hww) rfl ?_ | refine dcall_flat' (hww) rfl ?_ | refine acall_ice' (hww) ?_ | refine dcall_still' (hww) rfl ?_
  try simp (maxSteps := 2000000) -implicitDefEqProofs only [zz, ev, ofVal, tget, tput, V.isUndef, calleeOf, withArgs, tids, tidss, freeze, ↓reduceIte, Nat.reduceLT, Nat.reduceAdd]
  first | refine acall_flat' (hrr) rfl ?_ | refine dcall_flat' (hrr) rfl ?_ | refine acall_ice' (hrr) ?_ | refine dcall_still' (hrr) rfl ?_
  try simp (maxSteps := 2000000) -implicitDefEqProofs only [zz, zE, evop, ev, ofVal, tget, tput, ok, V.isUndef, intBin, guardOf, Ch.on, calleeOf, withArgs, told, xport, hget, hput, V.cells, V.isAgg, V.clo, clos, resOf, resV, resVs, ↓reduceIte, Nat.reduceLT, Nat.reduceEqDiff, Nat.reduceAdd, Nat.reduceSub, Nat.reduceLeDiff]
  have e6 := eb (mayW w)
  generalize mayW w = mw at e6
  cases b2 with
  | false =>
    simp (maxSteps := 2000000) -implicitDefEqProofs only [zz, ↓reduceIte, e10]
    first | refine acall_flat' (hr2) rfl ?_ | refine dcall_flat' (hr2) rfl ?_ | refine acall_ice' (hr2) ?_ | refine dcall_still' (hr2) rfl ?_
    try simp (maxSteps := 2000000) -implicitDefEqProofs only [zz]
    first | refine acall_flat' (hsm) rfl ?_ | refine dcall_flat' (hsm) rfl ?_ | refine acall_ice' (hsm) ?_ | refine dcall_still' (hsm) rfl ?_
    try simp (maxSteps := 2000000) -implicitDefEqProofs only [zz, zE, evop, ev, ofVal, tget, tput, ok, V.isUndef, Ch.on, told, sliceOf, lenOf, ↓reduceIte, reduceCtorEq, Nat.reduceLT, Nat.reduceEqDiff, Nat.reduceAdd]
    refine wloop_ind (σ := Unit) (fun _ => 0) (fun _ => [(91, .d (.int .i64 0)), (90, .d (.int .i64 l.length)), (89, .d (.vec (l.map dWl))), (12, .d (.bool b1)), (16, .d (.bool false))]) (fun _ => []) (fun _ => True) () trivial (Weak.trims 0 rfl (by simp [tget, V.lower]) (by simp)) ?_
    intro _ _
    by_cases h0 : 0 < l.length
    · have h' : ((0 : Int) < (l.length : Int)) := by omega
      have hx : l[0]? = some l[0] := List.getElem?_eq_getElem h0
      have hsx := c_law12_small l[0]
      generalize l[0] = x at hx hsx
      unfold dWl at hsx
      simp (maxSteps := 2000000) -implicitDefEqProofs only [zz, zE, evop, ev, tget, tput, ok, intBin, Ch.on, calleeOf, withArgs, told, hget, hput, V.cells, D.cells, V.one, loadD, splice, ↓reduceIte, Nat.reduceLT, Nat.reduceEqDiff, Nat.reduceAdd, Nat.reduceLeDiff, nilTest, h', List.getElem?_map, hx, Option.map_some, dWl, Int.le_refl]
      first | refine acall_flat' (hsx) rfl ?_ | refine dcall_flat' (hsx) rfl ?_ | refine acall_ice' (hsx) ?_ | refine dcall_still' (hsx) rfl ?_
      try simp (maxSteps := 2000000) -implicitDefEqProofs only [zz, evop, ev, ofVal, tget, tput, ok, V.isUndef, guardOf, Ch.on, calleeOf, withArgs, told, ↓reduceIte, reduceCtorEq, Nat.reduceLT, Nat.reduceEqDiff]
      cases hsb : smallW x with
      | false =>
        simp (maxSteps := 2000000) -implicitDefEqProofs only [zz, ↓reduceIte]
        refine acall_flat' (c_awake12) rfl ?_
        try simp (maxSteps := 2000000) -implicitDefEqProofs only [zz, evop, ev, tget, tput, ok, V.isUndef, Ch.on, xport, resOf, resV, resVs, ↓reduceIte, Nat.reduceLT]
      | true =>
        cases b1 with
        | false =>
          simp (maxSteps := 2000000) -implicitDefEqProofs only [zz, ↓reduceIte]
          refine acall_flat' (c_awake12) rfl ?_
          try simp (maxSteps := 2000000) -implicitDefEqProofs only [zz, evop, ev, tget, tput, ok, V.isUndef, Ch.on, xport, resOf, resV, resVs, ↓reduceIte, Nat.reduceLT]
        | true =>
          simp (maxSteps := 2000000) -implicitDefEqProofs only [zz, ↓reduceIte]
          refine acall_flat' (c_awake12) rfl ?_
          try simp (maxSteps := 2000000) -implicitDefEqProofs only [zz, evop, ev, tget, tput, ok, V.isUndef, Ch.on, xport, resOf, resV, resVs, ↓reduceIte, Nat.reduceLT]
    · have h' : ¬ ((0 : Int) < (l.length : Int)) := by omega
      simp (maxSteps := 2000000) -implicitDefEqProofs only [zz, evop, ev, tget, tput, intBin, Ch.on, calleeOf, withArgs, told, ↓reduceIte, Nat.reduceLT, Nat.reduceEqDiff, nilTest, h']
      refine acall_flat' (c_awake12) rfl ?_
      try simp (maxSteps := 2000000) -implicitDefEqProofs only [zz, evop, ev, tget, tput, ok, V.isUndef, Ch.on, xport, resOf, resV, resVs, ↓reduceIte, Nat.reduceLT]
  | true =>
    simp (maxSteps := 2000000) -implicitDefEqProofs only [zz, ↓reduceIte]
    first | refine acall_flat' (hr2) rfl ?_ | refine dcall_flat' (hr2) rfl ?_ | refine acall_ice' (hr2) ?_ | refine dcall_still' (hr2) rfl ?_
    try simp (maxSteps := 2000000) -implicitDefEqProofs only [zz]
    first | refine acall_flat' (hsm) rfl ?_ | refine dcall_flat' (hsm) rfl ?_ | refine acall_ice' (hsm) ?_ | refine dcall_still' (hsm) rfl ?_
    try simp (maxSteps := 2000000) -implicitDefEqProofs only [zz, zE, evop, ev, ofVal, tget, tput, ok, V.isUndef, Ch.on, told, sliceOf, lenOf, ↓reduceIte, reduceCtorEq, Nat.reduceLT, Nat.reduceEqDiff, Nat.reduceAdd]
    cases b1 with
    | false =>
      refine wloop_ind (σ := Unit) (fun _ => 0) (fun _ => [(91, .d (.int .i64 0)), (90, .d (.int .i64 l.length)), (89, .d (.vec (l.map dWl))), (12, .d (.bool false)), (16, .d (.bool true))]) (fun _ => []) (fun _ => True) () trivial (Weak.trims 0 rfl (by simp [tget, V.lower]) (by simp)) ?_
      intro _ _
      by_cases h0 : 0 < l.length
      · have h' : ((0 : Int) < (l.length : Int)) := by omega
        have hx : l[0]? = some l[0] := List.getElem?_eq_getElem h0
        have hsx := c_law12_small l[0]
        generalize l[0] = x at hx hsx
        unfold dWl at hsx
        simp (maxSteps := 2000000) -implicitDefEqProofs only [zz, zE, evop, ev, tget, tput, ok, intBin, Ch.on, calleeOf, withArgs, told, hget, hput, V.cells, D.cells, V.one, loadD, splice, ↓reduceIte, Nat.reduceLT, Nat.reduceEqDiff, Nat.reduceAdd, Nat.reduceLeDiff, nilTest, h', List.getElem?_map, hx, Option.map_some, dWl, Int.le_refl]
        first | refine acall_flat' (hsx) rfl ?_ | refine dcall_flat' (hsx) rfl ?_ | refine acall_ice' (hsx) ?_ | refine dcall_still' (hsx) rfl ?_
        try simp (maxSteps := 2000000) -implicitDefEqProofs only [zz, evop, ev, ofVal, tget, tput, ok, V.isUndef, guardOf, Ch.on, calleeOf, withArgs, told, ↓reduceIte, reduceCtorEq, Nat.reduceLT, Nat.reduceEqDiff]
        cases hsb : smallW x with
        | false =>
          simp (maxSteps := 2000000) -implicitDefEqProofs only [zz, ↓reduceIte]
          refine acall_flat' (c_awake12) rfl ?_
          try simp (maxSteps := 2000000) -implicitDefEqProofs only [zz, evop, ev, tget, tput, ok, V.isUndef, Ch.on, xport, resOf, resV, resVs, ↓reduceIte, Nat.reduceLT]
        | true =>
          simp (maxSteps := 2000000) -implicitDefEqProofs only [zz, ↓reduceIte]
          refine acall_flat' (c_awake12) rfl ?_
          try simp (maxSteps := 2000000) -implicitDefEqProofs only [zz, evop, ev, tget, tput, ok, V.isUndef, Ch.on, xport, resOf, resV, resVs, ↓reduceIte, Nat.reduceLT]
      · have h' : ¬ ((0 : Int) < (l.length : Int)) := by omega
        simp (maxSteps := 2000000) -implicitDefEqProofs only [zz, evop, ev, tget, tput, intBin, Ch.on, calleeOf, withArgs, told, ↓reduceIte, Nat.reduceLT, Nat.reduceEqDiff, nilTest, h']
        refine acall_flat' (c_awake12) rfl ?_
        try simp (maxSteps := 2000000) -implicitDefEqProofs only [zz, evop, ev, tget, tput, ok, V.isUndef, Ch.on, xport, resOf, resV, resVs, ↓reduceIte, Nat.reduceLT]
    | true =>
      obtain ⟨g1, g2, g3, g4⟩ := good rfl rfl
      refine wloop_ind (σ := Nat × Cm) (fun z => l.length - z.1) (fun z => [(91, .d (.int .i64 z.1)), (90, .d (.int .i64 l.length)), (89, .d (.vec (l.map dWl))), (12, .d (.bool true)), (16, .d (.bool true)), (13, .ptr 0 0 0), (15, .ptr 1 0 0)]) (fun z => [bC z.2, bC z.2]) (fun z => z.1 ≤ l.length ∧ CmWell z.2 ∧ 0 ≤ z.2.phase ∧ InvS c z.2.t) (0, c0) ⟨Nat.zero_le _, g1, g2, g4⟩ ?_ ?_
      · refine Weak.pick [2, 3] (by decide) (by simp) rfl (fun q hq => ?_) (fun i hi => ?_)
        · simp only [List.mem_cons, List.not_mem_nil, or_false] at hq
          rcases hq with rfl | rfl | rfl | rfl | rfl | rfl | rfl <;> exact .same _
        · match i, hi with
          | 0, _ => exact .box false ((cmC c0).map V.d) ((cmC c0).map V.d) rfl rfl (renL_d _ _ _)
          | 1, _ => exact .box false ((cmC c0).map V.d) ((cmC c0).map V.d) rfl rfl (renL_d _ _ _)
          | i + 2, hi => exact absurd hi (by simp)
      rintro ⟨i, u⟩ ⟨hi, hu, hup, hui⟩
      simp only at hi hu hup hui
      rcases Nat.lt_or_ge i l.length with hlt | hge
      case inr =>
        have h' : ¬ ((i : Int) < (l.length : Int)) := by omega
        simp (maxSteps := 2000000) -implicitDefEqProofs only [zz, evop, ev, tget, tput, intBin, Ch.on, calleeOf, withArgs, told, ↓reduceIte, Nat.reduceLT, Nat.reduceEqDiff, nilTest, h']
        refine acall_flat' (c_awake12) rfl ?_
        try simp (maxSteps := 2000000) -implicitDefEqProofs only [zz, evop, ev, tget, tput, ok, V.isUndef, Ch.on, xport, resOf, resV, resVs, ↓reduceIte, Nat.reduceLT]
      have hx : l[i]? = some l[i] := List.getElem?_eq_getElem hlt
      have h' : ((i : Int) < (l.length : Int)) := by omega
      have hw : IntKind.i64.wrap ((i : Int) + 1) = ((i + 1 : Nat) : Int) := by rw [wrap_in (by omega)]; omega
      generalize l[i] = x at hx
      have hsx := c_law12_small x
      cases hsb : smallW x with
      | false =>
        rw [hsb] at hsx
        unfold dWl at hsx
        simp (maxSteps := 2000000) -implicitDefEqProofs only [zz, zE, evop, ev, tget, tput, ok, intBin, Ch.on, calleeOf, withArgs, told, hget, hput, V.cells, D.cells, V.one, loadD, splice, ↓reduceIte, Nat.reduceLT, Nat.reduceEqDiff, Nat.reduceAdd, Nat.reduceLeDiff, nilTest, h', List.getElem?_map, hx, Option.map_some, dWl, bC, Int.natCast_nonneg]
        first | refine acall_flat' (hsx) rfl ?_ | refine dcall_flat' (hsx) rfl ?_ | refine acall_ice' (hsx) ?_ | refine dcall_still' (hsx) rfl ?_
        try simp (maxSteps := 2000000) -implicitDefEqProofs only [zz, evop, ev, ofVal, tget, tput, ok, V.isUndef, guardOf, Ch.on, calleeOf, withArgs, told, ↓reduceIte, reduceCtorEq, Nat.reduceLT, Nat.reduceEqDiff]
        refine acall_flat' (c_awake12) rfl ?_
        try simp (maxSteps := 2000000) -implicitDefEqProofs only [zz, evop, ev, tget, tput, ok, V.isUndef, Ch.on, xport, resOf, resV, resVs, ↓reduceIte, Nat.reduceLT]
      | true =>
      rw [hsb] at hsx
      obtain ⟨x1, x2⟩ := smallW_t hsb
      have st1 := c_commit_Step u x hu.toCmOk
      have st2 := c_r12_Step u x hu (by omega) (by omega)
      have dr1 := c_commit_Drop u x hu.toCmOk
      have dr2 := c_r12_Drop u x hu hup (by omega) (by omega)
      have wx := c_law12_Worlds x
      obtain ⟨k1, k2, k3⟩ := cmStep_keeps (c := u) (w := x)
      obtain ⟨d1, d2, d3⟩ := dropC_keeps (c := u) (w := x)
      obtain ⟨n1, n2⟩ := cmStep_well (w := x) hu hup
      have fl := hui.toInvT.lens g3
      have sm := same_ok g3 hui.toInvT
      have ry := c_law12_Ref (cmStep u x).1 (by rw [k1]; omega)
      have rz := c_law12_Ref (dropC u x).1 (by rw [d1]; omega)
      have sy := c_r12_Same (cmStep u x).1 (by rw [k1]; exact sm)
      have sz := c_r12_Same (dropC u x).1 (by rw [d1]; exact sm)
      have wy := c_law12_Worlds (cmStep u x).2
      have wz := c_law12_Worlds (dropC u x).2
      have ey := c_r12_Worlds (cmStep u x).2 (by omega) (by omega)
      have ez := c_r12_Worlds (dropC u x).2 (by omega) (by omega)
      have hvi : InvS c (cmStep u x).1.t := by rw [k1]; exact hui
      generalize cmStep u x = y at st1 st2 ry sy wy ey n1 n2 hvi
      generalize dropC u x = z at dr1 dr2 rz sz wz ez
      unfold dCm cmC at st1 st2 dr1 dr2 ry rz sy sz
      unfold dWl at hsx st1 st2 dr1 dr2 wx wy wz ey ez
      have body : ∀ m : Bool, mayC u x = m → True := fun _ _ => trivial
      generalize mayC u x = m at st1 st2
      have key : (((if m = true then (0 : Int) else 1) == 0) != m) = false ∧ (m = false → (((if m = true then (0 : Int) else 1) != 1) = false)) := by cases m <;> simp
      obtain ⟨km, kf⟩ := key
      generalize (if m = true then (0 : Int) else 1) = er at st1 km kf
      simp (maxSteps := 2000000) -implicitDefEqProofs only [zz, zE, evop, ev, tget, tput, ok, intBin, Ch.on, calleeOf, withArgs, told, hget, hput, V.cells, D.cells, V.one, loadD, splice, ↓reduceIte, Nat.reduceLT, Nat.reduceEqDiff, Nat.reduceAdd, Nat.reduceLeDiff, nilTest, h', List.getElem?_map, hx, Option.map_some, dWl, bC, Int.natCast_nonneg]
      first | refine acall_flat' (hsx) rfl ?_ | refine dcall_flat' (hsx) rfl ?_ | refine acall_ice' (hsx) ?_ | refine dcall_still' (hsx) rfl ?_
      try simp (maxSteps := 2000000) -implicitDefEqProofs only [zz, zE, evop, ev, tget, tput, ok, V.isUndef, guardOf, Ch.on, calleeOf, withArgs, told, hget, ↓reduceIte, Nat.reduceLT, Nat.reduceEqDiff, Nat.reduceAdd, Nat.reduceLeDiff]
      first | refine acall_flat' (st1) rfl ?_ | refine dcall_flat' (st1) rfl ?_ | refine acall_ice' (st1) ?_ | refine dcall_still' (st1) rfl ?_
      try simp (maxSteps := 2000000) -implicitDefEqProofs only [zz, zE, evop, ev, tget, tput, ok, V.isUndef, Ch.on, tids, tidss, hget, hput, freeze, V.cells, V.one, splice, ↓reduceIte, Nat.reduceLT, Nat.reduceEqDiff, Nat.reduceAdd, Nat.reduceLeDiff]
      refine wdraw_plan [⟨[], false, [22, 23, 115, 116], [], false⟩, ⟨[], false, [22, 23, 114], [0], false⟩, ⟨[1], false, [22, 23, 114], [0], false⟩, ⟨[0, 1, 2], false, [22, 23], [], false⟩, ⟨[0, 1, 2, 3], false, [22, 23], [], false⟩, ⟨[0, 1, 2, 3, 4], false, [22, 23, 119, 120], [], false⟩, ⟨[0, 1, 2, 3, 4], false, [22, 23, 118, 119, 120], [5], true⟩, ⟨[0, 1, 2, 3, 4], false, [22, 23, 118, 119, 120], [5, 6], true⟩, ⟨[], false, [23, 113, 114, 115, 116, 117, 118, 119, 120], [0, 1, 2, 3, 4, 5, 6, 7], false⟩, ⟨[], false, [22, 113, 114, 115, 116, 117, 118, 119, 120], [0, 1, 2, 3, 4, 5, 6, 7, 8], false⟩, ⟨[0, 1, 2, 3, 4, 5, 8, 9], true, [119, 120], [], false⟩, ⟨[0, 1, 2, 3, 4, 5, 6, 8, 9, 10], true, [120], [], false⟩, ⟨[0, 1, 2, 3, 4, 5, 6, 7, 8, 9, 10, 11], true, [], [], false⟩] (by decide) ?_
      simp (maxSteps := 2000000) -implicitDefEqProofs only [zz, zE, evop, ev, ofVal, tget, tput, ok, V.isUndef, calleeOf, withArgs, hget, hput, V.cells, D.cells, splice, D.over, ↓reduceIte, Nat.reduceLT, Nat.reduceEqDiff, Nat.reduceAdd, Nat.reduceLeDiff]
      first | refine acall_flat' (wx) rfl ?_ | refine dcall_flat' (wx) rfl ?_ | refine acall_ice' (wx) ?_ | refine dcall_still' (wx) rfl ?_
      try simp (maxSteps := 2000000) -implicitDefEqProofs only [zz]
      first | refine acall_flat' (st2) rfl ?_ | refine dcall_flat' (st2) rfl ?_ | refine acall_ice' (st2) ?_ | refine dcall_still' (st2) rfl ?_
      try simp (maxSteps := 2000000) -implicitDefEqProofs only [zz, zE, evop, ev, tget, tput, ok, V.isUndef, Ch.on, calleeOf, withArgs, hget, hput, V.cells, V.one, splice, ↓reduceIte, Nat.reduceLT, Nat.reduceEqDiff, Nat.reduceAdd, Nat.reduceLeDiff]
      first | refine acall_flat' (dr1) rfl ?_ | refine dcall_flat' (dr1) rfl ?_ | refine acall_ice' (dr1) ?_ | refine dcall_still' (dr1) rfl ?_
      try simp (maxSteps := 2000000) -implicitDefEqProofs only [zz, zE, evop, ev, tget, tput, ok, V.isUndef, Ch.on, tids, tidss, hget, hput, freeze, V.cells, V.one, splice, ↓reduceIte, Nat.reduceLT, Nat.reduceEqDiff, Nat.reduceAdd, Nat.reduceLeDiff]
      refine wdraw_plan [⟨[], false, [27, 28, 129, 130], [], false⟩, ⟨[], false, [27, 28, 128], [0], false⟩, ⟨[1], false, [27, 28, 128], [0], false⟩, ⟨[0, 1, 2], false, [27, 28], [], false⟩, ⟨[0, 1, 2, 3], false, [27, 28], [], false⟩, ⟨[0, 1, 2, 3, 4], false, [27, 28, 133], [], false⟩, ⟨[0, 1, 2, 3, 4], false, [27, 28, 132, 133], [5], true⟩, ⟨[], false, [28, 127, 128, 129, 130, 131, 132, 133], [0, 1, 2, 3, 4, 5, 6], false⟩, ⟨[], false, [27, 127, 128, 129, 130, 131, 132, 133], [0, 1, 2, 3, 4, 5, 6, 7], false⟩, ⟨[0, 1, 2, 3, 4, 5, 7, 8], true, [133], [], false⟩, ⟨[0, 1, 2, 3, 4, 5, 6, 7, 8, 9], true, [], [], false⟩] (by decide) ?_
      simp (maxSteps := 2000000) -implicitDefEqProofs only [zz, zE, evop, ev, ofVal, tget, tput, ok, V.isUndef, calleeOf, withArgs, hget, hput, V.cells, D.cells, splice, D.over, ↓reduceIte, Nat.reduceLT, Nat.reduceEqDiff, Nat.reduceAdd, Nat.reduceLeDiff]
      first | refine acall_flat' (wx) rfl ?_ | refine dcall_flat' (wx) rfl ?_ | refine acall_ice' (wx) ?_ | refine dcall_still' (wx) rfl ?_
      try simp (maxSteps := 2000000) -implicitDefEqProofs only [zz]
      first | refine acall_flat' (dr2) rfl ?_ | refine dcall_flat' (dr2) rfl ?_ | refine acall_ice' (dr2) ?_ | refine dcall_still' (dr2) rfl ?_
      try simp (maxSteps := 2000000) -implicitDefEqProofs only [zz, zE, evop, ev, tget, tput, Ch.on, hget, hput, V.cells, V.one, splice, ↓reduceIte, Nat.reduceEqDiff, Nat.reduceAdd, Nat.reduceLeDiff]
      refine wdraw_plan [⟨[], false, [136], [], false⟩, ⟨[0], false, [136], [], false⟩, ⟨[], false, [134, 135], [0, 1], false⟩, ⟨[0, 1, 2], true, [], [], false⟩, ⟨[0, 1, 2, 3], true, [], [], false⟩, ⟨[0, 1, 2, 3, 4], false, [], [], false⟩, ⟨[0, 1, 2, 3, 4, 5], false, [], [], false⟩, ⟨[0, 1, 2, 3, 4, 5, 6], false, [], [], false⟩, ⟨[0, 1, 2, 3, 4, 5, 6, 7], false, [], [], false⟩, ⟨[0, 1, 2, 3, 4, 5, 6, 7, 8], false, [], [], false⟩, ⟨[0, 1, 2, 3, 4, 5, 6, 7, 8, 9], false, [], [], false⟩, ⟨[0, 1, 2, 3, 4, 5, 6, 7, 8, 9, 10], true, [], [], false⟩, ⟨[0, 1, 2, 3, 4, 5, 6, 7, 8, 9, 10, 11], true, [], [], false⟩, ⟨[0, 1, 2, 3, 4, 5, 6, 7, 8, 9, 10, 11, 12], false, [149], [], false⟩, ⟨[0, 1, 2, 3, 4, 5, 6, 7, 8, 9, 10, 11, 12, 13], false, [149], [], false⟩, ⟨[0, 1, 2, 3, 4, 5, 6, 7, 8, 9, 10, 11, 12], false, [147, 148], [13, 14], false⟩, ⟨[0, 1, 2, 3, 4, 5, 6, 7, 8, 9, 10, 11, 12, 13, 14, 15], false, [], [], false⟩, ⟨[0, 1, 2, 3, 4, 5, 6, 7, 8, 9, 10, 11, 12, 13, 14, 15, 16], false, [], [], false⟩, ⟨[0, 1, 2, 3, 4, 5, 6, 7, 8, 9, 10, 11, 12, 13, 14, 15, 16, 17], true, [], [], false⟩, ⟨[0, 1, 2, 3, 4, 5, 6, 7, 8, 9, 10, 11, 12, 13, 14, 15, 16, 17, 18], true, [], [], false⟩, ⟨[0, 1, 2, 3, 4, 5, 6, 7, 8, 9, 10, 11, 12, 13, 14, 15, 16, 17, 18, 19], false, [156], [], false⟩, ⟨[0, 1, 2, 3, 4, 5, 6, 7, 8, 9, 10, 11, 12, 13, 14, 15, 16, 17, 18, 19, 20], false, [156], [], false⟩, ⟨[0, 1, 2, 3, 4, 5, 6, 7, 8, 9, 10, 11, 12, 13, 14, 15, 16, 17, 18, 19], false, [154, 155], [20, 21], false⟩, ⟨[0, 1, 2, 3, 4, 5, 6, 7, 8, 9, 10, 11, 12, 13, 14, 15, 16, 17, 18, 19, 20, 21, 22], false, [], [], false⟩, ⟨[0, 1, 2, 3, 4, 5, 6, 7, 8, 9, 10, 11, 12, 13, 14, 15, 16, 17, 18, 19, 20, 21, 22, 23], false, [], [], false⟩, ⟨[0, 1, 2, 3, 4, 5, 6, 7, 8, 9, 10, 11, 12, 13, 14, 15, 16, 17, 18, 19, 20, 21, 22, 23, 24], true, [], [], false⟩, ⟨[0, 1, 2, 3, 4, 5, 6, 7, 8, 9, 10, 11, 12, 13, 14, 15, 16, 17, 18, 19, 20, 21, 22, 23, 24, 25], true, [], [], false⟩, ⟨[0, 1, 2, 3, 4, 5, 6, 7, 8, 9, 10, 11, 12, 13, 14, 15, 16, 17, 18, 19, 20, 21, 22, 23, 24, 25, 26], false, [163], [], false⟩, ⟨[0, 1, 2, 3, 4, 5, 6, 7, 8, 9, 10, 11, 12, 13, 14, 15, 16, 17, 18, 19, 20, 21, 22, 23, 24, 25, 26, 27], false, [163], [], false⟩, ⟨[0, 1, 2, 3, 4, 5, 6, 7, 8, 9, 10, 11, 12, 13, 14, 15, 16, 17, 18, 19, 20, 21, 22, 23, 24, 25, 26], false, [161, 162], [27, 28], false⟩, ⟨[0, 1, 2, 3, 4, 5, 6, 7, 8, 9, 10, 11, 12, 13, 14, 15, 16, 17, 18, 19, 20, 21, 22, 23, 24, 25, 26, 27, 28, 29], false, [], [], false⟩, ⟨[0, 1, 2, 3, 4, 5, 6, 7, 8, 9, 10, 11, 12, 13, 14, 15, 16, 17, 18, 19, 20, 21, 22, 23, 24, 25, 26, 27, 28, 29, 30], false, [], [], false⟩, ⟨[0, 1, 2, 3, 4, 5, 6, 7, 8, 9, 10, 11, 12, 13, 14, 15, 16, 17, 18, 19, 20, 21, 22, 23, 24, 25, 26, 27, 28, 29, 30, 31], true, [], [], false⟩, ⟨[0, 1, 2, 3, 4, 5, 6, 7, 8, 9, 10, 11, 12, 13, 14, 15, 16, 17, 18, 19, 20, 21, 22, 23, 24, 25, 26, 27, 28, 29, 30, 31, 32], true, [], [], false⟩, ⟨[0, 1, 2, 3, 4, 5, 6, 7, 8, 9, 10, 11, 12, 13, 14, 15, 16, 17, 18, 19, 20, 21, 22, 23, 24, 25, 26, 27, 28, 29, 30, 31, 32, 33], false, [170], [], false⟩, ⟨[0, 1, 2, 3, 4, 5, 6, 7, 8, 9, 10, 11, 12, 13, 14, 15, 16, 17, 18, 19, 20, 21, 22, 23, 24, 25, 26, 27, 28, 29, 30, 31, 32, 33, 34], false, [170], [], false⟩, ⟨[0, 1, 2, 3, 4, 5, 6, 7, 8, 9, 10, 11, 12, 13, 14, 15, 16, 17, 18, 19, 20, 21, 22, 23, 24, 25, 26, 27, 28, 29, 30, 31, 32, 33], false, [168, 169], [34, 35], false⟩, ⟨[0, 1, 2, 3, 4, 5, 6, 7, 8, 9, 10, 11, 12, 13, 14, 15, 16, 17, 18, 19, 20, 21, 22, 23, 24, 25, 26, 27, 28, 29, 30, 31, 32, 33, 34, 35, 36], false, [], [], false⟩, ⟨[0, 1, 2, 3, 4, 5, 6, 7, 8, 9, 10, 11, 12, 13, 14, 15, 16, 17, 18, 19, 20, 21, 22, 23, 24, 25, 26, 27, 28, 29, 30, 31, 32, 33, 34, 35, 36, 37], false, [], [], false⟩, ⟨[0, 1, 2, 3, 4, 5, 6, 7, 8, 9, 10, 11, 12, 13, 14, 15, 16, 17, 18, 19, 20, 21, 22, 23, 24, 25, 26, 27, 28, 29, 30, 31, 32, 33, 34, 35, 36, 37, 38], true, [], [], false⟩] (by decide) ?_
      cases m with
      | false =>
        have kf := kf rfl
        simp (maxSteps := 2000000) -implicitDefEqProofs only [zz, zE, evop, ev, ofVal, tget, tput, ok, V.isUndef, intBin, guardOf, Ch.on, calleeOf, withArgs, hget, hput, V.cells, V.isAgg, V.clo, clos, ↓reduceIte, Nat.reduceLT, Nat.reduceEqDiff, Nat.reduceAdd, Nat.reduceSub, Nat.reduceLeDiff, km, kf]
        first | refine acall_flat' (ry) rfl ?_ | refine dcall_flat' (ry) rfl ?_ | refine acall_ice' (ry) ?_ | refine dcall_still' (ry) rfl ?_
        try simp (maxSteps := 2000000) -implicitDefEqProofs only [zz]
        first | refine acall_flat' (sy) rfl ?_ | refine dcall_flat' (sy) rfl ?_ | refine acall_ice' (sy) ?_ | refine dcall_still' (sy) rfl ?_
        try simp (maxSteps := 2000000) -implicitDefEqProofs only [zz, zE, evop, ev, ofVal, tget, tput, ok, V.isUndef, guardOf, Ch.on, calleeOf, withArgs, hget, hput, ↓reduceIte, Nat.reduceLT, Nat.reduceEqDiff, Nat.reduceAdd, Nat.reduceSub, Nat.reduceLeDiff]
        first | refine acall_flat' (wy) rfl ?_ | refine dcall_flat' (wy) rfl ?_ | refine acall_ice' (wy) ?_ | refine dcall_still' (wy) rfl ?_
        try simp (maxSteps := 2000000) -implicitDefEqProofs only [zz]
        first | refine acall_flat' (ey) rfl ?_ | refine dcall_flat' (ey) rfl ?_ | refine acall_ice' (ey) ?_ | refine dcall_still' (ey) rfl ?_
        try simp (maxSteps := 2000000) -implicitDefEqProofs only [zz, zE, evop, ev, ofVal, tget, tput, ok, V.isUndef, guardOf, Ch.on, calleeOf, withArgs, hget, hput, ↓reduceIte, Nat.reduceLT, Nat.reduceEqDiff, Nat.reduceAdd, Nat.reduceSub, Nat.reduceLeDiff]
        first | refine acall_flat' (rz) rfl ?_ | refine dcall_flat' (rz) rfl ?_ | refine acall_ice' (rz) ?_ | refine dcall_still' (rz) rfl ?_
        try simp (maxSteps := 2000000) -implicitDefEqProofs only [zz]
        first | refine acall_flat' (sz) rfl ?_ | refine dcall_flat' (sz) rfl ?_ | refine acall_ice' (sz) ?_ | refine dcall_still' (sz) rfl ?_
        try simp (maxSteps := 2000000) -implicitDefEqProofs only [zz, zE, evop, ev, ofVal, tget, tput, ok, V.isUndef, guardOf, Ch.on, calleeOf, withArgs, hget, hput, ↓reduceIte, Nat.reduceLT, Nat.reduceEqDiff, Nat.reduceAdd, Nat.reduceSub, Nat.reduceLeDiff]
        first | refine acall_flat' (wz) rfl ?_ | refine dcall_flat' (wz) rfl ?_ | refine acall_ice' (wz) ?_ | refine dcall_still' (wz) rfl ?_
        try simp (maxSteps := 2000000) -implicitDefEqProofs only [zz]
        first | refine acall_flat' (ez) rfl ?_ | refine dcall_flat' (ez) rfl ?_ | refine acall_ice' (ez) ?_ | refine dcall_still' (ez) rfl ?_
        try simp (maxSteps := 2000000) -implicitDefEqProofs only [zz, ev, tget, tput, Ch.on, told, ↓reduceIte, Nat.reduceLT, Nat.reduceAdd]
        refine wdraw_weak (Weak.sealed (T' := [(91, .d (.int .i64 i)), (90, .d (.int .i64 l.length)), (89, .d (.vec (l.map dWl))), (12, .d (.bool true)), (16, .d (.bool true)), (13, .ptr 0 0 0), (15, .ptr 1 0 0), (19, .d (.imm (dCm y.1) 0)), (22, .d (.imm (dCm y.1) 0))]) [3, 13] (by simp [tget, sealF, xport, xports, tids, tidss, hget, dCm, cmC, dWl])) [⟨[], false, [175], [], false⟩, ⟨[], false, [174, 175], [0], true⟩, ⟨[0], true, [175], [], false⟩, ⟨[0, 1, 2], true, [], [], false⟩] (by decide) ?_
        simp only [sealH, AM.freeze, hput, hget, Blk.ice, List.map_cons, List.map_nil, sealB, sealF, List.mem_cons, dCm, cmC]
        simp (maxSteps := 2000000) -implicitDefEqProofs only [zz, zE, evop, ev, ofVal, tget, tput, ok, V.isUndef, intBin, Ch.on, hget, hput, V.cells, D.cells, V.one, loadD, splice, ↓reduceIte, Nat.reduceLT, Nat.reduceEqDiff, Nat.reduceAdd, Nat.reduceLeDiff, nilTest, hw]
        exact ⟨(i + 1, y.1), ⟨hlt, n1, n2, hvi⟩, by simp only; omega, Weak.trims 2 rfl (by simp [tget, V.lower, dWl, hw]) (by simp [bC, Blk.lower, lowerL, V.lower])⟩
      | true =>
        simp (maxSteps := 2000000) -implicitDefEqProofs only [zz, zE, evop, ev, ofVal, tget, tput, ok, V.isUndef, intBin, guardOf, Ch.on, calleeOf, withArgs, told, xport, hget, hput, V.cells, V.isAgg, V.clo, clos, resOf, resV, resVs, ↓reduceIte, Nat.reduceLT, Nat.reduceEqDiff, Nat.reduceAdd, Nat.reduceSub, Nat.reduceLeDiff, km]
        first | refine acall_flat' (ry) rfl ?_ | refine dcall_flat' (ry) rfl ?_ | refine acall_ice' (ry) ?_ | refine dcall_still' (ry) rfl ?_
        try simp (maxSteps := 2000000) -implicitDefEqProofs only [zz]
        first | refine acall_flat' (sy) rfl ?_ | refine dcall_flat' (sy) rfl ?_ | refine acall_ice' (sy) ?_ | refine dcall_still' (sy) rfl ?_
        try simp (maxSteps := 2000000) -implicitDefEqProofs only [zz, zE, evop, ev, ofVal, tget, tput, ok, V.isUndef, guardOf, Ch.on, calleeOf, withArgs, hget, hput, ↓reduceIte, Nat.reduceLT, Nat.reduceEqDiff, Nat.reduceAdd, Nat.reduceSub, Nat.reduceLeDiff]
        first | refine acall_flat' (wy) rfl ?_ | refine dcall_flat' (wy) rfl ?_ | refine acall_ice' (wy) ?_ | refine dcall_still' (wy) rfl ?_
        try simp (maxSteps := 2000000) -implicitDefEqProofs only [zz]
        first | refine acall_flat' (ey) rfl ?_ | refine dcall_flat' (ey) rfl ?_ | refine acall_ice' (ey) ?_ | refine dcall_still' (ey) rfl ?_
        try simp (maxSteps := 2000000) -implicitDefEqProofs only [zz, zE, evop, ev, ofVal, tget, tput, ok, V.isUndef, guardOf, Ch.on, calleeOf, withArgs, hget, hput, ↓reduceIte, Nat.reduceLT, Nat.reduceEqDiff, Nat.reduceAdd, Nat.reduceSub, Nat.reduceLeDiff]
        first | refine acall_flat' (rz) rfl ?_ | refine dcall_flat' (rz) rfl ?_ | refine acall_ice' (rz) ?_ | refine dcall_still' (rz) rfl ?_
        try simp (maxSteps := 2000000) -implicitDefEqProofs only [zz]
        first | refine acall_flat' (sz) rfl ?_ | refine dcall_flat' (sz) rfl ?_ | refine acall_ice' (sz) ?_ | refine dcall_still' (sz) rfl ?_
        try simp (maxSteps := 2000000) -implicitDefEqProofs only [zz, zE, evop, ev, ofVal, tget, tput, ok, V.isUndef, guardOf, Ch.on, calleeOf, withArgs, hget, hput, ↓reduceIte, Nat.reduceLT, Nat.reduceEqDiff, Nat.reduceAdd, Nat.reduceSub, Nat.reduceLeDiff]
        first | refine acall_flat' (wz) rfl ?_ | refine dcall_flat' (wz) rfl ?_ | refine acall_ice' (wz) ?_ | refine dcall_still' (wz) rfl ?_
        try simp (maxSteps := 2000000) -implicitDefEqProofs only [zz]
        first | refine acall_flat' (ez) rfl ?_ | refine dcall_flat' (ez) rfl ?_ | refine acall_ice' (ez) ?_ | refine dcall_still' (ez) rfl ?_
        try simp (maxSteps := 2000000) -implicitDefEqProofs only [zz, ev, tget, tput, Ch.on, told, ↓reduceIte, Nat.reduceLT, Nat.reduceAdd]
        refine wdraw_weak (Weak.sealed (T' := [(91, .d (.int .i64 i)), (90, .d (.int .i64 l.length)), (89, .d (.vec (l.map dWl))), (12, .d (.bool true)), (16, .d (.bool true)), (13, .ptr 0 0 0), (15, .ptr 1 0 0), (19, .d (.imm (dCm y.1) 0)), (22, .d (.imm (dCm y.1) 0))]) [3, 13] (by simp [tget, sealF, xport, xports, tids, tidss, hget, dCm, cmC, dWl])) [⟨[], false, [175], [], false⟩, ⟨[], false, [174, 175], [0], true⟩, ⟨[0], true, [175], [], false⟩, ⟨[0, 1, 2], true, [], [], false⟩] (by decide) ?_
        simp only [sealH, AM.freeze, hput, hget, Blk.ice, List.map_cons, List.map_nil, sealB, sealF, List.mem_cons, dCm, cmC]
        simp (maxSteps := 2000000) -implicitDefEqProofs only [zz, zE, evop, ev, ofVal, tget, tput, ok, V.isUndef, intBin, Ch.on, hget, hput, V.cells, D.cells, V.one, loadD, splice, ↓reduceIte, Nat.reduceLT, Nat.reduceEqDiff, Nat.reduceAdd, Nat.reduceLeDiff, nilTest, hw]
        exact ⟨(i + 1, y.1), ⟨hlt, n1, n2, hvi⟩, by simp only; omega, Weak.trims 2 rfl (by simp [tget, V.lower, dWl, hw]) (by simp [bC, Blk.lower, lowerL, V.lower])⟩
end Go.Proofs.YtjhfpabldidlgaaGreat.AM

set_option linter.all false
set_option maxRecDepth 100000
namespace Go.Proofs.YtjhfpabldidlgaaGreat.AM
open Go Go.RowKit

theorem sh_bool {P : Program} {n t : Nat} {ds : List D} (ht : P.underlying t = some .bool) (h : Sh P (n + 1) t ds) : ∃ b, ds = [.bool b] := by
  simp only [Sh, ht] at h
  obtain ⟨b, rfl⟩ := h
  exact ⟨b, rfl⟩

theorem shE_C {n : Nat} {d : D} (h : ShE Tryz.prog (n + 2) 66 d) : ∃ w : Bool × Int, d = dC w ∧ True := by
  obtain ⟨ds, h1, rfl⟩ := h
  simp only [Sh, Tryz.underlying66, ShF] at h1
  obtain ⟨p, q, rfl, hp, p2, q2, rfl, hp2, rfl⟩ := h1
  obtain ⟨x, rfl⟩ := sh_bool (n := n) Tryz.underlying4 hp
  obtain ⟨y, rfl, _⟩ := sh_int (n := n) Tryz.underlying3 hp2
  exact ⟨(x, y), by simp [oneD, Tryz.underlying66, dC], trivial⟩

end Go.Proofs.YtjhfpabldidlgaaGreat.AM

set_option linter.all false
set_option maxRecDepth 100000
namespace Go.Proofs.YtjhfpabldidlgaaGreat.AM
open Go Go.RowKit

theorem shE_op {n : Nat} {d : D} (h : ShE Tryz.prog (n + 2) 118 d) : ∃ w : Int × Int, d = dW w ∧ True := by
  obtain ⟨ds, h1, rfl⟩ := h
  simp only [Sh, Tryz.underlying118, ShF] at h1
  obtain ⟨p, q, rfl, hp, p2, q2, rfl, hp2, rfl⟩ := h1
  obtain ⟨x, rfl, _⟩ := sh_int (n := n) Tryz.underlying3 hp
  obtain ⟨y, rfl, _⟩ := sh_int (n := n) Tryz.underlying3 hp2
  exact ⟨(x, y), by simp [oneD, Tryz.underlying118, dW], trivial⟩

theorem shE_St {n : Nat} {d : D} (h : ShE Tryz.prog (n + 4) 71 d) : ∃ w : St, d = dS w ∧ True := by
  obtain ⟨ds, h1, rfl⟩ := h
  simp only [Sh, Tryz.underlying71, ShF] at h1
  obtain ⟨p, q, rfl, hp, p2, q2, rfl, hp2, p3, q3, rfl, hp3, p4, q4, rfl, hp4, rfl⟩ := h1
  obtain ⟨x, rfl, _⟩ := sh_int (n := n + 2) Tryz.underlying3 (by simpa only [Sh] using hp)
  obtain ⟨y, rfl, _⟩ := sh_int (n := n + 2) Tryz.underlying3 (by simpa only [Sh] using hp2)
  obtain ⟨z, rfl, _⟩ := sh_int (n := n + 2) Tryz.underlying3 (by simpa only [Sh] using hp3)
  obtain ⟨ts, rfl, hl, _⟩ := sh_list (n := n + 2) Tryz.underlying69 (fun d h => shE_op (n := n) h) (by simpa only [Sh] using hp4)
  exact ⟨⟨x, y, z, ts⟩, by simp [oneD, Tryz.underlying71, dS], trivial⟩

theorem shE_Code {n : Nat} {d : D} (h : ShE Tryz.prog (n + 5) 22 d) : ∃ c : List St, d = .vec (c.map dS) ∧ c.length ≤ maxLen ∧ True := by
  obtain ⟨ds, h1, rfl⟩ := h
  obtain ⟨xs, rfl, hl, _⟩ := sh_list Tryz.underlying22 (fun d h => shE_St (n := n) h) h1
  exact ⟨xs, by simp [oneD, Tryz.underlying22], hl, trivial⟩

theorem shE_R {n : Nat} {d : D} (h : ShE Tryz.prog (n + 2) 68 d) : ∃ w : Int × Int, d = dW w ∧ True := by
  obtain ⟨ds, h1, rfl⟩ := h
  simp only [Sh, Tryz.underlying68, ShF] at h1
  obtain ⟨p, q, rfl, hp, p2, q2, rfl, hp2, rfl⟩ := h1
  obtain ⟨x, rfl, _⟩ := sh_int (n := n) Tryz.underlying3 hp
  obtain ⟨y, rfl, _⟩ := sh_int (n := n) Tryz.underlying3 hp2
  exact ⟨(x, y), by simp [oneD, Tryz.underlying68, dW], trivial⟩

end Go.Proofs.YtjhfpabldidlgaaGreat.AM

set_option linter.all false
set_option maxRecDepth 100000
namespace Go.Proofs.YtjhfpabldidlgaaGreat.AM
open Go Go.RowKit Go.ChangeShapes

theorem shE_Wl {n : Nat} {d : D} (h : ShE Tryz.prog (n + 4) 73 d) : ∃ w : Wl, d = dWl w ∧ True := by
  obtain ⟨ds, h1, rfl⟩ := h
  simp only [Sh, Tryz.underlying73, ShF] at h1
  obtain ⟨p, q, rfl, hp, p2, q2, rfl, hp2, p3, q3, rfl, hp3, rfl⟩ := h1
  obtain ⟨xs, rfl, hl, _⟩ := sh_list (n := n + 2) Tryz.underlying48 (fun d h => shE_C (n := n) h) (by simpa only [Sh] using hp)
  obtain ⟨ys, rfl, hl2, _⟩ := sh_list (n := n + 2) Tryz.underlying49 (fun d h => shE_R (n := n) h) (by simpa only [Sh] using hp2)
  obtain ⟨z, rfl, _⟩ := sh_int (n := n + 2) Tryz.underlying3 (by simpa only [Sh] using hp3)
  exact ⟨⟨xs, ys, z⟩, by simp [oneD, Tryz.underlying73, dWl], trivial⟩

theorem shE_Wls {n : Nat} {d : D} (h : ShE Tryz.prog (n + 5) 74 d) : ∃ l : List Wl, d = .vec (l.map dWl) ∧ l.length ≤ maxLen ∧ True := by
  obtain ⟨ds, h1, rfl⟩ := h
  obtain ⟨xs, rfl, hl, _⟩ := sh_list Tryz.underlying74 (fun d h => shE_Wl (n := n) h) h1
  exact ⟨xs, by simp [oneD, Tryz.underlying74], hl, trivial⟩

theorem trodAll_five {H : Type} {enc : TypeId × Value → H} {P : Program} {w : World} {base : Nat} {spare : Nat → Bool} {held : Bool} {t0 t1 t2 t3 t4 : TypeId} {args : Array Value} {ds : List (DataW H)} {ps : List MemPlace} (h : DataW.TrodAll enc P w base spare held [t0, t1, t2, t3, t4] args.toList ds ps) :
    ∃ v0 v1 v2 v3 v4 d0 d1 d2 d3 d4 p0 p1 p2 p3 p4, args = #[v0, v1, v2, v3, v4] ∧ ds = [d0, d1, d2, d3, d4] ∧ ps = p0 ++ p1 ++ p2 ++ p3 ++ p4 ∧ DataW.Trod enc P w base spare held t0 v0 d0 p0 ∧ DataW.Trod enc P w base spare held t1 v1 d1 p1 ∧ DataW.Trod enc P w base spare held t2 v2 d2 p2 ∧ DataW.Trod enc P w base spare held t3 v3 d3 p3 ∧ DataW.Trod enc P w base spare held t4 v4 d4 p4 := by
  obtain ⟨v0, s0, d0, e0, p0, q0, hargs, rfl, rfl, h0, r0⟩ := trodAll_cons h
  obtain ⟨v1, s1, d1, e1, p1, q1, rfl, rfl, rfl, h1, r1⟩ := trodAll_cons r0
  obtain ⟨v2, s2, d2, e2, p2, q2, rfl, rfl, rfl, h2, r2⟩ := trodAll_cons r1
  obtain ⟨v3, s3, d3, e3, p3, q3, rfl, rfl, rfl, h3, r3⟩ := trodAll_cons r2
  obtain ⟨v4, s4, d4, e4, p4, q4, rfl, rfl, rfl, h4, r4⟩ := trodAll_cons r3
  obtain ⟨rfl, rfl, rfl⟩ := trodAll_nil r4
  exact ⟨v0, v1, v2, v3, v4, d0, d1, d2, d3, d4, p0, p1, p2, p3, p4, by cases args; simp_all, rfl, by simp, h0, h1, h2, h3, h4⟩

end Go.Proofs.YtjhfpabldidlgaaGreat.AM
