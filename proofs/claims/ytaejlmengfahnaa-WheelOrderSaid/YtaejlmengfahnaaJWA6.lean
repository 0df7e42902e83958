/- The texts Vb, joined. -/
import Derived.Test.YtaejlmengfahnaaJWA5

set_option linter.all false
set_option linter.all false
set_option maxRecDepth 100000
set_option maxHeartbeats 8000000
namespace Go.Proofs.Ytaejlmengfahnaa.AM
open Go Go.RowKit

def aW (now : Int) (t : Nat → Int) : Nat → Wh
  | 0 => newW now
  | i + 1 => (setW (aW now t i) ((i : Int) + 1) (t i)).1
def bW (now : Int) (t : Nat → Int) (n b : Nat) : Nat → Wh
  | 0 => newW now
  | i + 1 => (setW (bW now t n b i) ((kJ n b i : Int) + 1) (t (kJ n b i))).1
theorem aW_has {now : Int} {t : Nat → Int} (h0 : 0 ≤ now) (h1 : now + 200 ≤ 2147483647) (ht : ∀ j, 1 ≤ t j ∧ t j ≤ 200) : ∀ i, i ≤ 8 → Has now t (aW now t i) (List.range i)
  | 0, _ => Has.zero (by simp only [tickR, Bool.and_eq_true, decide_eq_true_eq]; omega) t
  | i + 1, h => by
    have := ((aW_has h0 h1 ht i (by omega)).next (j := i) (by simp) (by omega) (ht i) h1).2
    rw [← List.range_succ] at this
    exact this
theorem bW_has {now : Int} {t : Nat → Int} {n b : Nat} (h0 : 0 ≤ now) (h1 : now + 200 ≤ 2147483647) (hn : n ≤ 8) (ht : ∀ j, 1 ≤ t j ∧ t j ≤ 200) : ∀ i, i ≤ n → Has now t (bW now t n b i) (ksJ n b i)
  | 0, _ => Has.zero (by simp only [tickR, Bool.and_eq_true, decide_eq_true_eq]; omega) t
  | i + 1, h => by
    have hk : kJ n b i < n := kJ_lt (by omega)
    have := ((bW_has h0 h1 hn ht i (by omega)).next (j := kJ n b i) (ksJ_new (by omega)) (by omega) (ht _) h1).2
    rw [← ksJ_succ] at this
    exact this
def tJ (ts : List Int) (j : Nat) : Int := 1 + (ts[j]?.getD 0).tmod 200
theorem tJ_in {ts : List Int} (h : ∀ x ∈ ts, 0 ≤ x) (j : Nat) : 1 ≤ tJ ts j ∧ tJ ts j ≤ 200 := by
  unfold tJ
  have h0 : 0 ≤ ts[j]?.getD 0 := by
    cases e : ts[j]? with
    | none => simp
    | some x => exact h x (List.mem_of_getElem? e)
  have h1 := Int.tmod_nonneg 200 h0
  have h2 := Int.tmod_lt_of_pos (ts[j]?.getD 0) (show (0 : Int) < 200 by omega)
  omega

theorem c_WheelOrder (now : Int) (ts : List Int) (b : Int) (hnow : 0 ≤ now ∧ now < 65536) (hts : ∀ x ∈ ts, 0 ≤ x ∧ x < 256) (htl : ts.length < 9223372036854775808) (hb : 0 ≤ b ∧ b < 256) : CSpec Try.prog 7 [.int .u16 now, .vec (ts.map (D.int .u8)), .int .u8 b] (.bool true) := by
  have hNow : IntKind.i64.wrap now = now := by rw [wrap_in (by omega)]
  have hNew := c_wh_New now
  have htr : tickR now = true := by simp only [tickR, Bool.and_eq_true, decide_eq_true_eq]; omega
  rw [if_pos htr] at hNew
  have h200 : now + 200 ≤ 2147483647 := by omega
  have htin := tJ_in (fun x hx => (hts x hx).1)
  obtain ⟨n, hn, hn8, hnl⟩ : ∃ n : Nat, n = min ts.length 8 ∧ n ≤ 8 ∧ n ≤ ts.length := ⟨_, rfl, by omega, by omega⟩
  obtain ⟨z0, z1, z2, z3, z4, z5, z6, z7, eZ, bZZ⟩ := wh8b (newW now) rfl
  rw [eZ] at hNew
  have hnz : (newW now).now = now := by simp [newW, htr]
  rw [hnz] at hNew eZ bZZ
  have hmin : (if (8 : Int) < (ts.length : Int) then (8 : Int) else (ts.length : Int)) = (n : Int) := by split <;> omega
  refine CSpec.of_awp envOf_ok hmix Try.func7 rfl (fun args w => Try.call7 args w) (by simp [Try.f7]) ?_
  simp only [Try.f7]
  simp (maxSteps := 2000000) -implicitDefEqProofs only [zz, zE, evop, ev, ofVal, tget, tput, ok, V.isUndef, intBin, guardOf, initT, Ch.on, calleeOf, withArgs, told, xport, xports, tids, tidss, hget, hput, Blk.ice, freeze, V.cells, D.cells, V.isAgg, V.one, V.clo, clos, V.toD, loadD, structAt, eqCells, D.scalarEq, sliceOf, partsD, partsV, bound, isPtr, Blk.width, elems, lenOf, splice, D.over, resOf, resV, resVs, ↓reduceIte, reduceCtorEq, ↓reduceDIte, Nat.reduceLT, Nat.reduceEqDiff, Nat.reduceAdd, Nat.reduceSub, Nat.reduceMul, Nat.reduceLeDiff, Nat.reduceBEq, Nat.reduceBNe, Int.reduceNeg, Int.reduceAdd, Int.reduceSub, Int.reduceToNat, nilTest, shiftH, Blk.ren, V.ren, renL, initV, frameH, putL, frρ, dI, dW]
  try simp (maxSteps := 2000000) -implicitDefEqProofs only [zz, zE, evop, ev, ofVal, tget, tput, ok, V.isUndef, intBin, guardOf, initT, Ch.on, calleeOf, withArgs, told, xport, xports, tids, tidss, hget, hput, Blk.ice, freeze, V.cells, D.cells, V.isAgg, V.one, V.clo, clos, V.toD, loadD, structAt, eqCells, D.scalarEq, sliceOf, partsD, partsV, bound, isPtr, Blk.width, elems, lenOf, splice, D.over, resOf, resV, resVs, ↓reduceIte, reduceCtorEq, ↓reduceDIte, Nat.reduceLT, Nat.reduceEqDiff, Nat.reduceAdd, Nat.reduceSub, Nat.reduceMul, Nat.reduceLeDiff, Nat.reduceBEq, Nat.reduceBNe, Int.reduceNeg, Int.reduceAdd, Int.reduceSub, Int.reduceToNat, nilTest, shiftH, Blk.ren, V.ren, renL, initV, frameH, putL, frρ, dI, dW, hNow, hmin]
  refine acall_ice' (hNew) ?_
  try simp (maxSteps := 2000000) -implicitDefEqProofs only [zz, zE, evop, ev, ofVal, tget, tput, ok, V.isUndef, intBin, guardOf, initT, Ch.on, calleeOf, withArgs, told, xport, xports, tids, tidss, hget, hput, Blk.ice, freeze, V.cells, D.cells, V.isAgg, V.one, V.clo, clos, V.toD, loadD, structAt, eqCells, D.scalarEq, sliceOf, partsD, partsV, bound, isPtr, Blk.width, elems, lenOf, splice, D.over, resOf, resV, resVs, ↓reduceIte, reduceCtorEq, ↓reduceDIte, Nat.reduceLT, Nat.reduceEqDiff, Nat.reduceAdd, Nat.reduceSub, Nat.reduceMul, Nat.reduceLeDiff, Nat.reduceBEq, Nat.reduceBNe, Int.reduceNeg, Int.reduceAdd, Int.reduceSub, Int.reduceToNat, nilTest, shiftH, Blk.ren, V.ren, renL, initV, frameH, putL, frρ, dI, dW]
  try simp (maxSteps := 2000000) -implicitDefEqProofs only [zz, zE, evop, ev, ofVal, tget, tput, ok, V.isUndef, intBin, guardOf, initT, Ch.on, calleeOf, withArgs, told, xport, xports, tids, tidss, hget, hput, Blk.ice, freeze, V.cells, D.cells, V.isAgg, V.one, V.clo, clos, V.toD, loadD, structAt, eqCells, D.scalarEq, sliceOf, partsD, partsV, bound, isPtr, Blk.width, elems, lenOf, splice, D.over, resOf, resV, resVs, ↓reduceIte, reduceCtorEq, ↓reduceDIte, Nat.reduceLT, Nat.reduceEqDiff, Nat.reduceAdd, Nat.reduceSub, Nat.reduceMul, Nat.reduceLeDiff, Nat.reduceBEq, Nat.reduceBNe, Int.reduceNeg, Int.reduceAdd, Int.reduceSub, Int.reduceToNat, nilTest, shiftH, Blk.ren, V.ren, renL, initV, frameH, putL, frρ, dI, dW, hNow, hmin]
  refine acall_ice' (hNew) ?_
  try simp (maxSteps := 2000000) -implicitDefEqProofs only [zz, zE, evop, ev, ofVal, tget, tput, ok, V.isUndef, intBin, guardOf, initT, Ch.on, calleeOf, withArgs, told, xport, xports, tids, tidss, hget, hput, Blk.ice, freeze, V.cells, D.cells, V.isAgg, V.one, V.clo, clos, V.toD, loadD, structAt, eqCells, D.scalarEq, sliceOf, partsD, partsV, bound, isPtr, Blk.width, elems, lenOf, splice, D.over, resOf, resV, resVs, ↓reduceIte, reduceCtorEq, ↓reduceDIte, Nat.reduceLT, Nat.reduceEqDiff, Nat.reduceAdd, Nat.reduceSub, Nat.reduceMul, Nat.reduceLeDiff, Nat.reduceBEq, Nat.reduceBNe, Int.reduceNeg, Int.reduceAdd, Int.reduceSub, Int.reduceToNat, nilTest, shiftH, Blk.ren, V.ren, renL, initV, frameH, putL, frρ, dI, dW]
  refine wloop_count n (fun i => [(37, .d (.int .i64 i)), (36, .d (.int .i64 n)), (7, .d (.int .i64 n)), (0, .d (.int .u16 now)), (1, .d (.vec (ts.map (D.int .u8)))), (2, .d (.int .u8 b)), (8, .ptr 0 0 0), (10, .ptr 1 0 0), (9, .d (.int .i64 0)), (11, .d (.int .i64 0))]) (fun i => [bWh (aW now (tJ ts) i), bWh (bW now (tJ ts) n b.toNat i)]) (fun _ => True) trivial ?_ (fun i hi _ => ?_) (fun _ => ?_)
  · have e0 : bWh (aW now (tJ ts) 0) = bWh (newW now) := rfl
    have e1 : bWh (bW now (tJ ts) n b.toNat 0) = bWh (newW now) := rfl
    rw [e0, e1, bZZ]
    exact Weak.sub (by simp [tget])
  · have hA := aW_has hnow.1 h200 htin i (by omega)
    have hB := bW_has (b := b.toNat) hnow.1 h200 hn8 htin i (by omega)
    have hA' := aW_has hnow.1 h200 htin (i + 1) (by omega)
    have hB' := bW_has (b := b.toNat) hnow.1 h200 hn8 htin (i + 1) (by omega)
    have hk : kJ n b.toNat i < n := kJ_lt (by omega)
    have hSa := (hA.next (j := i) (by simp) (by omega) (htin i) h200).1
    have hSb := (hB.next (j := kJ n b.toNat i) (ksJ_new hi) (by omega) (htin _) h200).1
    have fA := right_fit hA.right
    have fB := right_fit hB.right
    have A1 := c_wh_Set (aW now (tJ ts) i) ((i : Int) + 1) (tJ ts i) fA.len fA.le
    have B1 := c_wh_Set (bW now (tJ ts) n b.toNat i) ((kJ n b.toNat i : Int) + 1) (tJ ts (kJ n b.toNat i)) fB.len fB.le
    rw [hSa] at A1
    rw [hSb] at B1
    have eA1 : (setW (aW now (tJ ts) i) ((i : Int) + 1) (tJ ts i)).1 = aW now (tJ ts) (i + 1) := rfl
    have eB1 : (setW (bW now (tJ ts) n b.toNat i) ((kJ n b.toNat i : Int) + 1) (tJ ts (kJ n b.toNat i))).1 = bW now (tJ ts) n b.toNat (i + 1) := rfl
    rw [eA1] at A1
    rw [eB1] at B1
    obtain ⟨a0, a1, a2, a3, a4, a5, a6, a7, eA, bA⟩ := wh8b _ hA.right.len
    obtain ⟨c0, c1, c2, c3, c4, c5, c6, c7, eC, bC⟩ := wh8b _ hA'.right.len
    obtain ⟨b0, b1, b2, b3, b4, b5, b6, b7, eB, bB⟩ := wh8b _ hB.right.len
    obtain ⟨f0, f1, f2, f3, f4, f5, f6, f7, eF, bF⟩ := wh8b _ hB'.right.len
    rw [hA.at_] at eA bA
    rw [hB.at_] at eB bB
    rw [hA'.at_] at eC bC
    rw [hB'.at_] at eF bF
    rw [eA, eC] at A1
    rw [eB, eF] at B1
    rw [bA, bB, bC, bF]
    have hx : ts[i]? = some ts[i] := List.getElem?_eq_getElem (by omega)
    have hy : ts[kJ n b.toNat i]? = some ts[kJ n b.toNat i] := List.getElem?_eq_getElem (by omega)
    have hxt : tJ ts i = 1 + (ts[i]'(by omega)).tmod 200 := by unfold tJ; rw [hx]; rfl
    have hyt : tJ ts (kJ n b.toNat i) = 1 + (ts[kJ n b.toNat i]'(by omega)).tmod 200 := by unfold tJ; rw [hy]; rfl
    have hkI : (IntKind.i64.wrap ((n : Int) - (i : Int) + b)).tmod (n : Int) = ((kJ n b.toNat i : Nat) : Int) := by
      rw [wrap_in (by omega)]
      have : (n : Int) - (i : Int) + b = ((n - i + b.toNat : Nat) : Int) := by omega
      rw [this, Int.tmod_eq_emod_of_nonneg (by omega), ← Int.natCast_emod]; rfl
    have hnI : IntKind.i64.wrap ((n : Int) - (i : Int)) = (n : Int) - (i : Int) := by rw [wrap_in (by omega)]
    have hbI : IntKind.i64.wrap b = b := by rw [wrap_in (by omega)]
    have hwi : IntKind.i64.wrap ((i : Int) + 1) = (i : Int) + 1 := by rw [wrap_in (by omega)]
    have hwi' : IntKind.i64.wrap ((i : Int) + 1) = ((i + 1 : Nat) : Int) := by rw [wrap_in (by omega)]; omega
    have hxi := htin i
    have hyi := htin (kJ n b.toNat i)
    rw [hxt] at hxi A1
    rw [hyt] at hyi B1
    generalize ts[i]'(by omega) = x at hx hxt hxi A1
    generalize ts[kJ n b.toNat i]'(by omega) = y at hy hyt hyi B1
    generalize kJ n b.toNat i = k at *
    have hwk : IntKind.i64.wrap ((k : Int) + 1) = (k : Int) + 1 := by rw [wrap_in (by omega)]
    have hx2 : IntKind.i64.wrap (1 + IntKind.i64.wrap (x.tmod 200)) = 1 + x.tmod 200 := by rw [wrap_in (x := x.tmod 200) (by omega), wrap_in (by omega)]
    have hy2 : IntKind.i64.wrap (1 + IntKind.i64.wrap (y.tmod 200)) = 1 + y.tmod 200 := by rw [wrap_in (x := y.tmod 200) (by omega), wrap_in (by omega)]
    have hlt : ((i : Int) < (n : Int)) := by omega
    have hn0 : ((n : Int) ≠ 0) := by omega
    try simp (maxSteps := 2000000) -implicitDefEqProofs only [zz, zE, evop, ev, ofVal, tget, tput, ok, V.isUndef, intBin, guardOf, initT, Ch.on, calleeOf, withArgs, told, xport, xports, tids, tidss, hget, hput, Blk.ice, freeze, V.cells, D.cells, V.isAgg, V.one, V.clo, clos, V.toD, loadD, structAt, eqCells, D.scalarEq, sliceOf, partsD, partsV, bound, isPtr, Blk.width, elems, lenOf, splice, D.over, resOf, resV, resVs, ↓reduceIte, reduceCtorEq, ↓reduceDIte, Nat.reduceLT, Nat.reduceEqDiff, Nat.reduceAdd, Nat.reduceSub, Nat.reduceMul, Nat.reduceLeDiff, Nat.reduceBEq, Nat.reduceBNe, Int.reduceNeg, Int.reduceAdd, Int.reduceSub, Int.reduceToNat, nilTest, shiftH, Blk.ren, V.ren, renL, initV, frameH, putL, frρ, dI, dW, hlt, hnI, hbI, hkI]
    refine ⟨hn0, ?_⟩
    refine wdraw_plan [⟨[], false, [14, 50, 51, 52, 53, 54, 55, 56, 57, 58], [], false⟩, ⟨[], false, [14, 49, 52, 53, 54, 55, 56, 57, 58], [0], false⟩, ⟨[1], false, [14, 49, 52, 53, 54, 55, 56, 57, 58], [0], false⟩, ⟨[], false, [14, 49, 50, 51, 53], [0, 1, 2], false⟩, ⟨[], false, [14, 49, 50, 51, 52], [0, 1, 2, 3], false⟩, ⟨[3, 4], false, [14, 49, 50, 51], [0, 1, 2], false⟩, ⟨[3, 4, 5], false, [14, 49, 50, 51], [0, 1, 2], false⟩, ⟨[3, 4, 5, 6], false, [14, 49, 50, 51], [0, 1, 2], false⟩, ⟨[3, 4, 5, 6, 7], false, [14, 49, 50, 51], [0, 1, 2], false⟩, ⟨[3, 4, 5, 6, 7, 8], false, [14, 49, 50, 51], [0, 1, 2], false⟩, ⟨[0, 1, 2, 3, 4, 5, 6, 7, 8, 9], false, [14], [], false⟩, ⟨[0, 1, 2, 3, 4, 5, 6, 7, 8, 9, 10], false, [14], [], false⟩, ⟨[0, 1, 2, 3, 4, 5, 6, 7, 8, 9, 10, 11], false, [14, 61], [], false⟩, ⟨[0, 1, 2, 3, 4, 5, 6, 7, 8, 9, 10, 11], false, [14, 60, 61], [12], true⟩, ⟨[], false, [48, 49, 50, 51, 52, 53, 54, 55, 56, 57, 58, 59, 60, 61], [0, 1, 2, 3, 4, 5, 6, 7, 8, 9, 10, 11, 12, 13], false⟩, ⟨[0, 1, 2, 3, 4, 5, 6, 7, 8, 9, 10, 11, 12, 14], true, [61], [], false⟩, ⟨[0, 1, 2, 3, 4, 5, 6, 7, 8, 9, 10, 11, 12, 13, 14, 15], true, [], [], false⟩] (by kernel_rfl) ?_
    try simp (maxSteps := 2000000) -implicitDefEqProofs only [zz, zE, evop, ev, ofVal, tget, tput, ok, V.isUndef, intBin, guardOf, initT, Ch.on, calleeOf, withArgs, told, xport, xports, tids, tidss, hget, hput, Blk.ice, freeze, V.cells, D.cells, V.isAgg, V.one, V.clo, clos, V.toD, loadD, structAt, eqCells, D.scalarEq, sliceOf, partsD, partsV, bound, isPtr, Blk.width, elems, lenOf, splice, D.over, resOf, resV, resVs, ↓reduceIte, reduceCtorEq, ↓reduceDIte, Nat.reduceLT, Nat.reduceEqDiff, Nat.reduceAdd, Nat.reduceSub, Nat.reduceMul, Nat.reduceLeDiff, Nat.reduceBEq, Nat.reduceBNe, Int.reduceNeg, Int.reduceAdd, Int.reduceSub, Int.reduceToNat, nilTest, shiftH, Blk.ren, V.ren, renL, initV, frameH, putL, frρ, dI, dW, hwi, List.getElem?_map, hx, Option.map_some, Int.natCast_nonneg, Int.toNat_natCast, hx2]
    refine ⟨by decide, ?_⟩
    first | refine acall_flat' (A1) rfl ?_ | refine dcall_flat' (A1) rfl ?_ | refine acall_ice' (A1) ?_ | refine dcall_still' (A1) rfl ?_
    try simp (maxSteps := 2000000) -implicitDefEqProofs only [zz, zE, evop, ev, ofVal, tget, tput, ok, V.isUndef, intBin, guardOf, initT, Ch.on, calleeOf, withArgs, told, xport, xports, tids, tidss, hget, hput, Blk.ice, freeze, V.cells, D.cells, V.isAgg, V.one, V.clo, clos, V.toD, loadD, structAt, eqCells, D.scalarEq, sliceOf, partsD, partsV, bound, isPtr, Blk.width, elems, lenOf, splice, D.over, resOf, resV, resVs, ↓reduceIte, reduceCtorEq, ↓reduceDIte, Nat.reduceLT, Nat.reduceEqDiff, Nat.reduceAdd, Nat.reduceSub, Nat.reduceMul, Nat.reduceLeDiff, Nat.reduceBEq, Nat.reduceBNe, Int.reduceNeg, Int.reduceAdd, Int.reduceSub, Int.reduceToNat, nilTest, shiftH, Blk.ren, V.ren, renL, initV, frameH, putL, frρ, dI, dW]
    try simp (maxSteps := 2000000) -implicitDefEqProofs only [zz, zE, evop, ev, ofVal, tget, tput, ok, V.isUndef, intBin, guardOf, initT, Ch.on, calleeOf, withArgs, told, xport, xports, tids, tidss, hget, hput, Blk.ice, freeze, V.cells, D.cells, V.isAgg, V.one, V.clo, clos, V.toD, loadD, structAt, eqCells, D.scalarEq, sliceOf, partsD, partsV, bound, isPtr, Blk.width, elems, lenOf, splice, D.over, resOf, resV, resVs, ↓reduceIte, reduceCtorEq, ↓reduceDIte, Nat.reduceLT, Nat.reduceEqDiff, Nat.reduceAdd, Nat.reduceSub, Nat.reduceMul, Nat.reduceLeDiff, Nat.reduceBEq, Nat.reduceBNe, Int.reduceNeg, Int.reduceAdd, Int.reduceSub, Int.reduceToNat, nilTest, shiftH, Blk.ren, V.ren, renL, initV, frameH, putL, frρ, dI, dW]
    refine wdraw_plan [⟨[], false, [16, 64, 65, 66, 67, 68, 69, 70, 71, 72], [], false⟩, ⟨[], false, [16, 63, 66, 67, 68, 69, 70, 71, 72], [0], false⟩, ⟨[1], false, [16, 63, 66, 67, 68, 69, 70, 71, 72], [0], false⟩, ⟨[], false, [16, 63, 64, 65, 67], [0, 1, 2], false⟩, ⟨[], false, [16, 63, 64, 65, 66], [0, 1, 2, 3], false⟩, ⟨[3, 4], false, [16, 63, 64, 65], [0, 1, 2], false⟩, ⟨[3, 4, 5], false, [16, 63, 64, 65], [0, 1, 2], false⟩, ⟨[3, 4, 5, 6], false, [16, 63, 64, 65], [0, 1, 2], false⟩, ⟨[3, 4, 5, 6, 7], false, [16, 63, 64, 65], [0, 1, 2], false⟩, ⟨[3, 4, 5, 6, 7, 8], false, [16, 63, 64, 65], [0, 1, 2], false⟩, ⟨[0, 1, 2, 3, 4, 5, 6, 7, 8, 9], false, [16], [], false⟩, ⟨[0, 1, 2, 3, 4, 5, 6, 7, 8, 9, 10], false, [16], [], false⟩, ⟨[0, 1, 2, 3, 4, 5, 6, 7, 8, 9, 10, 11], false, [16, 75], [], false⟩, ⟨[0, 1, 2, 3, 4, 5, 6, 7, 8, 9, 10, 11], false, [16, 74, 75], [12], true⟩, ⟨[], false, [62, 63, 64, 65, 66, 67, 68, 69, 70, 71, 72, 73, 74, 75], [0, 1, 2, 3, 4, 5, 6, 7, 8, 9, 10, 11, 12, 13], false⟩, ⟨[0, 1, 2, 3, 4, 5, 6, 7, 8, 9, 10, 11, 12, 14], true, [75], [], false⟩, ⟨[0, 1, 2, 3, 4, 5, 6, 7, 8, 9, 10, 11, 12, 13, 14, 15], true, [], [], false⟩] (by kernel_rfl) ?_
    try simp (maxSteps := 2000000) -implicitDefEqProofs only [zz, zE, evop, ev, ofVal, tget, tput, ok, V.isUndef, intBin, guardOf, initT, Ch.on, calleeOf, withArgs, told, xport, xports, tids, tidss, hget, hput, Blk.ice, freeze, V.cells, D.cells, V.isAgg, V.one, V.clo, clos, V.toD, loadD, structAt, eqCells, D.scalarEq, sliceOf, partsD, partsV, bound, isPtr, Blk.width, elems, lenOf, splice, D.over, resOf, resV, resVs, ↓reduceIte, reduceCtorEq, ↓reduceDIte, Nat.reduceLT, Nat.reduceEqDiff, Nat.reduceAdd, Nat.reduceSub, Nat.reduceMul, Nat.reduceLeDiff, Nat.reduceBEq, Nat.reduceBNe, Int.reduceNeg, Int.reduceAdd, Int.reduceSub, Int.reduceToNat, nilTest, shiftH, Blk.ren, V.ren, renL, initV, frameH, putL, frρ, dI, dW, hwk, List.getElem?_map, hy, Option.map_some, Int.natCast_nonneg, Int.toNat_natCast, hy2]
    refine ⟨by decide, ?_⟩
    first | refine acall_flat' (B1) rfl ?_ | refine dcall_flat' (B1) rfl ?_ | refine acall_ice' (B1) ?_ | refine dcall_still' (B1) rfl ?_
    try simp (maxSteps := 2000000) -implicitDefEqProofs only [zz, zE, evop, ev, ofVal, tget, tput, ok, V.isUndef, intBin, guardOf, initT, Ch.on, calleeOf, withArgs, told, xport, xports, tids, tidss, hget, hput, Blk.ice, freeze, V.cells, D.cells, V.isAgg, V.one, V.clo, clos, V.toD, loadD, structAt, eqCells, D.scalarEq, sliceOf, partsD, partsV, bound, isPtr, Blk.width, elems, lenOf, splice, D.over, resOf, resV, resVs, ↓reduceIte, reduceCtorEq, ↓reduceDIte, Nat.reduceLT, Nat.reduceEqDiff, Nat.reduceAdd, Nat.reduceSub, Nat.reduceMul, Nat.reduceLeDiff, Nat.reduceBEq, Nat.reduceBNe, Int.reduceNeg, Int.reduceAdd, Int.reduceSub, Int.reduceToNat, nilTest, shiftH, Blk.ren, V.ren, renL, initV, frameH, putL, frρ, dI, dW]
    have e00 : ((0 : Int) != 0) = false := by decide
    try simp (maxSteps := 2000000) -implicitDefEqProofs only [zz, zE, evop, ev, ofVal, tget, tput, ok, V.isUndef, intBin, guardOf, initT, Ch.on, calleeOf, withArgs, told, xport, xports, tids, tidss, hget, hput, Blk.ice, freeze, V.cells, D.cells, V.isAgg, V.one, V.clo, clos, V.toD, loadD, structAt, eqCells, D.scalarEq, sliceOf, partsD, partsV, bound, isPtr, Blk.width, elems, lenOf, splice, D.over, resOf, resV, resVs, ↓reduceIte, reduceCtorEq, ↓reduceDIte, Nat.reduceLT, Nat.reduceEqDiff, Nat.reduceAdd, Nat.reduceSub, Nat.reduceMul, Nat.reduceLeDiff, Nat.reduceBEq, Nat.reduceBNe, Int.reduceNeg, Int.reduceAdd, Int.reduceSub, Int.reduceToNat, nilTest, shiftH, Blk.ren, V.ren, renL, initV, frameH, putL, frρ, dI, dW, e00]
    refine wdraw_weak (T' := [(14, .d (.imm (.agg [.int .i64 now, .vec c0, .vec c1, .vec c2, .vec c3, .vec c4, .vec c5, .vec c6, .vec c7]) 0)), (16, .d (.imm (.agg [.int .i64 now, .vec f0, .vec f1, .vec f2, .vec f3, .vec f4, .vec f5, .vec f6, .vec f7]) 0)), (37, .d (.int .i64 i)), (36, .d (.int .i64 n)), (7, .d (.int .i64 n)), (0, .d (.int .u16 now)), (1, .d (.vec (ts.map (D.int .u8)))), (2, .d (.int .u8 b)), (8, .ptr 0 0 0), (10, .ptr 1 0 0), (9, .d (.int .i64 0)), (11, .d (.int .i64 0))]) (H' := [.box false [.d (.int .i64 now), .d (.vec a0), .d (.vec a1), .d (.vec a2), .d (.vec a3), .d (.vec a4), .d (.vec a5), .d (.vec a6), .d (.vec a7)], .box false [.d (.int .i64 now), .d (.vec b0), .d (.vec b1), .d (.vec b2), .d (.vec b3), .d (.vec b4), .d (.vec b5), .d (.vec b6), .d (.vec b7)]]) (Weak.close [16, 31] 2 (by decide) rfl ?_ ?_) [⟨[], false, [83], [], false⟩, ⟨[], false, [82, 83], [0], true⟩, ⟨[0], true, [83], [], false⟩, ⟨[0, 1, 2], true, [], [], false⟩] (by kernel_rfl) ?_
    · intro q hq
      simp only [List.mem_cons, List.not_mem_nil, or_false] at hq
      rcases hq with rfl | rfl | rfl | rfl | rfl | rfl | rfl | rfl | rfl | rfl | rfl | rfl <;> exact ⟨rfl, rfl⟩
    · intro q hq
      simp only [List.mem_cons, List.not_mem_nil, or_false] at hq
      rcases hq with rfl | rfl <;> rfl
    try simp (maxSteps := 2000000) -implicitDefEqProofs only [zz, zE, evop, ev, ofVal, tget, tput, ok, V.isUndef, intBin, guardOf, initT, Ch.on, calleeOf, withArgs, told, xport, xports, tids, tidss, hget, hput, Blk.ice, freeze, V.cells, D.cells, V.isAgg, V.one, V.clo, clos, V.toD, loadD, structAt, eqCells, D.scalarEq, sliceOf, partsD, partsV, bound, isPtr, Blk.width, elems, lenOf, splice, D.over, resOf, resV, resVs, ↓reduceIte, reduceCtorEq, ↓reduceDIte, Nat.reduceLT, Nat.reduceEqDiff, Nat.reduceAdd, Nat.reduceSub, Nat.reduceMul, Nat.reduceLeDiff, Nat.reduceBEq, Nat.reduceBNe, Int.reduceNeg, Int.reduceAdd, Int.reduceSub, Int.reduceToNat, nilTest, shiftH, Blk.ren, V.ren, renL, initV, frameH, putL, frρ, dI, dW, hwi']
    exact Weak.trims 2 rfl (by simp [tget, V.lower]) (by simp [Blk.lower, lowerL, V.lower])
  · have hlt : ¬ ((n : Int) < (n : Int)) := by omega
    have hA := aW_has hnow.1 h200 htin n hn8
    have hB := bW_has (b := b.toNat) hnow.1 h200 hn8 htin n (Nat.le_refl n)
    have hAB : aW now (tJ ts) n = bW now (tJ ts) n b.toNat n := hA.unique hB (fun j => (ksJ_all j).symm)
    have fA := right_fit hA.right
    have T1 := c_wh_Turn (aW now (tJ ts) n) 200 fA.len fA.le
    rw [hA.turn (fun j _ => (htin j).2) h200] at T1
    have V1 := c_law17_Ref _ fA.len fA.le
    have V2 := c_r17_Same _ _ fA.len fA.len fA.le fA.le
    rw [sameW_self] at V2
    have hlen := hA.len
    rw [List.length_range] at hlen
    have fE : Fit (ofW (now + 200) []) := ofW_fit _ (by simp)
    have I1 := c_wh_Items (ofW (now + 200) []) fE.len fE.le
    have hI : (if rightB (ofW (now + 200) []) = true then itemsW (ofW (now + 200) []) else []) = [] := by
      have : itemsW (ofW (now + 200) []) = [] := rfl
      rw [this]; split <;> rfl
    rw [hI] at I1
    obtain ⟨a0, a1, a2, a3, a4, a5, a6, a7, eA, bA⟩ := wh8b _ hA.right.len
    obtain ⟨c0, c1, c2, c3, c4, c5, c6, c7, eC, bC⟩ := wh8b _ fE.len
    have hEn : (ofW (now + 200) []).now = now + 200 := rfl
    rw [hA.at_] at eA bA
    rw [hEn] at eC
    rw [eA] at V1 V2
    rw [eC] at T1 I1
    rw [eA] at T1
    rw [← hAB, bA]
    have hw2 : IntKind.i64.wrap (now + 200) = now + 200 := by rw [wrap_in (by omega)]
    have qq : ∀ z : Int, (z == z) = true := fun z => by simp
    have e01 : ((0 : Int) == 0) = true := by decide
    have e02 : (((0 : Nat) : Int) == 0) = true := by decide
    generalize itemsW (aW now (tJ ts) n) = L at T1 hlen
    try simp (maxSteps := 2000000) -implicitDefEqProofs only [zz, zE, evop, ev, ofVal, tget, tput, ok, V.isUndef, intBin, guardOf, initT, Ch.on, calleeOf, withArgs, told, xport, xports, tids, tidss, hget, hput, Blk.ice, freeze, V.cells, D.cells, V.isAgg, V.one, V.clo, clos, V.toD, loadD, structAt, eqCells, D.scalarEq, sliceOf, partsD, partsV, bound, isPtr, Blk.width, elems, lenOf, splice, D.over, resOf, resV, resVs, ↓reduceIte, reduceCtorEq, ↓reduceDIte, Nat.reduceLT, Nat.reduceEqDiff, Nat.reduceAdd, Nat.reduceSub, Nat.reduceMul, Nat.reduceLeDiff, Nat.reduceBEq, Nat.reduceBNe, Int.reduceNeg, Int.reduceAdd, Int.reduceSub, Int.reduceToNat, nilTest, shiftH, Blk.ren, V.ren, renL, initV, frameH, putL, frρ, dI, dW, hlt]
    refine acall_ice' (T1) ?_
    try simp (maxSteps := 2000000) -implicitDefEqProofs only [zz, zE, evop, ev, ofVal, tget, tput, ok, V.isUndef, intBin, guardOf, initT, Ch.on, calleeOf, withArgs, told, xport, xports, tids, tidss, hget, hput, Blk.ice, freeze, V.cells, D.cells, V.isAgg, V.one, V.clo, clos, V.toD, loadD, structAt, eqCells, D.scalarEq, sliceOf, partsD, partsV, bound, isPtr, Blk.width, elems, lenOf, splice, D.over, resOf, resV, resVs, ↓reduceIte, reduceCtorEq, ↓reduceDIte, Nat.reduceLT, Nat.reduceEqDiff, Nat.reduceAdd, Nat.reduceSub, Nat.reduceMul, Nat.reduceLeDiff, Nat.reduceBEq, Nat.reduceBNe, Int.reduceNeg, Int.reduceAdd, Int.reduceSub, Int.reduceToNat, nilTest, shiftH, Blk.ren, V.ren, renL, initV, frameH, putL, frρ, dI, dW]
    refine wdraw_plan [⟨[], true, [], [], false⟩, ⟨[0], true, [], [], false⟩, ⟨[0, 1], true, [], [], false⟩, ⟨[0, 1, 2], false, [], [], false⟩, ⟨[0, 1, 2, 3], false, [], [], false⟩, ⟨[0, 1, 2, 3, 4], true, [], [], false⟩, ⟨[0, 1, 2, 3, 4, 5], true, [], [], false⟩, ⟨[0, 1, 2, 3, 4, 5, 6], false, [100], [], false⟩, ⟨[0, 1, 2, 3, 4, 5, 6, 7], false, [100], [], false⟩, ⟨[0, 1, 2, 3, 4, 5, 6], false, [98, 99], [7, 8], false⟩, ⟨[0, 1, 2, 3, 4, 5, 6, 7, 8, 9], false, [], [], false⟩, ⟨[0, 1, 2, 3, 4, 5, 6, 7, 8, 9, 10], false, [], [], false⟩, ⟨[0, 1, 2, 3, 4, 5, 6, 7, 8, 9, 10, 11], true, [], [], false⟩, ⟨[0, 1, 2, 3, 4, 5, 6, 7, 8, 9, 10, 11, 12], true, [], [], false⟩, ⟨[0, 1, 2, 3, 4, 5, 6, 7, 8, 9, 10, 11, 12, 13], false, [], [], false⟩, ⟨[0, 1, 2, 3, 4, 5, 6, 7, 8, 9, 10, 11, 12, 13, 14], false, [], [], false⟩, ⟨[0, 1, 2, 3, 4, 5, 6, 7, 8, 9, 10, 11, 12, 13, 14, 15], true, [], [], false⟩, ⟨[0, 1, 2, 3, 4, 5, 6, 7, 8, 9, 10, 11, 12, 13, 14, 15, 16], true, [], [], false⟩, ⟨[0, 1, 2, 3, 4, 5, 6, 7, 8, 9, 10, 11, 12, 13, 14, 15, 16, 17], false, [111], [], false⟩, ⟨[0, 1, 2, 3, 4, 5, 6, 7, 8, 9, 10, 11, 12, 13, 14, 15, 16, 17, 18], false, [111], [], false⟩, ⟨[0, 1, 2, 3, 4, 5, 6, 7, 8, 9, 10, 11, 12, 13, 14, 15, 16, 17], false, [109, 110], [18, 19], false⟩, ⟨[0, 1, 2, 3, 4, 5, 6, 7, 8, 9, 10, 11, 12, 13, 14, 15, 16, 17, 18, 19, 20], false, [], [], false⟩, ⟨[0, 1, 2, 3, 4, 5, 6, 7, 8, 9, 10, 11, 12, 13, 14, 15, 16, 17, 18, 19, 20, 21], true, [], [], false⟩, ⟨[0, 1, 2, 3, 4, 5, 6, 7, 8, 9, 10, 11, 12, 13, 14, 15, 16, 17, 18, 19, 20, 21, 22], true, [], [], false⟩, ⟨[0, 1, 2, 3, 4, 5, 6, 7, 8, 9, 10, 11, 12, 13, 14, 15, 16, 17, 18, 19, 20, 21, 22, 23], false, [], [], false⟩, ⟨[0, 1, 2, 3, 4, 5, 6, 7, 8, 9, 10, 11, 12, 13, 14, 15, 16, 17, 18, 19, 20, 21, 22, 23, 24], false, [], [], false⟩, ⟨[0, 1, 2, 3, 4, 5, 6, 7, 8, 9, 10, 11, 12, 13, 14, 15, 16, 17, 18, 19, 20, 21, 22, 23, 24, 25], false, [], [], false⟩, ⟨[0, 1, 2, 3, 4, 5, 6, 7, 8, 9, 10, 11, 12, 13, 14, 15, 16, 17, 18, 19, 20, 21, 22, 23, 24, 25, 26], false, [], [], false⟩, ⟨[0, 1, 2, 3, 4, 5, 6, 7, 8, 9, 10, 11, 12, 13, 14, 15, 16, 17, 18, 19, 20, 21, 22, 23, 24, 25, 26, 27], true, [], [], false⟩, ⟨[0, 1, 2, 3, 4, 5, 6, 7, 8, 9, 10, 11, 12, 13, 14, 15, 16, 17, 18, 19, 20, 21, 22, 23, 24, 25, 26, 27, 28], true, [], [], false⟩, ⟨[0, 1, 2, 3, 4, 5, 6, 7, 8, 9, 10, 11, 12, 13, 14, 15, 16, 17, 18, 19, 20, 21, 22, 23, 24, 25, 26, 27, 28, 29], false, [123, 124, 125], [], false⟩, ⟨[0, 1, 2, 3, 4, 5, 6, 7, 8, 9, 10, 11, 12, 13, 14, 15, 16, 17, 18, 19, 20, 21, 22, 23, 24, 25, 26, 27, 28, 29, 30], false, [123, 124, 125], [], false⟩, ⟨[0, 1, 2, 3, 4, 5, 6, 7, 8, 9, 10, 11, 12, 13, 14, 15, 16, 17, 18, 19, 20, 21, 22, 23, 24, 25, 26, 27, 28, 29], false, [121, 122], [30, 31], false⟩, ⟨[0, 1, 2, 3, 4, 5, 6, 7, 8, 9, 10, 11, 12, 13, 14, 15, 16, 17, 18, 19, 20, 21, 22, 23, 24, 25, 26, 27, 28, 29, 32], false, [121, 122], [30, 31], false⟩, ⟨[0, 1, 2, 3, 4, 5, 6, 7, 8, 9, 10, 11, 12, 13, 14, 15, 16, 17, 18, 19, 20, 21, 22, 23, 24, 25, 26, 27, 28, 29, 32, 33], false, [121, 122], [30, 31], false⟩, ⟨[0, 1, 2, 3, 4, 5, 6, 7, 8, 9, 10, 11, 12, 13, 14, 15, 16, 17, 18, 19, 20, 21, 22, 23, 24, 25, 26, 27, 28, 29, 30, 31, 32, 33, 34], false, [], [], false⟩, ⟨[0, 1, 2, 3, 4, 5, 6, 7, 8, 9, 10, 11, 12, 13, 14, 15, 16, 17, 18, 19, 20, 21, 22, 23, 24, 25, 26, 27, 28, 29, 30, 31, 32, 33, 34, 35], true, [], [], false⟩, ⟨[0, 1, 2, 3, 4, 5, 6, 7, 8, 9, 10, 11, 12, 13, 14, 15, 16, 17, 18, 19, 20, 21, 22, 23, 24, 25, 26, 27, 28, 29, 30, 31, 32, 33, 34, 35, 36], true, [], [], false⟩, ⟨[0, 1, 2, 3, 4, 5, 6, 7, 8, 9, 10, 11, 12, 13, 14, 15, 16, 17, 18, 19, 20, 21, 22, 23, 24, 25, 26, 27, 28, 29, 30, 31, 32, 33, 34, 35, 36, 37], false, [], [], false⟩, ⟨[0, 1, 2, 3, 4, 5, 6, 7, 8, 9, 10, 11, 12, 13, 14, 15, 16, 17, 18, 19, 20, 21, 22, 23, 24, 25, 26, 27, 28, 29, 30, 31, 32, 33, 34, 35, 36, 37, 38], true, [], [], false⟩, ⟨[0, 1, 2, 3, 4, 5, 6, 7, 8, 9, 10, 11, 12, 13, 14, 15, 16, 17, 18, 19, 20, 21, 22, 23, 24, 25, 26, 27, 28, 29, 30, 31, 32, 33, 34, 35, 36, 37, 38, 39], true, [], [], false⟩] (by kernel_rfl) ?_
    try simp (maxSteps := 2000000) -implicitDefEqProofs only [zz, zE, evop, ev, ofVal, tget, tput, ok, V.isUndef, intBin, guardOf, initT, Ch.on, calleeOf, withArgs, told, xport, xports, tids, tidss, hget, hput, Blk.ice, freeze, V.cells, D.cells, V.isAgg, V.one, V.clo, clos, V.toD, loadD, structAt, eqCells, D.scalarEq, sliceOf, partsD, partsV, bound, isPtr, Blk.width, elems, lenOf, splice, D.over, resOf, resV, resVs, ↓reduceIte, reduceCtorEq, ↓reduceDIte, Nat.reduceLT, Nat.reduceEqDiff, Nat.reduceAdd, Nat.reduceSub, Nat.reduceMul, Nat.reduceLeDiff, Nat.reduceBEq, Nat.reduceBNe, Int.reduceNeg, Int.reduceAdd, Int.reduceSub, Int.reduceToNat, nilTest, shiftH, Blk.ren, V.ren, renL, initV, frameH, putL, frρ, dI, dW, e01, hNow, hw2, qq, hlen]
    first | refine acall_flat' (V1) rfl ?_ | refine dcall_flat' (V1) rfl ?_ | refine acall_ice' (V1) ?_ | refine dcall_still' (V1) rfl ?_
    try simp (maxSteps := 2000000) -implicitDefEqProofs only [zz, zE, evop, ev, ofVal, tget, tput, ok, V.isUndef, intBin, guardOf, initT, Ch.on, calleeOf, withArgs, told, xport, xports, tids, tidss, hget, hput, Blk.ice, freeze, V.cells, D.cells, V.isAgg, V.one, V.clo, clos, V.toD, loadD, structAt, eqCells, D.scalarEq, sliceOf, partsD, partsV, bound, isPtr, Blk.width, elems, lenOf, splice, D.over, resOf, resV, resVs, ↓reduceIte, reduceCtorEq, ↓reduceDIte, Nat.reduceLT, Nat.reduceEqDiff, Nat.reduceAdd, Nat.reduceSub, Nat.reduceMul, Nat.reduceLeDiff, Nat.reduceBEq, Nat.reduceBNe, Int.reduceNeg, Int.reduceAdd, Int.reduceSub, Int.reduceToNat, nilTest, shiftH, Blk.ren, V.ren, renL, initV, frameH, putL, frρ, dI, dW]
    try simp (maxSteps := 2000000) -implicitDefEqProofs only [zz, zE, evop, ev, ofVal, tget, tput, ok, V.isUndef, intBin, guardOf, initT, Ch.on, calleeOf, withArgs, told, xport, xports, tids, tidss, hget, hput, Blk.ice, freeze, V.cells, D.cells, V.isAgg, V.one, V.clo, clos, V.toD, loadD, structAt, eqCells, D.scalarEq, sliceOf, partsD, partsV, bound, isPtr, Blk.width, elems, lenOf, splice, D.over, resOf, resV, resVs, ↓reduceIte, reduceCtorEq, ↓reduceDIte, Nat.reduceLT, Nat.reduceEqDiff, Nat.reduceAdd, Nat.reduceSub, Nat.reduceMul, Nat.reduceLeDiff, Nat.reduceBEq, Nat.reduceBNe, Int.reduceNeg, Int.reduceAdd, Int.reduceSub, Int.reduceToNat, nilTest, shiftH, Blk.ren, V.ren, renL, initV, frameH, putL, frρ, dI, dW, e01, hNow, hw2, qq, hlen]
    first | refine acall_flat' (V1) rfl ?_ | refine dcall_flat' (V1) rfl ?_ | refine acall_ice' (V1) ?_ | refine dcall_still' (V1) rfl ?_
    try simp (maxSteps := 2000000) -implicitDefEqProofs only [zz, zE, evop, ev, ofVal, tget, tput, ok, V.isUndef, intBin, guardOf, initT, Ch.on, calleeOf, withArgs, told, xport, xports, tids, tidss, hget, hput, Blk.ice, freeze, V.cells, D.cells, V.isAgg, V.one, V.clo, clos, V.toD, loadD, structAt, eqCells, D.scalarEq, sliceOf, partsD, partsV, bound, isPtr, Blk.width, elems, lenOf, splice, D.over, resOf, resV, resVs, ↓reduceIte, reduceCtorEq, ↓reduceDIte, Nat.reduceLT, Nat.reduceEqDiff, Nat.reduceAdd, Nat.reduceSub, Nat.reduceMul, Nat.reduceLeDiff, Nat.reduceBEq, Nat.reduceBNe, Int.reduceNeg, Int.reduceAdd, Int.reduceSub, Int.reduceToNat, nilTest, shiftH, Blk.ren, V.ren, renL, initV, frameH, putL, frρ, dI, dW]
    try simp (maxSteps := 2000000) -implicitDefEqProofs only [zz, zE, evop, ev, ofVal, tget, tput, ok, V.isUndef, intBin, guardOf, initT, Ch.on, calleeOf, withArgs, told, xport, xports, tids, tidss, hget, hput, Blk.ice, freeze, V.cells, D.cells, V.isAgg, V.one, V.clo, clos, V.toD, loadD, structAt, eqCells, D.scalarEq, sliceOf, partsD, partsV, bound, isPtr, Blk.width, elems, lenOf, splice, D.over, resOf, resV, resVs, ↓reduceIte, reduceCtorEq, ↓reduceDIte, Nat.reduceLT, Nat.reduceEqDiff, Nat.reduceAdd, Nat.reduceSub, Nat.reduceMul, Nat.reduceLeDiff, Nat.reduceBEq, Nat.reduceBNe, Int.reduceNeg, Int.reduceAdd, Int.reduceSub, Int.reduceToNat, nilTest, shiftH, Blk.ren, V.ren, renL, initV, frameH, putL, frρ, dI, dW, e01, hNow, hw2, qq, hlen]
    first | refine acall_flat' (V2) rfl ?_ | refine dcall_flat' (V2) rfl ?_ | refine acall_ice' (V2) ?_ | refine dcall_still' (V2) rfl ?_
    try simp (maxSteps := 2000000) -implicitDefEqProofs only [zz, zE, evop, ev, ofVal, tget, tput, ok, V.isUndef, intBin, guardOf, initT, Ch.on, calleeOf, withArgs, told, xport, xports, tids, tidss, hget, hput, Blk.ice, freeze, V.cells, D.cells, V.isAgg, V.one, V.clo, clos, V.toD, loadD, structAt, eqCells, D.scalarEq, sliceOf, partsD, partsV, bound, isPtr, Blk.width, elems, lenOf, splice, D.over, resOf, resV, resVs, ↓reduceIte, reduceCtorEq, ↓reduceDIte, Nat.reduceLT, Nat.reduceEqDiff, Nat.reduceAdd, Nat.reduceSub, Nat.reduceMul, Nat.reduceLeDiff, Nat.reduceBEq, Nat.reduceBNe, Int.reduceNeg, Int.reduceAdd, Int.reduceSub, Int.reduceToNat, nilTest, shiftH, Blk.ren, V.ren, renL, initV, frameH, putL, frρ, dI, dW]
    try simp (maxSteps := 2000000) -implicitDefEqProofs only [zz, zE, evop, ev, ofVal, tget, tput, ok, V.isUndef, intBin, guardOf, initT, Ch.on, calleeOf, withArgs, told, xport, xports, tids, tidss, hget, hput, Blk.ice, freeze, V.cells, D.cells, V.isAgg, V.one, V.clo, clos, V.toD, loadD, structAt, eqCells, D.scalarEq, sliceOf, partsD, partsV, bound, isPtr, Blk.width, elems, lenOf, splice, D.over, resOf, resV, resVs, ↓reduceIte, reduceCtorEq, ↓reduceDIte, Nat.reduceLT, Nat.reduceEqDiff, Nat.reduceAdd, Nat.reduceSub, Nat.reduceMul, Nat.reduceLeDiff, Nat.reduceBEq, Nat.reduceBNe, Int.reduceNeg, Int.reduceAdd, Int.reduceSub, Int.reduceToNat, nilTest, shiftH, Blk.ren, V.ren, renL, initV, frameH, putL, frρ, dI, dW, e01, hNow, hw2, qq, hlen]
    first | refine acall_flat' (I1) rfl ?_ | refine dcall_flat' (I1) rfl ?_ | refine acall_ice' (I1) ?_ | refine dcall_still' (I1) rfl ?_
    try simp (maxSteps := 2000000) -implicitDefEqProofs only [zz, zE, evop, ev, ofVal, tget, tput, ok, V.isUndef, intBin, guardOf, initT, Ch.on, calleeOf, withArgs, told, xport, xports, tids, tidss, hget, hput, Blk.ice, freeze, V.cells, D.cells, V.isAgg, V.one, V.clo, clos, V.toD, loadD, structAt, eqCells, D.scalarEq, sliceOf, partsD, partsV, bound, isPtr, Blk.width, elems, lenOf, splice, D.over, resOf, resV, resVs, ↓reduceIte, reduceCtorEq, ↓reduceDIte, Nat.reduceLT, Nat.reduceEqDiff, Nat.reduceAdd, Nat.reduceSub, Nat.reduceMul, Nat.reduceLeDiff, Nat.reduceBEq, Nat.reduceBNe, Int.reduceNeg, Int.reduceAdd, Int.reduceSub, Int.reduceToNat, nilTest, shiftH, Blk.ren, V.ren, renL, initV, frameH, putL, frρ, dI, dW]
    try simp (maxSteps := 2000000) -implicitDefEqProofs only [zz, zE, evop, ev, ofVal, tget, tput, ok, V.isUndef, intBin, guardOf, initT, Ch.on, calleeOf, withArgs, told, xport, xports, tids, tidss, hget, hput, Blk.ice, freeze, V.cells, D.cells, V.isAgg, V.one, V.clo, clos, V.toD, loadD, structAt, eqCells, D.scalarEq, sliceOf, partsD, partsV, bound, isPtr, Blk.width, elems, lenOf, splice, D.over, resOf, resV, resVs, ↓reduceIte, reduceCtorEq, ↓reduceDIte, Nat.reduceLT, Nat.reduceEqDiff, Nat.reduceAdd, Nat.reduceSub, Nat.reduceMul, Nat.reduceLeDiff, Nat.reduceBEq, Nat.reduceBNe, Int.reduceNeg, Int.reduceAdd, Int.reduceSub, Int.reduceToNat, nilTest, shiftH, Blk.ren, V.ren, renL, initV, frameH, putL, frρ, dI, dW, e01, e02, hNow, hw2, qq, hlen]
    first | refine acall_flat' (c_awake17) rfl ?_ | refine dcall_flat' (c_awake17) rfl ?_ | refine acall_ice' (c_awake17) ?_ | refine dcall_still' (c_awake17) rfl ?_
    try simp (maxSteps := 2000000) -implicitDefEqProofs only [zz, zE, evop, ev, ofVal, tget, tput, ok, V.isUndef, intBin, guardOf, initT, Ch.on, calleeOf, withArgs, told, xport, xports, tids, tidss, hget, hput, Blk.ice, freeze, V.cells, D.cells, V.isAgg, V.one, V.clo, clos, V.toD, loadD, structAt, eqCells, D.scalarEq, sliceOf, partsD, partsV, bound, isPtr, Blk.width, elems, lenOf, splice, D.over, resOf, resV, resVs, ↓reduceIte, reduceCtorEq, ↓reduceDIte, Nat.reduceLT, Nat.reduceEqDiff, Nat.reduceAdd, Nat.reduceSub, Nat.reduceMul, Nat.reduceLeDiff, Nat.reduceBEq, Nat.reduceBNe, Int.reduceNeg, Int.reduceAdd, Int.reduceSub, Int.reduceToNat, nilTest, shiftH, Blk.ren, V.ren, renL, initV, frameH, putL, frρ, dI, dW]
end Go.Proofs.Ytaejlmengfahnaa.AM
