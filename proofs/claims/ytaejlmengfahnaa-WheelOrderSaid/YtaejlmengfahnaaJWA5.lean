/- The texts Ut, Uu, Sa, Fk, Fl, Fm, Fo, Uv, Uw, Ux, Uy, Am36, Uz, Va, joined. -/
import Derived.Carry
import Derived.Test.YtaejlmengfahnaaJWA4

set_option linter.all false
set_option linter.all false
set_option maxRecDepth 100000
set_option maxHeartbeats 8000000
namespace Go.Proofs.Ytaejlmengfahnaa.AM
open Go Go.RowKit

def w17a : Wh := ⟨6, [[], [], [], [], [], [], [], []]⟩
def w17b : Wh := ⟨6, [[], [(2, 9)], [], [], [], [], [], []]⟩
def w17c : Wh := ⟨6, [[], [(2, 9), (1, 17)], [], [], [], [], [], []]⟩
def w17d : Wh := ⟨8, [[], [(2, 9), (1, 17)], [], [], [], [], [], []]⟩
def w17e : Wh := ⟨9, [[], [(1, 17)], [], [], [], [], [], []]⟩
def w17f : Wh := ⟨9, [[], [], [], [], [], [], [], []]⟩
theorem h17 (w : Wh) (h : (w.slots.all fun l => decide (l.length ≤ 1000000)) = true) : ∀ l ∈ w.slots, l.length ≤ 1000000 := fun l hl => of_decide_eq_true (List.all_eq_true.1 h l hl)
theorem x17_1 : CSpec Try.prog 19 [.int .i64 6] (.tuple [dWh w17a, .int .i64 0]) := c_wh_New 6
theorem x17_2 : CSpec Try.prog 12 [dWh w17a, .int .i64 2, .int .i64 3] (.tuple [dWh w17b, .int .i64 0]) := by
  have h := c_wh_Set w17a 2 3 rfl (h17 _ rfl)
  have e : setW w17a 2 3 = (w17b, 0) := by kernel_rfl
  rw [e] at h; exact h
theorem x17_3 : CSpec Try.prog 12 [dWh w17b, .int .i64 1, .int .i64 11] (.tuple [dWh w17c, .int .i64 0]) := by
  have h := c_wh_Set w17b 1 11 rfl (h17 _ rfl)
  have e : setW w17b 1 11 = (w17c, 0) := by kernel_rfl
  rw [e] at h; exact h
theorem x17_4 : CSpec Try.prog 12 [dWh w17c, .int .i64 2, .int .i64 1] (.tuple [dWh w17c, .int .i64 9]) := by
  have h := c_wh_Set w17c 2 1 rfl (h17 _ rfl)
  have e : setW w17c 2 1 = (w17c, 9) := by kernel_rfl
  rw [e] at h; exact h
theorem x17_5 : CSpec Try.prog 16 [dWh w17c, .int .i64 2] (.tuple [dWh w17d, .vec [], .int .i64 0]) := by
  have h := c_wh_Turn w17c 2 rfl (h17 _ rfl)
  have e : turnW w17c 2 = (w17d, [], 0) := by kernel_rfl
  rw [e] at h; exact h
theorem x17_6 : CSpec Try.prog 16 [dWh w17d, .int .i64 1] (.tuple [dWh w17e, .vec [dW (2, 9)], .int .i64 0]) := by
  have h := c_wh_Turn w17d 1 rfl (h17 _ rfl)
  have e : turnW w17d 1 = (w17e, [(2, 9)], 0) := by kernel_rfl
  rw [e] at h; exact h
theorem x17_7 : CSpec Try.prog 14 [dWh w17e, .int .i64 1] (.tuple [dWh w17f, .int .i64 0]) := by
  have h := c_wh_Clear w17e 1 rfl (h17 _ rfl)
  have e : clearW w17e 1 = (w17f, 0) := by kernel_rfl
  rw [e] at h; exact h
theorem x17_8 : CSpec Try.prog 20 [dWh w17f] (.vec []) := by
  have h := c_wh_Items w17f rfl (h17 _ rfl)
  have e : (if rightB w17f = true then itemsW w17f else []) = [] := by kernel_rfl
  rw [e] at h; exact h
theorem x17_9 : CSpec Try.prog 20 [dWh w17c] (.vec [dW (2, 9), dW (1, 17)]) := by
  have h := c_wh_Items w17c rfl (h17 _ rfl)
  have e : (if rightB w17c = true then itemsW w17c else []) = [(2, 9), (1, 17)] := by kernel_rfl
  rw [e] at h; exact h
theorem x17_10 : CSpec Try.prog 21 [dWh w17e] (.bool true) := by
  have h := c_wh_Right w17e rfl (h17 _ rfl)
  have e : rightB w17e = true := by kernel_rfl
  rw [e] at h; exact h

theorem c_awake17 : CSpec Try.prog 9 [] (.bool true) := by
  have q1 := x17_1
  have q2 := x17_2
  have q3 := x17_3
  have q4 := x17_4
  have q5 := x17_5
  have q6 := x17_6
  have q7 := x17_7
  have q8 := x17_8
  have q9 := x17_9
  have q10 := x17_10
  simp only [dWh, w17a, w17b, w17c, w17d, w17e, w17f, dW, List.map_cons, List.map_nil] at q1 q2 q3 q4 q5 q6 q7 q8 q9 q10
  refine CSpec.of_awp envOf_ok hmix Try.func9 rfl (fun args w => Try.call9 args w) (by simp [Try.f9]) ?_
  simp only [Try.f9]
  simp (maxSteps := 2000000) -implicitDefEqProofs only [zz, zE, evop, ev, ofVal, tget, tput, ok, V.isUndef, intBin, guardOf, initT, Ch.on, calleeOf, withArgs, told, xport, xports, tids, tidss, hget, hput, Blk.ice, freeze, V.cells, D.cells, V.isAgg, V.one, V.clo, clos, V.toD, loadD, structAt, eqCells, D.scalarEq, sliceOf, partsD, partsV, bound, isPtr, Blk.width, elems, lenOf, splice, D.over, resOf, resV, resVs, ↓reduceIte, reduceCtorEq, ↓reduceDIte, Nat.reduceLT, Nat.reduceEqDiff, Nat.reduceAdd, Nat.reduceSub, Nat.reduceMul, Nat.reduceLeDiff, Nat.reduceBEq, Nat.reduceBNe, Int.reduceNeg, Int.reduceAdd, Int.reduceSub, Int.reduceToNat, nilTest, shiftH, Blk.ren, V.ren, renL, initV, frameH, putL, frρ, dI, dW, dWh]
  refine acall_ice' (q1) ?_
  try simp (maxSteps := 2000000) -implicitDefEqProofs only [zz, zE, evop, ev, ofVal, tget, tput, ok, V.isUndef, intBin, guardOf, initT, Ch.on, calleeOf, withArgs, told, xport, xports, tids, tidss, hget, hput, Blk.ice, freeze, V.cells, D.cells, V.isAgg, V.one, V.clo, clos, V.toD, loadD, structAt, eqCells, D.scalarEq, sliceOf, partsD, partsV, bound, isPtr, Blk.width, elems, lenOf, splice, D.over, resOf, resV, resVs, ↓reduceIte, reduceCtorEq, ↓reduceDIte, Nat.reduceLT, Nat.reduceEqDiff, Nat.reduceAdd, Nat.reduceSub, Nat.reduceMul, Nat.reduceLeDiff, Nat.reduceBEq, Nat.reduceBNe, Int.reduceNeg, Int.reduceAdd, Int.reduceSub, Int.reduceToNat, nilTest, shiftH, Blk.ren, V.ren, renL, initV, frameH, putL, frρ, dI, dW, dWh]
  refine acall_ice' (q2) ?_
  try simp (maxSteps := 2000000) -implicitDefEqProofs only [zz, zE, evop, ev, ofVal, tget, tput, ok, V.isUndef, intBin, guardOf, initT, Ch.on, calleeOf, withArgs, told, xport, xports, tids, tidss, hget, hput, Blk.ice, freeze, V.cells, D.cells, V.isAgg, V.one, V.clo, clos, V.toD, loadD, structAt, eqCells, D.scalarEq, sliceOf, partsD, partsV, bound, isPtr, Blk.width, elems, lenOf, splice, D.over, resOf, resV, resVs, ↓reduceIte, reduceCtorEq, ↓reduceDIte, Nat.reduceLT, Nat.reduceEqDiff, Nat.reduceAdd, Nat.reduceSub, Nat.reduceMul, Nat.reduceLeDiff, Nat.reduceBEq, Nat.reduceBNe, Int.reduceNeg, Int.reduceAdd, Int.reduceSub, Int.reduceToNat, nilTest, shiftH, Blk.ren, V.ren, renL, initV, frameH, putL, frρ, dI, dW, dWh]
  refine acall_ice' (q3) ?_
  try simp (maxSteps := 2000000) -implicitDefEqProofs only [zz, zE, evop, ev, ofVal, tget, tput, ok, V.isUndef, intBin, guardOf, initT, Ch.on, calleeOf, withArgs, told, xport, xports, tids, tidss, hget, hput, Blk.ice, freeze, V.cells, D.cells, V.isAgg, V.one, V.clo, clos, V.toD, loadD, structAt, eqCells, D.scalarEq, sliceOf, partsD, partsV, bound, isPtr, Blk.width, elems, lenOf, splice, D.over, resOf, resV, resVs, ↓reduceIte, reduceCtorEq, ↓reduceDIte, Nat.reduceLT, Nat.reduceEqDiff, Nat.reduceAdd, Nat.reduceSub, Nat.reduceMul, Nat.reduceLeDiff, Nat.reduceBEq, Nat.reduceBNe, Int.reduceNeg, Int.reduceAdd, Int.reduceSub, Int.reduceToNat, nilTest, shiftH, Blk.ren, V.ren, renL, initV, frameH, putL, frρ, dI, dW, dWh]
  refine acall_ice' (q4) ?_
  try simp (maxSteps := 2000000) -implicitDefEqProofs only [zz, zE, evop, ev, ofVal, tget, tput, ok, V.isUndef, intBin, guardOf, initT, Ch.on, calleeOf, withArgs, told, xport, xports, tids, tidss, hget, hput, Blk.ice, freeze, V.cells, D.cells, V.isAgg, V.one, V.clo, clos, V.toD, loadD, structAt, eqCells, D.scalarEq, sliceOf, partsD, partsV, bound, isPtr, Blk.width, elems, lenOf, splice, D.over, resOf, resV, resVs, ↓reduceIte, reduceCtorEq, ↓reduceDIte, Nat.reduceLT, Nat.reduceEqDiff, Nat.reduceAdd, Nat.reduceSub, Nat.reduceMul, Nat.reduceLeDiff, Nat.reduceBEq, Nat.reduceBNe, Int.reduceNeg, Int.reduceAdd, Int.reduceSub, Int.reduceToNat, nilTest, shiftH, Blk.ren, V.ren, renL, initV, frameH, putL, frρ, dI, dW, dWh]
  refine acall_ice' (q5) ?_
  try simp (maxSteps := 2000000) -implicitDefEqProofs only [zz, zE, evop, ev, ofVal, tget, tput, ok, V.isUndef, intBin, guardOf, initT, Ch.on, calleeOf, withArgs, told, xport, xports, tids, tidss, hget, hput, Blk.ice, freeze, V.cells, D.cells, V.isAgg, V.one, V.clo, clos, V.toD, loadD, structAt, eqCells, D.scalarEq, sliceOf, partsD, partsV, bound, isPtr, Blk.width, elems, lenOf, splice, D.over, resOf, resV, resVs, ↓reduceIte, reduceCtorEq, ↓reduceDIte, Nat.reduceLT, Nat.reduceEqDiff, Nat.reduceAdd, Nat.reduceSub, Nat.reduceMul, Nat.reduceLeDiff, Nat.reduceBEq, Nat.reduceBNe, Int.reduceNeg, Int.reduceAdd, Int.reduceSub, Int.reduceToNat, nilTest, shiftH, Blk.ren, V.ren, renL, initV, frameH, putL, frρ, dI, dW, dWh]
  refine acall_ice' (q6) ?_
  try simp (maxSteps := 2000000) -implicitDefEqProofs only [zz, zE, evop, ev, ofVal, tget, tput, ok, V.isUndef, intBin, guardOf, initT, Ch.on, calleeOf, withArgs, told, xport, xports, tids, tidss, hget, hput, Blk.ice, freeze, V.cells, D.cells, V.isAgg, V.one, V.clo, clos, V.toD, loadD, structAt, eqCells, D.scalarEq, sliceOf, partsD, partsV, bound, isPtr, Blk.width, elems, lenOf, splice, D.over, resOf, resV, resVs, ↓reduceIte, reduceCtorEq, ↓reduceDIte, Nat.reduceLT, Nat.reduceEqDiff, Nat.reduceAdd, Nat.reduceSub, Nat.reduceMul, Nat.reduceLeDiff, Nat.reduceBEq, Nat.reduceBNe, Int.reduceNeg, Int.reduceAdd, Int.reduceSub, Int.reduceToNat, nilTest, shiftH, Blk.ren, V.ren, renL, initV, frameH, putL, frρ, dI, dW, dWh]
  refine acall_ice' (q7) ?_
  try simp (maxSteps := 2000000) -implicitDefEqProofs only [zz, zE, evop, ev, ofVal, tget, tput, ok, V.isUndef, intBin, guardOf, initT, Ch.on, calleeOf, withArgs, told, xport, xports, tids, tidss, hget, hput, Blk.ice, freeze, V.cells, D.cells, V.isAgg, V.one, V.clo, clos, V.toD, loadD, structAt, eqCells, D.scalarEq, sliceOf, partsD, partsV, bound, isPtr, Blk.width, elems, lenOf, splice, D.over, resOf, resV, resVs, ↓reduceIte, reduceCtorEq, ↓reduceDIte, Nat.reduceLT, Nat.reduceEqDiff, Nat.reduceAdd, Nat.reduceSub, Nat.reduceMul, Nat.reduceLeDiff, Nat.reduceBEq, Nat.reduceBNe, Int.reduceNeg, Int.reduceAdd, Int.reduceSub, Int.reduceToNat, nilTest, shiftH, Blk.ren, V.ren, renL, initV, frameH, putL, frρ, dI, dW, dWh]
  have e1 : (((1 : Nat) : Int) == 1) = true := rfl
  have e2 : (((2 : Nat) : Int) == 2) = true := rfl
  have e0 : (((0 : Nat) : Int) == 0) = true := rfl
  simp (maxSteps := 2000000) -implicitDefEqProofs only [zz, zE, evop, ev, ofVal, tget, tput, ok, V.isUndef, intBin, guardOf, initT, Ch.on, calleeOf, withArgs, told, xport, xports, tids, tidss, hget, hput, Blk.ice, freeze, V.cells, D.cells, V.isAgg, V.one, V.clo, clos, V.toD, loadD, structAt, eqCells, D.scalarEq, sliceOf, partsD, partsV, bound, isPtr, Blk.width, elems, lenOf, splice, D.over, resOf, resV, resVs, ↓reduceIte, reduceCtorEq, ↓reduceDIte, Nat.reduceLT, Nat.reduceEqDiff, Nat.reduceAdd, Nat.reduceSub, Nat.reduceMul, Nat.reduceLeDiff, Nat.reduceBEq, Nat.reduceBNe, Int.reduceNeg, Int.reduceAdd, Int.reduceSub, Int.reduceToNat, nilTest, shiftH, Blk.ren, V.ren, renL, initV, frameH, putL, frρ, dI, dW, dWh, e0, e1, e2]
  refine ⟨Int.le_refl _, ?_⟩
  refine acall_ice' (q8) ?_
  try simp (maxSteps := 2000000) -implicitDefEqProofs only [zz, zE, evop, ev, ofVal, tget, tput, ok, V.isUndef, intBin, guardOf, initT, Ch.on, calleeOf, withArgs, told, xport, xports, tids, tidss, hget, hput, Blk.ice, freeze, V.cells, D.cells, V.isAgg, V.one, V.clo, clos, V.toD, loadD, structAt, eqCells, D.scalarEq, sliceOf, partsD, partsV, bound, isPtr, Blk.width, elems, lenOf, splice, D.over, resOf, resV, resVs, ↓reduceIte, reduceCtorEq, ↓reduceDIte, Nat.reduceLT, Nat.reduceEqDiff, Nat.reduceAdd, Nat.reduceSub, Nat.reduceMul, Nat.reduceLeDiff, Nat.reduceBEq, Nat.reduceBNe, Int.reduceNeg, Int.reduceAdd, Int.reduceSub, Int.reduceToNat, nilTest, shiftH, Blk.ren, V.ren, renL, initV, frameH, putL, frρ, dI, dW, dWh]
  try simp (maxSteps := 2000000) -implicitDefEqProofs only [zz, zE, evop, ev, ofVal, tget, tput, ok, V.isUndef, intBin, guardOf, initT, Ch.on, calleeOf, withArgs, told, xport, xports, tids, tidss, hget, hput, Blk.ice, freeze, V.cells, D.cells, V.isAgg, V.one, V.clo, clos, V.toD, loadD, structAt, eqCells, D.scalarEq, sliceOf, partsD, partsV, bound, isPtr, Blk.width, elems, lenOf, splice, D.over, resOf, resV, resVs, ↓reduceIte, reduceCtorEq, ↓reduceDIte, Nat.reduceLT, Nat.reduceEqDiff, Nat.reduceAdd, Nat.reduceSub, Nat.reduceMul, Nat.reduceLeDiff, Nat.reduceBEq, Nat.reduceBNe, Int.reduceNeg, Int.reduceAdd, Int.reduceSub, Int.reduceToNat, nilTest, shiftH, Blk.ren, V.ren, renL, initV, frameH, putL, frρ, dI, dW, dWh, e0, e1, e2]
  refine acall_ice' (q9) ?_
  try simp (maxSteps := 2000000) -implicitDefEqProofs only [zz, zE, evop, ev, ofVal, tget, tput, ok, V.isUndef, intBin, guardOf, initT, Ch.on, calleeOf, withArgs, told, xport, xports, tids, tidss, hget, hput, Blk.ice, freeze, V.cells, D.cells, V.isAgg, V.one, V.clo, clos, V.toD, loadD, structAt, eqCells, D.scalarEq, sliceOf, partsD, partsV, bound, isPtr, Blk.width, elems, lenOf, splice, D.over, resOf, resV, resVs, ↓reduceIte, reduceCtorEq, ↓reduceDIte, Nat.reduceLT, Nat.reduceEqDiff, Nat.reduceAdd, Nat.reduceSub, Nat.reduceMul, Nat.reduceLeDiff, Nat.reduceBEq, Nat.reduceBNe, Int.reduceNeg, Int.reduceAdd, Int.reduceSub, Int.reduceToNat, nilTest, shiftH, Blk.ren, V.ren, renL, initV, frameH, putL, frρ, dI, dW, dWh]
  try simp (maxSteps := 2000000) -implicitDefEqProofs only [zz, zE, evop, ev, ofVal, tget, tput, ok, V.isUndef, intBin, guardOf, initT, Ch.on, calleeOf, withArgs, told, xport, xports, tids, tidss, hget, hput, Blk.ice, freeze, V.cells, D.cells, V.isAgg, V.one, V.clo, clos, V.toD, loadD, structAt, eqCells, D.scalarEq, sliceOf, partsD, partsV, bound, isPtr, Blk.width, elems, lenOf, splice, D.over, resOf, resV, resVs, ↓reduceIte, reduceCtorEq, ↓reduceDIte, Nat.reduceLT, Nat.reduceEqDiff, Nat.reduceAdd, Nat.reduceSub, Nat.reduceMul, Nat.reduceLeDiff, Nat.reduceBEq, Nat.reduceBNe, Int.reduceNeg, Int.reduceAdd, Int.reduceSub, Int.reduceToNat, nilTest, shiftH, Blk.ren, V.ren, renL, initV, frameH, putL, frρ, dI, dW, dWh, e0, e1, e2]
  refine acall_flat' (q10) rfl ?_
  try simp (maxSteps := 2000000) -implicitDefEqProofs only [zz, zE, evop, ev, ofVal, tget, tput, ok, V.isUndef, intBin, guardOf, initT, Ch.on, calleeOf, withArgs, told, xport, xports, tids, tidss, hget, hput, Blk.ice, freeze, V.cells, D.cells, V.isAgg, V.one, V.clo, clos, V.toD, loadD, structAt, eqCells, D.scalarEq, sliceOf, partsD, partsV, bound, isPtr, Blk.width, elems, lenOf, splice, D.over, resOf, resV, resVs, ↓reduceIte, reduceCtorEq, ↓reduceDIte, Nat.reduceLT, Nat.reduceEqDiff, Nat.reduceAdd, Nat.reduceSub, Nat.reduceMul, Nat.reduceLeDiff, Nat.reduceBEq, Nat.reduceBNe, Int.reduceNeg, Int.reduceAdd, Int.reduceSub, Int.reduceToNat, nilTest, shiftH, Blk.ren, V.ren, renL, initV, frameH, putL, frρ, dI, dW, dWh]
  refine ⟨⟨by decide, by decide⟩, ?_⟩
  simp (maxSteps := 2000000) -implicitDefEqProofs only [zz, zE, evop, ev, ofVal, tget, tput, ok, V.isUndef, intBin, guardOf, initT, Ch.on, calleeOf, withArgs, told, xport, xports, tids, tidss, hget, hput, Blk.ice, freeze, V.cells, D.cells, V.isAgg, V.one, V.clo, clos, V.toD, loadD, structAt, eqCells, D.scalarEq, sliceOf, partsD, partsV, bound, isPtr, Blk.width, elems, lenOf, splice, D.over, resOf, resV, resVs, ↓reduceIte, reduceCtorEq, ↓reduceDIte, Nat.reduceLT, Nat.reduceEqDiff, Nat.reduceAdd, Nat.reduceSub, Nat.reduceMul, Nat.reduceLeDiff, Nat.reduceBEq, Nat.reduceBNe, Int.reduceNeg, Int.reduceAdd, Int.reduceSub, Int.reduceToNat, nilTest, shiftH, Blk.ren, V.ren, renL, initV, frameH, putL, frρ, dI, dW, dWh, e2]
end Go.Proofs.Ytaejlmengfahnaa.AM

set_option linter.all false
set_option maxRecDepth 100000
set_option maxHeartbeats 8000000
namespace Go.Proofs.Ytaejlmengfahnaa.AM
open Go Go.RowKit

theorem wh8 (w : Wh) (h : w.slots.length = 8) : ∃ d0 d1 d2 d3 d4 d5 d6 d7 : List D, dWh w = .agg [.int .i64 w.now, .vec d0, .vec d1, .vec d2, .vec d3, .vec d4, .vec d5, .vec d6, .vec d7] := by
  obtain ⟨n, sl⟩ := w
  match sl, h with
  | [a, b, c, d, e, f, g, i], _ => exact ⟨_, _, _, _, _, _, _, _, rfl⟩
structure Fit (w : Wh) : Prop where
  len : w.slots.length = 8
  le : ∀ l ∈ w.slots, l.length ≤ 1000000
theorem small_le {w : Wh} (h : smallW w = true) : ∀ l ∈ w.slots, l.length ≤ 20 := fun l hl => of_decide_eq_true (List.all_eq_true.1 h l hl)
theorem fit_small {w : Wh} (hs : w.slots.length = 8) (h : smallW w = true) : Fit w := ⟨hs, fun l hl => by have := small_le h l hl; omega⟩
theorem new_fit (n : Int) : Fit (newW n) := ⟨rfl, fun l hl => by
  have : l = [] := List.eq_of_mem_replicate hl
  subst this; simp⟩
theorem sieve_fit {w : Wh} (h : Fit w) (now : Int) (p : Int × Int → Bool) : Fit (sieveW now w p) := ⟨by simp [sieveW, h.len], fun l hl => by
  obtain ⟨l0, h0, rfl⟩ := List.mem_map.1 hl
  exact Nat.le_trans (List.length_filter_le _ _) (h.le l0 h0)⟩
theorem ofW_fit (now : Int) {l : List (Int × Int)} (h : l.length ≤ 1000000) : Fit (ofW now l) := ⟨by simp [ofW], fun s hs => by
  obtain ⟨i, _, rfl⟩ := List.mem_map.1 hs
  exact Nat.le_trans (List.length_filter_le _ _) h⟩
theorem right_fit {w : Wh} (h : RightW w) : Fit w := ⟨h.len, fun l hl => by
  obtain ⟨i, hi, rfl⟩ := List.getElem_of_mem hl
  have := sub_le (List.getElem?_eq_getElem hi)
  have := h.few; omega⟩
theorem ins_len (x : Int × Int) (l : List (Int × Int)) : (insI x l).length = l.length + 1 := by
  rw [ins_lh]
  have : (loI x l).length + (hiI x l).length = l.length := by
    unfold loI hiI
    induction l with
    | nil => rfl
    | cons y l ih =>
      simp only [List.filter_cons]
      cases ltI y x <;> simp <;> omega
  simp; omega
theorem set_cases (w : Wh) (who k : Int) : (∃ e, e ≠ 0 ∧ setW w who k = (w, e)) ∨ (rightB w = true ∧ whB who = true ∧ hasW w who = false ∧ (tickAfter w.now k).2 = 0 ∧ setW w who k = (putW w (who, (tickAfter w.now k).1), 0)) := by
  unfold setW
  split
  · rename_i h
    split
    · exact .inl ⟨9, by decide, rfl⟩
    · rename_i h2
      split
      · rename_i h3; exact .inr ⟨h.1, h.2, by simpa using h2, h3, rfl⟩
      · rename_i h3; exact .inl ⟨_, h3, rfl⟩
  · exact .inl ⟨1, by decide, rfl⟩
theorem put_of {w : Wh} {who k : Int} (hR : RightW w) (h : (tickAfter w.now k).2 = 0) : putW w (who, (tickAfter w.now k).1) = ofW w.now (insI (who, (tickAfter w.now k).1) (itemsW w)) := by
  have := (after_0 h).2.1
  rw [putW_of hR]
  simp only [tickR, Bool.and_eq_true, decide_eq_true_eq] at this; omega
theorem set_fits {w : Wh} (h : Fit w) (who k : Int) : Fit (setW w who k).1 := by
  rcases set_cases w who k with ⟨e, _, h1⟩ | ⟨h1, _, _, h2, h3⟩
  · rw [h1]; exact h
  · have hR := (rightB_iff h.len).1 h1
    rw [h3]
    show Fit (putW _ _)
    rw [put_of hR h2]
    refine ofW_fit _ ?_
    rw [ins_len, itemsW_len]
    have := hR.few; omega
theorem clear_fits {w : Wh} (h : Fit w) (who : Int) : Fit (clearW w who).1 := by
  unfold clearW
  split
  · split
    · exact sieve_fit h _ _
    · exact h
  · exact h
theorem turn_fits {w : Wh} (h : Fit w) (k : Int) : Fit (turnW w k).1 := by
  unfold turnW
  split
  · split
    · exact sieve_fit h _ _
    · exact h
  · exact h
theorem items_le {w : Wh} (h : rightB w = true) (hs : w.slots.length = 8) : (itemsW w).length ≤ 8 := by
  rw [itemsW_len]; exact ((rightB_iff hs).1 h).few
theorem turn_len {w : Wh} (h : Fit w) (k : Int) : (turnW w k).2.1.length ≤ 8 := by
  unfold turnW
  split
  · rename_i hr
    have := items_le hr h.len
    split
    · have := List.length_filter_le (fun x => decide (x.2 ≤ (tickAfter w.now k).1)) (itemsW w)
      simp only; omega
    · simp
  · simp

theorem c_WheelTells (w : Wh) (who k : Int) (hs : w.slots.length = 8) (hL : ∀ l ∈ w.slots, l.length < 9223372036854775808) : CSpec Try.prog 3 [dWh w, .int .i64 who, .int .i64 k] (.bool true) := by
  have S0 := c_small w hs hL
  obtain ⟨d0, d1, d2, d3, d4, d5, d6, d7, e⟩ := wh8 w hs
  cases hsm : smallW w with
  | false =>
    rw [hsm] at S0
    rw [e] at S0 ⊢
    refine CSpec.of_awp envOf_ok hmix Try.func3 rfl (fun args w => Try.call3 args w) (by simp [Try.f3]) ?_
    simp only [Try.f3]
    simp (maxSteps := 2000000) -implicitDefEqProofs only [zz, zE, evop, ev, ofVal, tget, tput, ok, V.isUndef, intBin, guardOf, initT, Ch.on, calleeOf, withArgs, told, xport, xports, tids, tidss, hget, hput, Blk.ice, freeze, V.cells, D.cells, V.isAgg, V.one, V.clo, clos, V.toD, loadD, structAt, eqCells, D.scalarEq, sliceOf, partsD, partsV, bound, isPtr, Blk.width, elems, lenOf, splice, D.over, resOf, resV, resVs, ↓reduceIte, reduceCtorEq, ↓reduceDIte, Nat.reduceLT, Nat.reduceEqDiff, Nat.reduceAdd, Nat.reduceSub, Nat.reduceMul, Nat.reduceLeDiff, Nat.reduceBEq, Nat.reduceBNe, Int.reduceNeg, Int.reduceAdd, Int.reduceSub, Int.reduceToNat, nilTest, shiftH, Blk.ren, V.ren, renL, initV, frameH, putL, frρ, dI, dW]
    first | refine acall_flat' (S0) rfl ?_ | refine dcall_flat' (S0) rfl ?_ | refine acall_ice' (S0) ?_ | refine dcall_still' (S0) rfl ?_
    try simp (maxSteps := 2000000) -implicitDefEqProofs only [zz, zE, evop, ev, ofVal, tget, tput, ok, V.isUndef, intBin, guardOf, initT, Ch.on, calleeOf, withArgs, told, xport, xports, tids, tidss, hget, hput, Blk.ice, freeze, V.cells, D.cells, V.isAgg, V.one, V.clo, clos, V.toD, loadD, structAt, eqCells, D.scalarEq, sliceOf, partsD, partsV, bound, isPtr, Blk.width, elems, lenOf, splice, D.over, resOf, resV, resVs, ↓reduceIte, reduceCtorEq, ↓reduceDIte, Nat.reduceLT, Nat.reduceEqDiff, Nat.reduceAdd, Nat.reduceSub, Nat.reduceMul, Nat.reduceLeDiff, Nat.reduceBEq, Nat.reduceBNe, Int.reduceNeg, Int.reduceAdd, Int.reduceSub, Int.reduceToNat, nilTest, shiftH, Blk.ren, V.ren, renL, initV, frameH, putL, frρ, dI, dW]
    first | refine acall_flat' (c_awake17) rfl ?_ | refine dcall_flat' (c_awake17) rfl ?_ | refine acall_ice' (c_awake17) ?_ | refine dcall_still' (c_awake17) rfl ?_
    try simp (maxSteps := 2000000) -implicitDefEqProofs only [zz, zE, evop, ev, ofVal, tget, tput, ok, V.isUndef, intBin, guardOf, initT, Ch.on, calleeOf, withArgs, told, xport, xports, tids, tidss, hget, hput, Blk.ice, freeze, V.cells, D.cells, V.isAgg, V.one, V.clo, clos, V.toD, loadD, structAt, eqCells, D.scalarEq, sliceOf, partsD, partsV, bound, isPtr, Blk.width, elems, lenOf, splice, D.over, resOf, resV, resVs, ↓reduceIte, reduceCtorEq, ↓reduceDIte, Nat.reduceLT, Nat.reduceEqDiff, Nat.reduceAdd, Nat.reduceSub, Nat.reduceMul, Nat.reduceLeDiff, Nat.reduceBEq, Nat.reduceBNe, Int.reduceNeg, Int.reduceAdd, Int.reduceSub, Int.reduceToNat, nilTest, shiftH, Blk.ren, V.ren, renL, initV, frameH, putL, frρ, dI, dW]
  | true =>
    have hF := fit_small hs hsm
    have R0 := c_law17_Ref w hs hF.le
    have R1 := c_r17_Right w hs hF.le
    have R2 := c_wh_Right w hs hF.le
    have A1 := c_wh_Set w who k hs hF.le
    have A2 := c_r17_Set w who k hs hF.le
    have C1 := c_wh_Clear w who hs hF.le
    have C2 := c_r17_Clear w who hs hF.le
    have T1 := c_wh_Turn w k hs hF.le
    have T2 := c_r17_Turn w k hs hF.le
    have I1 := c_wh_Items w hs hF.le
    have I2 : rightB w = true → CSpec Try.prog 18 [dWh w] (.vec ((itemsW w).map dW)) := fun h => c_r17_Items w ((rightB_iff hs).1 h)
    have N1 := c_wh_New k
    have N2 := c_wh_Items (newW k) rfl (new_fit k).le
    have hA := set_fits hF who k
    have hC := clear_fits hF who
    have hT := turn_fits hF k
    have hN := new_fit k
    have hTl := turn_len hF k
    have A3 := c_law17_Ref _ hA.len hA.le
    have A4 := c_r17_Same _ _ hA.len hA.len hA.le hA.le
    have C3 := c_law17_Ref _ hC.len hC.le
    have C4 := c_r17_Same _ _ hC.len hC.len hC.le hC.le
    have T3 := c_law17_Ref _ hT.len hT.le
    have T4 := c_r17_Same _ _ hT.len hT.len hT.le hT.le
    have T5 := c_law17_Refs _ (show (turnW w k).2.1.length ≤ 1000000 by omega)
    have T6 := c_r17_List _ _ (show (turnW w k).2.1.length ≤ 1000000 by omega) (show (turnW w k).2.1.length ≤ 1000000 by omega)
    have hil : (if rightB w = true then itemsW w else []).length ≤ 8 := by
      split
      · rename_i h; exact items_le h hs
      · simp
    have I3 := c_law17_Refs _ (show (if rightB w = true then itemsW w else []).length ≤ 1000000 by omega)
    have I4 := c_r17_List _ _ (show (if rightB w = true then itemsW w else []).length ≤ 1000000 by omega) (show (if rightB w = true then itemsW w else []).length ≤ 1000000 by omega)
    rw [sameW_self] at A4 C4 T4
    rw [decide_eq_true rfl] at T6 I4
    have hnI : (if rightB (newW k) = true then itemsW (newW k) else []) = [] := by
      have : itemsW (newW k) = [] := rfl
      rw [this]; split <;> rfl
    have hnn : tickR k = true → (newW k).now = k := fun h => by simp [newW, h]
    rw [hnI] at N2
    revert hnn A1 A2 A3 A4 C1 C2 C3 C4 T1 T2 T3 T4 T5 T6 N1 N2 I1 I2 I3 I4
    generalize (setW w who k).2 = ea
    generalize (clearW w who).2 = ec
    generalize (turnW w k).2.2 = et
    generalize (turnW w k).2.1 = lt
    obtain ⟨a0, a1, a2, a3, a4, a5, a6, a7, eA⟩ := wh8 _ hA.len
    obtain ⟨c0, c1, c2, c3, c4, c5, c6, c7, eC⟩ := wh8 _ hC.len
    obtain ⟨t0, t1, t2, t3, t4, t5, t6, t7, eT⟩ := wh8 _ hT.len
    obtain ⟨n0, n1, n2, n3, n4, n5, n6, n7, eN⟩ := wh8 _ hN.len
    rw [eA, eC, eT, eN]
    generalize (setW w who k).1.now = nA
    generalize (clearW w who).1.now = nC
    generalize (turnW w k).1.now = nT
    generalize (newW k).now = nN
    rw [e] at S0 R0 R1 R2 ⊢
    rw [hsm] at S0
    intro A1 A2 C1 C2 T1 T2 I1 I2 N1 N2 A3 A4 C3 C4 T3 T4 T5 T6 I3 I4 hnn
    refine CSpec.of_awp envOf_ok hmix Try.func3 rfl (fun args w => Try.call3 args w) (by simp [Try.f3]) ?_
    simp only [Try.f3]
    simp (maxSteps := 2000000) -implicitDefEqProofs only [zz, zE, evop, ev, ofVal, tget, tput, ok, V.isUndef, intBin, guardOf, initT, Ch.on, calleeOf, withArgs, told, xport, xports, tids, tidss, hget, hput, Blk.ice, freeze, V.cells, D.cells, V.isAgg, V.one, V.clo, clos, V.toD, loadD, structAt, eqCells, D.scalarEq, sliceOf, partsD, partsV, bound, isPtr, Blk.width, elems, lenOf, splice, D.over, resOf, resV, resVs, ↓reduceIte, reduceCtorEq, ↓reduceDIte, Nat.reduceLT, Nat.reduceEqDiff, Nat.reduceAdd, Nat.reduceSub, Nat.reduceMul, Nat.reduceLeDiff, Nat.reduceBEq, Nat.reduceBNe, Int.reduceNeg, Int.reduceAdd, Int.reduceSub, Int.reduceToNat, nilTest, shiftH, Blk.ren, V.ren, renL, initV, frameH, putL, frρ, dI, dW]
    first | refine acall_flat' (S0) rfl ?_ | refine dcall_flat' (S0) rfl ?_ | refine acall_ice' (S0) ?_ | refine dcall_still' (S0) rfl ?_
    try simp (maxSteps := 2000000) -implicitDefEqProofs only [zz, zE, evop, ev, ofVal, tget, tput, ok, V.isUndef, intBin, guardOf, initT, Ch.on, calleeOf, withArgs, told, xport, xports, tids, tidss, hget, hput, Blk.ice, freeze, V.cells, D.cells, V.isAgg, V.one, V.clo, clos, V.toD, loadD, structAt, eqCells, D.scalarEq, sliceOf, partsD, partsV, bound, isPtr, Blk.width, elems, lenOf, splice, D.over, resOf, resV, resVs, ↓reduceIte, reduceCtorEq, ↓reduceDIte, Nat.reduceLT, Nat.reduceEqDiff, Nat.reduceAdd, Nat.reduceSub, Nat.reduceMul, Nat.reduceLeDiff, Nat.reduceBEq, Nat.reduceBNe, Int.reduceNeg, Int.reduceAdd, Int.reduceSub, Int.reduceToNat, nilTest, shiftH, Blk.ren, V.ren, renL, initV, frameH, putL, frρ, dI, dW]
    refine acall_ice' (R0) ?_
    try simp (maxSteps := 2000000) -implicitDefEqProofs only [zz, zE, evop, ev, ofVal, tget, tput, ok, V.isUndef, intBin, guardOf, initT, Ch.on, calleeOf, withArgs, told, xport, xports, tids, tidss, hget, hput, Blk.ice, freeze, V.cells, D.cells, V.isAgg, V.one, V.clo, clos, V.toD, loadD, structAt, eqCells, D.scalarEq, sliceOf, partsD, partsV, bound, isPtr, Blk.width, elems, lenOf, splice, D.over, resOf, resV, resVs, ↓reduceIte, reduceCtorEq, ↓reduceDIte, Nat.reduceLT, Nat.reduceEqDiff, Nat.reduceAdd, Nat.reduceSub, Nat.reduceMul, Nat.reduceLeDiff, Nat.reduceBEq, Nat.reduceBNe, Int.reduceNeg, Int.reduceAdd, Int.reduceSub, Int.reduceToNat, nilTest, shiftH, Blk.ren, V.ren, renL, initV, frameH, putL, frρ, dI, dW]
    first | refine acall_flat' (R1) rfl ?_ | refine dcall_flat' (R1) rfl ?_ | refine acall_ice' (R1) ?_ | refine dcall_still' (R1) rfl ?_
    try simp (maxSteps := 2000000) -implicitDefEqProofs only [zz, zE, evop, ev, ofVal, tget, tput, ok, V.isUndef, intBin, guardOf, initT, Ch.on, calleeOf, withArgs, told, xport, xports, tids, tidss, hget, hput, Blk.ice, freeze, V.cells, D.cells, V.isAgg, V.one, V.clo, clos, V.toD, loadD, structAt, eqCells, D.scalarEq, sliceOf, partsD, partsV, bound, isPtr, Blk.width, elems, lenOf, splice, D.over, resOf, resV, resVs, ↓reduceIte, reduceCtorEq, ↓reduceDIte, Nat.reduceLT, Nat.reduceEqDiff, Nat.reduceAdd, Nat.reduceSub, Nat.reduceMul, Nat.reduceLeDiff, Nat.reduceBEq, Nat.reduceBNe, Int.reduceNeg, Int.reduceAdd, Int.reduceSub, Int.reduceToNat, nilTest, shiftH, Blk.ren, V.ren, renL, initV, frameH, putL, frρ, dI, dW]
    refine acall_ice' (A1) ?_
    try simp (maxSteps := 2000000) -implicitDefEqProofs only [zz, zE, evop, ev, ofVal, tget, tput, ok, V.isUndef, intBin, guardOf, initT, Ch.on, calleeOf, withArgs, told, xport, xports, tids, tidss, hget, hput, Blk.ice, freeze, V.cells, D.cells, V.isAgg, V.one, V.clo, clos, V.toD, loadD, structAt, eqCells, D.scalarEq, sliceOf, partsD, partsV, bound, isPtr, Blk.width, elems, lenOf, splice, D.over, resOf, resV, resVs, ↓reduceIte, reduceCtorEq, ↓reduceDIte, Nat.reduceLT, Nat.reduceEqDiff, Nat.reduceAdd, Nat.reduceSub, Nat.reduceMul, Nat.reduceLeDiff, Nat.reduceBEq, Nat.reduceBNe, Int.reduceNeg, Int.reduceAdd, Int.reduceSub, Int.reduceToNat, nilTest, shiftH, Blk.ren, V.ren, renL, initV, frameH, putL, frρ, dI, dW]
    refine acall_ice' (A2) ?_
    try simp (maxSteps := 2000000) -implicitDefEqProofs only [zz, zE, evop, ev, ofVal, tget, tput, ok, V.isUndef, intBin, guardOf, initT, Ch.on, calleeOf, withArgs, told, xport, xports, tids, tidss, hget, hput, Blk.ice, freeze, V.cells, D.cells, V.isAgg, V.one, V.clo, clos, V.toD, loadD, structAt, eqCells, D.scalarEq, sliceOf, partsD, partsV, bound, isPtr, Blk.width, elems, lenOf, splice, D.over, resOf, resV, resVs, ↓reduceIte, reduceCtorEq, ↓reduceDIte, Nat.reduceLT, Nat.reduceEqDiff, Nat.reduceAdd, Nat.reduceSub, Nat.reduceMul, Nat.reduceLeDiff, Nat.reduceBEq, Nat.reduceBNe, Int.reduceNeg, Int.reduceAdd, Int.reduceSub, Int.reduceToNat, nilTest, shiftH, Blk.ren, V.ren, renL, initV, frameH, putL, frρ, dI, dW]
    refine acall_ice' (C1) ?_
    try simp (maxSteps := 2000000) -implicitDefEqProofs only [zz, zE, evop, ev, ofVal, tget, tput, ok, V.isUndef, intBin, guardOf, initT, Ch.on, calleeOf, withArgs, told, xport, xports, tids, tidss, hget, hput, Blk.ice, freeze, V.cells, D.cells, V.isAgg, V.one, V.clo, clos, V.toD, loadD, structAt, eqCells, D.scalarEq, sliceOf, partsD, partsV, bound, isPtr, Blk.width, elems, lenOf, splice, D.over, resOf, resV, resVs, ↓reduceIte, reduceCtorEq, ↓reduceDIte, Nat.reduceLT, Nat.reduceEqDiff, Nat.reduceAdd, Nat.reduceSub, Nat.reduceMul, Nat.reduceLeDiff, Nat.reduceBEq, Nat.reduceBNe, Int.reduceNeg, Int.reduceAdd, Int.reduceSub, Int.reduceToNat, nilTest, shiftH, Blk.ren, V.ren, renL, initV, frameH, putL, frρ, dI, dW]
    refine acall_ice' (C2) ?_
    try simp (maxSteps := 2000000) -implicitDefEqProofs only [zz, zE, evop, ev, ofVal, tget, tput, ok, V.isUndef, intBin, guardOf, initT, Ch.on, calleeOf, withArgs, told, xport, xports, tids, tidss, hget, hput, Blk.ice, freeze, V.cells, D.cells, V.isAgg, V.one, V.clo, clos, V.toD, loadD, structAt, eqCells, D.scalarEq, sliceOf, partsD, partsV, bound, isPtr, Blk.width, elems, lenOf, splice, D.over, resOf, resV, resVs, ↓reduceIte, reduceCtorEq, ↓reduceDIte, Nat.reduceLT, Nat.reduceEqDiff, Nat.reduceAdd, Nat.reduceSub, Nat.reduceMul, Nat.reduceLeDiff, Nat.reduceBEq, Nat.reduceBNe, Int.reduceNeg, Int.reduceAdd, Int.reduceSub, Int.reduceToNat, nilTest, shiftH, Blk.ren, V.ren, renL, initV, frameH, putL, frρ, dI, dW]
    refine acall_ice' (T1) ?_
    try simp (maxSteps := 2000000) -implicitDefEqProofs only [zz, zE, evop, ev, ofVal, tget, tput, ok, V.isUndef, intBin, guardOf, initT, Ch.on, calleeOf, withArgs, told, xport, xports, tids, tidss, hget, hput, Blk.ice, freeze, V.cells, D.cells, V.isAgg, V.one, V.clo, clos, V.toD, loadD, structAt, eqCells, D.scalarEq, sliceOf, partsD, partsV, bound, isPtr, Blk.width, elems, lenOf, splice, D.over, resOf, resV, resVs, ↓reduceIte, reduceCtorEq, ↓reduceDIte, Nat.reduceLT, Nat.reduceEqDiff, Nat.reduceAdd, Nat.reduceSub, Nat.reduceMul, Nat.reduceLeDiff, Nat.reduceBEq, Nat.reduceBNe, Int.reduceNeg, Int.reduceAdd, Int.reduceSub, Int.reduceToNat, nilTest, shiftH, Blk.ren, V.ren, renL, initV, frameH, putL, frρ, dI, dW]
    refine acall_ice' (T2) ?_
    try simp (maxSteps := 2000000) -implicitDefEqProofs only [zz, zE, evop, ev, ofVal, tget, tput, ok, V.isUndef, intBin, guardOf, initT, Ch.on, calleeOf, withArgs, told, xport, xports, tids, tidss, hget, hput, Blk.ice, freeze, V.cells, D.cells, V.isAgg, V.one, V.clo, clos, V.toD, loadD, structAt, eqCells, D.scalarEq, sliceOf, partsD, partsV, bound, isPtr, Blk.width, elems, lenOf, splice, D.over, resOf, resV, resVs, ↓reduceIte, reduceCtorEq, ↓reduceDIte, Nat.reduceLT, Nat.reduceEqDiff, Nat.reduceAdd, Nat.reduceSub, Nat.reduceMul, Nat.reduceLeDiff, Nat.reduceBEq, Nat.reduceBNe, Int.reduceNeg, Int.reduceAdd, Int.reduceSub, Int.reduceToNat, nilTest, shiftH, Blk.ren, V.ren, renL, initV, frameH, putL, frρ, dI, dW]
    have h10 : ((1 : Int) == 0) = false := rfl
    have hbt : (true == true) = true := rfl
    have hbf : (false == false) = true := rfl
    have qa : (ea == ea) = true := beq_self_eq_true _
    have qc : (ec == ec) = true := beq_self_eq_true _
    have qt : (et == et) = true := beq_self_eq_true _
    have hff : (false != false) = false := rfl
    have hbad : (tickR k = true) = (0 ≤ k ∧ k ≤ 2147483647) := by simp [tickR]
    cases hr : rightB w
    case' true =>
      simp (maxSteps := 2000000) -implicitDefEqProofs only [zz, zE, evop, ev, ofVal, tget, tput, ok, V.isUndef, intBin, guardOf, initT, Ch.on, calleeOf, withArgs, told, xport, xports, tids, tidss, hget, hput, Blk.ice, freeze, V.cells, D.cells, V.isAgg, V.one, V.clo, clos, V.toD, loadD, structAt, eqCells, D.scalarEq, sliceOf, partsD, partsV, bound, isPtr, Blk.width, elems, lenOf, splice, D.over, resOf, resV, resVs, ↓reduceIte, reduceCtorEq, ↓reduceDIte, Nat.reduceLT, Nat.reduceEqDiff, Nat.reduceAdd, Nat.reduceSub, Nat.reduceMul, Nat.reduceLeDiff, Nat.reduceBEq, Nat.reduceBNe, Int.reduceNeg, Int.reduceAdd, Int.reduceSub, Int.reduceToNat, nilTest, shiftH, Blk.ren, V.ren, renL, initV, frameH, putL, frρ, dI, dW]
      refine acall_ice' (I2 hr) ?_
      try simp (maxSteps := 2000000) -implicitDefEqProofs only [zz, zE, evop, ev, ofVal, tget, tput, ok, V.isUndef, intBin, guardOf, initT, Ch.on, calleeOf, withArgs, told, xport, xports, tids, tidss, hget, hput, Blk.ice, freeze, V.cells, D.cells, V.isAgg, V.one, V.clo, clos, V.toD, loadD, structAt, eqCells, D.scalarEq, sliceOf, partsD, partsV, bound, isPtr, Blk.width, elems, lenOf, splice, D.over, resOf, resV, resVs, ↓reduceIte, reduceCtorEq, ↓reduceDIte, Nat.reduceLT, Nat.reduceEqDiff, Nat.reduceAdd, Nat.reduceSub, Nat.reduceMul, Nat.reduceLeDiff, Nat.reduceBEq, Nat.reduceBNe, Int.reduceNeg, Int.reduceAdd, Int.reduceSub, Int.reduceToNat, nilTest, shiftH, Blk.ren, V.ren, renL, initV, frameH, putL, frρ, dI, dW]
    all_goals
      simp only [hr, Bool.false_eq_true, if_false, if_true] at R2 I1 I3 I4
      try simp (maxSteps := 2000000) -implicitDefEqProofs only [zz, zE, evop, ev, ofVal, tget, tput, ok, V.isUndef, intBin, guardOf, initT, Ch.on, calleeOf, withArgs, told, xport, xports, tids, tidss, hget, hput, Blk.ice, freeze, V.cells, D.cells, V.isAgg, V.one, V.clo, clos, V.toD, loadD, structAt, eqCells, D.scalarEq, sliceOf, partsD, partsV, bound, isPtr, Blk.width, elems, lenOf, splice, D.over, resOf, resV, resVs, ↓reduceIte, reduceCtorEq, ↓reduceDIte, Nat.reduceLT, Nat.reduceEqDiff, Nat.reduceAdd, Nat.reduceSub, Nat.reduceMul, Nat.reduceLeDiff, Nat.reduceBEq, Nat.reduceBNe, Int.reduceNeg, Int.reduceAdd, Int.reduceSub, Int.reduceToNat, nilTest, shiftH, Blk.ren, V.ren, renL, initV, frameH, putL, frρ, dI, dW]
      refine acall_ice' (N1) ?_
      try simp (maxSteps := 2000000) -implicitDefEqProofs only [zz, zE, evop, ev, ofVal, tget, tput, ok, V.isUndef, intBin, guardOf, initT, Ch.on, calleeOf, withArgs, told, xport, xports, tids, tidss, hget, hput, Blk.ice, freeze, V.cells, D.cells, V.isAgg, V.one, V.clo, clos, V.toD, loadD, structAt, eqCells, D.scalarEq, sliceOf, partsD, partsV, bound, isPtr, Blk.width, elems, lenOf, splice, D.over, resOf, resV, resVs, ↓reduceIte, reduceCtorEq, ↓reduceDIte, Nat.reduceLT, Nat.reduceEqDiff, Nat.reduceAdd, Nat.reduceSub, Nat.reduceMul, Nat.reduceLeDiff, Nat.reduceBEq, Nat.reduceBNe, Int.reduceNeg, Int.reduceAdd, Int.reduceSub, Int.reduceToNat, nilTest, shiftH, Blk.ren, V.ren, renL, initV, frameH, putL, frρ, dI, dW]
    all_goals
      by_cases hk : tickR k = true
      case' pos =>
        have hk0 : 0 ≤ k ∧ k ≤ 2147483647 := by rw [hbad] at hk; exact hk
        have hk1 := hk0.1
        have hk2 := hk0.2
        have hk3 := hnn hk
        subst hk3
        simp (maxSteps := 2000000) -implicitDefEqProofs only [zz, zE, evop, ev, ofVal, tget, tput, ok, V.isUndef, intBin, guardOf, initT, Ch.on, calleeOf, withArgs, told, xport, xports, tids, tidss, hget, hput, Blk.ice, freeze, V.cells, D.cells, V.isAgg, V.one, V.clo, clos, V.toD, loadD, structAt, eqCells, D.scalarEq, sliceOf, partsD, partsV, bound, isPtr, Blk.width, elems, lenOf, splice, D.over, resOf, resV, resVs, ↓reduceIte, reduceCtorEq, ↓reduceDIte, Nat.reduceLT, Nat.reduceEqDiff, Nat.reduceAdd, Nat.reduceSub, Nat.reduceMul, Nat.reduceLeDiff, Nat.reduceBEq, Nat.reduceBNe, Int.reduceNeg, Int.reduceAdd, Int.reduceSub, Int.reduceToNat, nilTest, shiftH, Blk.ren, V.ren, renL, initV, frameH, putL, frρ, dI, dW, hk, hk1, hk2]
        refine acall_ice' (N2) ?_
        try simp (maxSteps := 2000000) -implicitDefEqProofs only [zz, zE, evop, ev, ofVal, tget, tput, ok, V.isUndef, intBin, guardOf, initT, Ch.on, calleeOf, withArgs, told, xport, xports, tids, tidss, hget, hput, Blk.ice, freeze, V.cells, D.cells, V.isAgg, V.one, V.clo, clos, V.toD, loadD, structAt, eqCells, D.scalarEq, sliceOf, partsD, partsV, bound, isPtr, Blk.width, elems, lenOf, splice, D.over, resOf, resV, resVs, ↓reduceIte, reduceCtorEq, ↓reduceDIte, Nat.reduceLT, Nat.reduceEqDiff, Nat.reduceAdd, Nat.reduceSub, Nat.reduceMul, Nat.reduceLeDiff, Nat.reduceBEq, Nat.reduceBNe, Int.reduceNeg, Int.reduceAdd, Int.reduceSub, Int.reduceToNat, nilTest, shiftH, Blk.ren, V.ren, renL, initV, frameH, putL, frρ, dI, dW]
      case' neg =>
        have hk0 : ¬ (0 ≤ k ∧ k ≤ 2147483647) := by rw [hbad] at hk; exact hk
        have hkf : tickR k = false := by simpa using hk
        by_cases hk1 : 0 ≤ k
        case' pos =>
          have hk2 : ¬ k ≤ 2147483647 := fun h => hk0 ⟨hk1, h⟩
          simp (maxSteps := 2000000) -implicitDefEqProofs only [zz, zE, evop, ev, ofVal, tget, tput, ok, V.isUndef, intBin, guardOf, initT, Ch.on, calleeOf, withArgs, told, xport, xports, tids, tidss, hget, hput, Blk.ice, freeze, V.cells, D.cells, V.isAgg, V.one, V.clo, clos, V.toD, loadD, structAt, eqCells, D.scalarEq, sliceOf, partsD, partsV, bound, isPtr, Blk.width, elems, lenOf, splice, D.over, resOf, resV, resVs, ↓reduceIte, reduceCtorEq, ↓reduceDIte, Nat.reduceLT, Nat.reduceEqDiff, Nat.reduceAdd, Nat.reduceSub, Nat.reduceMul, Nat.reduceLeDiff, Nat.reduceBEq, Nat.reduceBNe, Int.reduceNeg, Int.reduceAdd, Int.reduceSub, Int.reduceToNat, nilTest, shiftH, Blk.ren, V.ren, renL, initV, frameH, putL, frρ, dI, dW, hkf, hk1, hk2, h10, hff]
        case' neg =>
          simp (maxSteps := 2000000) -implicitDefEqProofs only [zz, zE, evop, ev, ofVal, tget, tput, ok, V.isUndef, intBin, guardOf, initT, Ch.on, calleeOf, withArgs, told, xport, xports, tids, tidss, hget, hput, Blk.ice, freeze, V.cells, D.cells, V.isAgg, V.one, V.clo, clos, V.toD, loadD, structAt, eqCells, D.scalarEq, sliceOf, partsD, partsV, bound, isPtr, Blk.width, elems, lenOf, splice, D.over, resOf, resV, resVs, ↓reduceIte, reduceCtorEq, ↓reduceDIte, Nat.reduceLT, Nat.reduceEqDiff, Nat.reduceAdd, Nat.reduceSub, Nat.reduceMul, Nat.reduceLeDiff, Nat.reduceBEq, Nat.reduceBNe, Int.reduceNeg, Int.reduceAdd, Int.reduceSub, Int.reduceToNat, nilTest, shiftH, Blk.ren, V.ren, renL, initV, frameH, putL, frρ, dI, dW, hkf, hk1, h10, hff]
    all_goals
      refine wdraw_plan [⟨[], false, [109], [], false⟩, ⟨[0], false, [109], [], false⟩, ⟨[], false, [107, 108], [0, 1], false⟩, ⟨[0, 1, 2], true, [], [], false⟩, ⟨[0, 1, 2, 3], true, [], [], false⟩, ⟨[0, 1, 2, 3, 4], false, [114], [], false⟩, ⟨[0, 1, 2, 3, 4, 5], false, [114], [], false⟩, ⟨[0, 1, 2, 3, 4], false, [112, 113], [5, 6], false⟩, ⟨[0, 1, 2, 3, 4, 5, 6, 7], false, [], [], false⟩, ⟨[0, 1, 2, 3, 4, 5, 6, 7, 8], true, [], [], false⟩, ⟨[0, 1, 2, 3, 4, 5, 6, 7, 8, 9], true, [], [], false⟩, ⟨[0, 1, 2, 3, 4, 5, 6, 7, 8, 9, 10], false, [119], [], false⟩, ⟨[0, 1, 2, 3, 4, 5, 6, 7, 8, 9, 10], false, [118], [11], false⟩, ⟨[0, 1, 2, 3, 4, 5, 6, 7, 8, 9, 10, 11, 12], false, [], [], false⟩, ⟨[0, 1, 2, 3, 4, 5, 6, 7, 8, 9, 10, 11, 12, 13], true, [], [], false⟩, ⟨[0, 1, 2, 3, 4, 5, 6, 7, 8, 9, 10, 11, 12, 13, 14], true, [], [], false⟩, ⟨[0, 1, 2, 3, 4, 5, 6, 7, 8, 9, 10, 11, 12, 13, 14, 15], false, [125], [], false⟩, ⟨[0, 1, 2, 3, 4, 5, 6, 7, 8, 9, 10, 11, 12, 13, 14, 15, 16], false, [125], [], false⟩, ⟨[0, 1, 2, 3, 4, 5, 6, 7, 8, 9, 10, 11, 12, 13, 14, 15], false, [123, 124], [16, 17], false⟩, ⟨[0, 1, 2, 3, 4, 5, 6, 7, 8, 9, 10, 11, 12, 13, 14, 15, 16, 17, 18], false, [], [], false⟩, ⟨[0, 1, 2, 3, 4, 5, 6, 7, 8, 9, 10, 11, 12, 13, 14, 15, 16, 17, 18, 19], true, [], [], false⟩, ⟨[0, 1, 2, 3, 4, 5, 6, 7, 8, 9, 10, 11, 12, 13, 14, 15, 16, 17, 18, 19, 20], true, [], [], false⟩, ⟨[0, 1, 2, 3, 4, 5, 6, 7, 8, 9, 10, 11, 12, 13, 14, 15, 16, 17, 18, 19, 20, 21], false, [130], [], false⟩, ⟨[0, 1, 2, 3, 4, 5, 6, 7, 8, 9, 10, 11, 12, 13, 14, 15, 16, 17, 18, 19, 20, 21], false, [129], [22], false⟩, ⟨[0, 1, 2, 3, 4, 5, 6, 7, 8, 9, 10, 11, 12, 13, 14, 15, 16, 17, 18, 19, 20, 21, 22, 23], false, [], [], false⟩, ⟨[0, 1, 2, 3, 4, 5, 6, 7, 8, 9, 10, 11, 12, 13, 14, 15, 16, 17, 18, 19, 20, 21, 22, 23, 24], true, [], [], false⟩, ⟨[0, 1, 2, 3, 4, 5, 6, 7, 8, 9, 10, 11, 12, 13, 14, 15, 16, 17, 18, 19, 20, 21, 22, 23, 24, 25], true, [], [], false⟩, ⟨[0, 1, 2, 3, 4, 5, 6, 7, 8, 9, 10, 11, 12, 13, 14, 15, 16, 17, 18, 19, 20, 21, 22, 23, 24, 25, 26], false, [136], [], false⟩, ⟨[0, 1, 2, 3, 4, 5, 6, 7, 8, 9, 10, 11, 12, 13, 14, 15, 16, 17, 18, 19, 20, 21, 22, 23, 24, 25, 26, 27], false, [136], [], false⟩, ⟨[0, 1, 2, 3, 4, 5, 6, 7, 8, 9, 10, 11, 12, 13, 14, 15, 16, 17, 18, 19, 20, 21, 22, 23, 24, 25, 26], false, [134, 135], [27, 28], false⟩, ⟨[0, 1, 2, 3, 4, 5, 6, 7, 8, 9, 10, 11, 12, 13, 14, 15, 16, 17, 18, 19, 20, 21, 22, 23, 24, 25, 26, 27, 28, 29], false, [], [], false⟩, ⟨[0, 1, 2, 3, 4, 5, 6, 7, 8, 9, 10, 11, 12, 13, 14, 15, 16, 17, 18, 19, 20, 21, 22, 23, 24, 25, 26, 27, 28, 29, 30], true, [], [], false⟩, ⟨[0, 1, 2, 3, 4, 5, 6, 7, 8, 9, 10, 11, 12, 13, 14, 15, 16, 17, 18, 19, 20, 21, 22, 23, 24, 25, 26, 27, 28, 29, 30, 31], true, [], [], false⟩, ⟨[0, 1, 2, 3, 4, 5, 6, 7, 8, 9, 10, 11, 12, 13, 14, 15, 16, 17, 18, 19, 20, 21, 22, 23, 24, 25, 26, 27, 28, 29, 30, 31, 32], false, [142], [], false⟩, ⟨[0, 1, 2, 3, 4, 5, 6, 7, 8, 9, 10, 11, 12, 13, 14, 15, 16, 17, 18, 19, 20, 21, 22, 23, 24, 25, 26, 27, 28, 29, 30, 31, 32, 33], false, [142], [], false⟩, ⟨[0, 1, 2, 3, 4, 5, 6, 7, 8, 9, 10, 11, 12, 13, 14, 15, 16, 17, 18, 19, 20, 21, 22, 23, 24, 25, 26, 27, 28, 29, 30, 31, 32], false, [140, 141], [33, 34], false⟩, ⟨[0, 1, 2, 3, 4, 5, 6, 7, 8, 9, 10, 11, 12, 13, 14, 15, 16, 17, 18, 19, 20, 21, 22, 23, 24, 25, 26, 27, 28, 29, 30, 31, 32, 33, 34, 35], false, [], [], false⟩, ⟨[0, 1, 2, 3, 4, 5, 6, 7, 8, 9, 10, 11, 12, 13, 14, 15, 16, 17, 18, 19, 20, 21, 22, 23, 24, 25, 26, 27, 28, 29, 30, 31, 32, 33, 34, 35, 36], true, [], [], false⟩, ⟨[0, 1, 2, 3, 4, 5, 6, 7, 8, 9, 10, 11, 12, 13, 14, 15, 16, 17, 18, 19, 20, 21, 22, 23, 24, 25, 26, 27, 28, 29, 30, 31, 32, 33, 34, 35, 36, 37], true, [], [], false⟩, ⟨[0, 1, 2, 3, 4, 5, 6, 7, 8, 9, 10, 11, 12, 13, 14, 15, 16, 17, 18, 19, 20, 21, 22, 23, 24, 25, 26, 27, 28, 29, 30, 31, 32, 33, 34, 35, 36, 37, 38], false, [147], [], false⟩, ⟨[0, 1, 2, 3, 4, 5, 6, 7, 8, 9, 10, 11, 12, 13, 14, 15, 16, 17, 18, 19, 20, 21, 22, 23, 24, 25, 26, 27, 28, 29, 30, 31, 32, 33, 34, 35, 36, 37, 38], false, [146], [39], false⟩, ⟨[0, 1, 2, 3, 4, 5, 6, 7, 8, 9, 10, 11, 12, 13, 14, 15, 16, 17, 18, 19, 20, 21, 22, 23, 24, 25, 26, 27, 28, 29, 30, 31, 32, 33, 34, 35, 36, 37, 38, 39, 40], false, [], [], false⟩, ⟨[0, 1, 2, 3, 4, 5, 6, 7, 8, 9, 10, 11, 12, 13, 14, 15, 16, 17, 18, 19, 20, 21, 22, 23, 24, 25, 26, 27, 28, 29, 30, 31, 32, 33, 34, 35, 36, 37, 38, 39, 40, 41], true, [], [], false⟩, ⟨[0, 1, 2, 3, 4, 5, 6, 7, 8, 9, 10, 11, 12, 13, 14, 15, 16, 17, 18, 19, 20, 21, 22, 23, 24, 25, 26, 27, 28, 29, 30, 31, 32, 33, 34, 35, 36, 37, 38, 39, 40, 41, 42], true, [], [], false⟩, ⟨[0, 1, 2, 3, 4, 5, 6, 7, 8, 9, 10, 11, 12, 13, 14, 15, 16, 17, 18, 19, 20, 21, 22, 23, 24, 25, 26, 27, 28, 29, 30, 31, 32, 33, 34, 35, 36, 37, 38, 39, 40, 41, 42, 43], false, [154], [], false⟩, ⟨[0, 1, 2, 3, 4, 5, 6, 7, 8, 9, 10, 11, 12, 13, 14, 15, 16, 17, 18, 19, 20, 21, 22, 23, 24, 25, 26, 27, 28, 29, 30, 31, 32, 33, 34, 35, 36, 37, 38, 39, 40, 41, 42, 43, 44], false, [154], [], false⟩, ⟨[0, 1, 2, 3, 4, 5, 6, 7, 8, 9, 10, 11, 12, 13, 14, 15, 16, 17, 18, 19, 20, 21, 22, 23, 24, 25, 26, 27, 28, 29, 30, 31, 32, 33, 34, 35, 36, 37, 38, 39, 40, 41, 42, 43, 44, 45], false, [154], [], false⟩, ⟨[0, 1, 2, 3, 4, 5, 6, 7, 8, 9, 10, 11, 12, 13, 14, 15, 16, 17, 18, 19, 20, 21, 22, 23, 24, 25, 26, 27, 28, 29, 30, 31, 32, 33, 34, 35, 36, 37, 38, 39, 40, 41, 42, 43], false, [151, 152, 153], [44, 45, 46], false⟩, ⟨[0, 1, 2, 3, 4, 5, 6, 7, 8, 9, 10, 11, 12, 13, 14, 15, 16, 17, 18, 19, 20, 21, 22, 23, 24, 25, 26, 27, 28, 29, 30, 31, 32, 33, 34, 35, 36, 37, 38, 39, 40, 41, 42, 43, 44, 45, 46, 47], false, [], [], false⟩, ⟨[0, 1, 2, 3, 4, 5, 6, 7, 8, 9, 10, 11, 12, 13, 14, 15, 16, 17, 18, 19, 20, 21, 22, 23, 24, 25, 26, 27, 28, 29, 30, 31, 32, 33, 34, 35, 36, 37, 38, 39, 40, 41, 42, 43, 44, 45, 46, 47, 48], true, [], [], false⟩, ⟨[0, 1, 2, 3, 4, 5, 6, 7, 8, 9, 10, 11, 12, 13, 14, 15, 16, 17, 18, 19, 20, 21, 22, 23, 24, 25, 26, 27, 28, 29, 30, 31, 32, 33, 34, 35, 36, 37, 38, 39, 40, 41, 42, 43, 44, 45, 46, 47, 48, 49], true, [], [], false⟩, ⟨[0, 1, 2, 3, 4, 5, 6, 7, 8, 9, 10, 11, 12, 13, 14, 15, 16, 17, 18, 19, 20, 21, 22, 23, 24, 25, 26, 27, 28, 29, 30, 31, 32, 33, 34, 35, 36, 37, 38, 39, 40, 41, 42, 43, 44, 45, 46, 47, 48, 49, 50], false, [], [], false⟩, ⟨[0, 1, 2, 3, 4, 5, 6, 7, 8, 9, 10, 11, 12, 13, 14, 15, 16, 17, 18, 19, 20, 21, 22, 23, 24, 25, 26, 27, 28, 29, 30, 31, 32, 33, 34, 35, 36, 37, 38, 39, 40, 41, 42, 43, 44, 45, 46, 47, 48, 49, 50, 51], true, [], [], false⟩, ⟨[0, 1, 2, 3, 4, 5, 6, 7, 8, 9, 10, 11, 12, 13, 14, 15, 16, 17, 18, 19, 20, 21, 22, 23, 24, 25, 26, 27, 28, 29, 30, 31, 32, 33, 34, 35, 36, 37, 38, 39, 40, 41, 42, 43, 44, 45, 46, 47, 48, 49, 50, 51, 52], true, [], [], false⟩] (by kernel_rfl) ?_
      simp (maxSteps := 2000000) -implicitDefEqProofs only [zz, zE, evop, ev, ofVal, tget, tput, ok, V.isUndef, intBin, guardOf, initT, Ch.on, calleeOf, withArgs, told, xport, xports, tids, tidss, hget, hput, Blk.ice, freeze, V.cells, D.cells, V.isAgg, V.one, V.clo, clos, V.toD, loadD, structAt, eqCells, D.scalarEq, sliceOf, partsD, partsV, bound, isPtr, Blk.width, elems, lenOf, splice, D.over, resOf, resV, resVs, ↓reduceIte, reduceCtorEq, ↓reduceDIte, Nat.reduceLT, Nat.reduceEqDiff, Nat.reduceAdd, Nat.reduceSub, Nat.reduceMul, Nat.reduceLeDiff, Nat.reduceBEq, Nat.reduceBNe, Int.reduceNeg, Int.reduceAdd, Int.reduceSub, Int.reduceToNat, nilTest, shiftH, Blk.ren, V.ren, renL, initV, frameH, putL, frρ, dI, dW]
      first | refine acall_flat' (R2) rfl ?_ | refine dcall_flat' (R2) rfl ?_ | refine acall_ice' (R2) ?_ | refine dcall_still' (R2) rfl ?_
      try simp (maxSteps := 2000000) -implicitDefEqProofs only [zz, zE, evop, ev, ofVal, tget, tput, ok, V.isUndef, intBin, guardOf, initT, Ch.on, calleeOf, withArgs, told, xport, xports, tids, tidss, hget, hput, Blk.ice, freeze, V.cells, D.cells, V.isAgg, V.one, V.clo, clos, V.toD, loadD, structAt, eqCells, D.scalarEq, sliceOf, partsD, partsV, bound, isPtr, Blk.width, elems, lenOf, splice, D.over, resOf, resV, resVs, ↓reduceIte, reduceCtorEq, ↓reduceDIte, Nat.reduceLT, Nat.reduceEqDiff, Nat.reduceAdd, Nat.reduceSub, Nat.reduceMul, Nat.reduceLeDiff, Nat.reduceBEq, Nat.reduceBNe, Int.reduceNeg, Int.reduceAdd, Int.reduceSub, Int.reduceToNat, nilTest, shiftH, Blk.ren, V.ren, renL, initV, frameH, putL, frρ, dI, dW]
      try simp (maxSteps := 2000000) -implicitDefEqProofs only [zz, zE, evop, ev, ofVal, tget, tput, ok, V.isUndef, intBin, guardOf, initT, Ch.on, calleeOf, withArgs, told, xport, xports, tids, tidss, hget, hput, Blk.ice, freeze, V.cells, D.cells, V.isAgg, V.one, V.clo, clos, V.toD, loadD, structAt, eqCells, D.scalarEq, sliceOf, partsD, partsV, bound, isPtr, Blk.width, elems, lenOf, splice, D.over, resOf, resV, resVs, ↓reduceIte, reduceCtorEq, ↓reduceDIte, Nat.reduceLT, Nat.reduceEqDiff, Nat.reduceAdd, Nat.reduceSub, Nat.reduceMul, Nat.reduceLeDiff, Nat.reduceBEq, Nat.reduceBNe, Int.reduceNeg, Int.reduceAdd, Int.reduceSub, Int.reduceToNat, nilTest, shiftH, Blk.ren, V.ren, renL, initV, frameH, putL, frρ, dI, dW, hbt, hbf]
      first | refine acall_flat' (A3) rfl ?_ | refine dcall_flat' (A3) rfl ?_ | refine acall_ice' (A3) ?_ | refine dcall_still' (A3) rfl ?_
      try simp (maxSteps := 2000000) -implicitDefEqProofs only [zz, zE, evop, ev, ofVal, tget, tput, ok, V.isUndef, intBin, guardOf, initT, Ch.on, calleeOf, withArgs, told, xport, xports, tids, tidss, hget, hput, Blk.ice, freeze, V.cells, D.cells, V.isAgg, V.one, V.clo, clos, V.toD, loadD, structAt, eqCells, D.scalarEq, sliceOf, partsD, partsV, bound, isPtr, Blk.width, elems, lenOf, splice, D.over, resOf, resV, resVs, ↓reduceIte, reduceCtorEq, ↓reduceDIte, Nat.reduceLT, Nat.reduceEqDiff, Nat.reduceAdd, Nat.reduceSub, Nat.reduceMul, Nat.reduceLeDiff, Nat.reduceBEq, Nat.reduceBNe, Int.reduceNeg, Int.reduceAdd, Int.reduceSub, Int.reduceToNat, nilTest, shiftH, Blk.ren, V.ren, renL, initV, frameH, putL, frρ, dI, dW]
      first | refine acall_flat' (A4) rfl ?_ | refine dcall_flat' (A4) rfl ?_ | refine acall_ice' (A4) ?_ | refine dcall_still' (A4) rfl ?_
      try simp (maxSteps := 2000000) -implicitDefEqProofs only [zz, zE, evop, ev, ofVal, tget, tput, ok, V.isUndef, intBin, guardOf, initT, Ch.on, calleeOf, withArgs, told, xport, xports, tids, tidss, hget, hput, Blk.ice, freeze, V.cells, D.cells, V.isAgg, V.one, V.clo, clos, V.toD, loadD, structAt, eqCells, D.scalarEq, sliceOf, partsD, partsV, bound, isPtr, Blk.width, elems, lenOf, splice, D.over, resOf, resV, resVs, ↓reduceIte, reduceCtorEq, ↓reduceDIte, Nat.reduceLT, Nat.reduceEqDiff, Nat.reduceAdd, Nat.reduceSub, Nat.reduceMul, Nat.reduceLeDiff, Nat.reduceBEq, Nat.reduceBNe, Int.reduceNeg, Int.reduceAdd, Int.reduceSub, Int.reduceToNat, nilTest, shiftH, Blk.ren, V.ren, renL, initV, frameH, putL, frρ, dI, dW]
      try simp (maxSteps := 2000000) -implicitDefEqProofs only [zz, zE, evop, ev, ofVal, tget, tput, ok, V.isUndef, intBin, guardOf, initT, Ch.on, calleeOf, withArgs, told, xport, xports, tids, tidss, hget, hput, Blk.ice, freeze, V.cells, D.cells, V.isAgg, V.one, V.clo, clos, V.toD, loadD, structAt, eqCells, D.scalarEq, sliceOf, partsD, partsV, bound, isPtr, Blk.width, elems, lenOf, splice, D.over, resOf, resV, resVs, ↓reduceIte, reduceCtorEq, ↓reduceDIte, Nat.reduceLT, Nat.reduceEqDiff, Nat.reduceAdd, Nat.reduceSub, Nat.reduceMul, Nat.reduceLeDiff, Nat.reduceBEq, Nat.reduceBNe, Int.reduceNeg, Int.reduceAdd, Int.reduceSub, Int.reduceToNat, nilTest, shiftH, Blk.ren, V.ren, renL, initV, frameH, putL, frρ, dI, dW, qa, qc, qt]
      first | refine acall_flat' (C3) rfl ?_ | refine dcall_flat' (C3) rfl ?_ | refine acall_ice' (C3) ?_ | refine dcall_still' (C3) rfl ?_
      try simp (maxSteps := 2000000) -implicitDefEqProofs only [zz, zE, evop, ev, ofVal, tget, tput, ok, V.isUndef, intBin, guardOf, initT, Ch.on, calleeOf, withArgs, told, xport, xports, tids, tidss, hget, hput, Blk.ice, freeze, V.cells, D.cells, V.isAgg, V.one, V.clo, clos, V.toD, loadD, structAt, eqCells, D.scalarEq, sliceOf, partsD, partsV, bound, isPtr, Blk.width, elems, lenOf, splice, D.over, resOf, resV, resVs, ↓reduceIte, reduceCtorEq, ↓reduceDIte, Nat.reduceLT, Nat.reduceEqDiff, Nat.reduceAdd, Nat.reduceSub, Nat.reduceMul, Nat.reduceLeDiff, Nat.reduceBEq, Nat.reduceBNe, Int.reduceNeg, Int.reduceAdd, Int.reduceSub, Int.reduceToNat, nilTest, shiftH, Blk.ren, V.ren, renL, initV, frameH, putL, frρ, dI, dW]
      first | refine acall_flat' (C4) rfl ?_ | refine dcall_flat' (C4) rfl ?_ | refine acall_ice' (C4) ?_ | refine dcall_still' (C4) rfl ?_
      try simp (maxSteps := 2000000) -implicitDefEqProofs only [zz, zE, evop, ev, ofVal, tget, tput, ok, V.isUndef, intBin, guardOf, initT, Ch.on, calleeOf, withArgs, told, xport, xports, tids, tidss, hget, hput, Blk.ice, freeze, V.cells, D.cells, V.isAgg, V.one, V.clo, clos, V.toD, loadD, structAt, eqCells, D.scalarEq, sliceOf, partsD, partsV, bound, isPtr, Blk.width, elems, lenOf, splice, D.over, resOf, resV, resVs, ↓reduceIte, reduceCtorEq, ↓reduceDIte, Nat.reduceLT, Nat.reduceEqDiff, Nat.reduceAdd, Nat.reduceSub, Nat.reduceMul, Nat.reduceLeDiff, Nat.reduceBEq, Nat.reduceBNe, Int.reduceNeg, Int.reduceAdd, Int.reduceSub, Int.reduceToNat, nilTest, shiftH, Blk.ren, V.ren, renL, initV, frameH, putL, frρ, dI, dW]
      try simp (maxSteps := 2000000) -implicitDefEqProofs only [zz, zE, evop, ev, ofVal, tget, tput, ok, V.isUndef, intBin, guardOf, initT, Ch.on, calleeOf, withArgs, told, xport, xports, tids, tidss, hget, hput, Blk.ice, freeze, V.cells, D.cells, V.isAgg, V.one, V.clo, clos, V.toD, loadD, structAt, eqCells, D.scalarEq, sliceOf, partsD, partsV, bound, isPtr, Blk.width, elems, lenOf, splice, D.over, resOf, resV, resVs, ↓reduceIte, reduceCtorEq, ↓reduceDIte, Nat.reduceLT, Nat.reduceEqDiff, Nat.reduceAdd, Nat.reduceSub, Nat.reduceMul, Nat.reduceLeDiff, Nat.reduceBEq, Nat.reduceBNe, Int.reduceNeg, Int.reduceAdd, Int.reduceSub, Int.reduceToNat, nilTest, shiftH, Blk.ren, V.ren, renL, initV, frameH, putL, frρ, dI, dW, qa, qc, qt]
      first | refine acall_flat' (T3) rfl ?_ | refine dcall_flat' (T3) rfl ?_ | refine acall_ice' (T3) ?_ | refine dcall_still' (T3) rfl ?_
      try simp (maxSteps := 2000000) -implicitDefEqProofs only [zz, zE, evop, ev, ofVal, tget, tput, ok, V.isUndef, intBin, guardOf, initT, Ch.on, calleeOf, withArgs, told, xport, xports, tids, tidss, hget, hput, Blk.ice, freeze, V.cells, D.cells, V.isAgg, V.one, V.clo, clos, V.toD, loadD, structAt, eqCells, D.scalarEq, sliceOf, partsD, partsV, bound, isPtr, Blk.width, elems, lenOf, splice, D.over, resOf, resV, resVs, ↓reduceIte, reduceCtorEq, ↓reduceDIte, Nat.reduceLT, Nat.reduceEqDiff, Nat.reduceAdd, Nat.reduceSub, Nat.reduceMul, Nat.reduceLeDiff, Nat.reduceBEq, Nat.reduceBNe, Int.reduceNeg, Int.reduceAdd, Int.reduceSub, Int.reduceToNat, nilTest, shiftH, Blk.ren, V.ren, renL, initV, frameH, putL, frρ, dI, dW]
      first | refine acall_flat' (T4) rfl ?_ | refine dcall_flat' (T4) rfl ?_ | refine acall_ice' (T4) ?_ | refine dcall_still' (T4) rfl ?_
      try simp (maxSteps := 2000000) -implicitDefEqProofs only [zz, zE, evop, ev, ofVal, tget, tput, ok, V.isUndef, intBin, guardOf, initT, Ch.on, calleeOf, withArgs, told, xport, xports, tids, tidss, hget, hput, Blk.ice, freeze, V.cells, D.cells, V.isAgg, V.one, V.clo, clos, V.toD, loadD, structAt, eqCells, D.scalarEq, sliceOf, partsD, partsV, bound, isPtr, Blk.width, elems, lenOf, splice, D.over, resOf, resV, resVs, ↓reduceIte, reduceCtorEq, ↓reduceDIte, Nat.reduceLT, Nat.reduceEqDiff, Nat.reduceAdd, Nat.reduceSub, Nat.reduceMul, Nat.reduceLeDiff, Nat.reduceBEq, Nat.reduceBNe, Int.reduceNeg, Int.reduceAdd, Int.reduceSub, Int.reduceToNat, nilTest, shiftH, Blk.ren, V.ren, renL, initV, frameH, putL, frρ, dI, dW]
      try simp (maxSteps := 2000000) -implicitDefEqProofs only [zz, zE, evop, ev, ofVal, tget, tput, ok, V.isUndef, intBin, guardOf, initT, Ch.on, calleeOf, withArgs, told, xport, xports, tids, tidss, hget, hput, Blk.ice, freeze, V.cells, D.cells, V.isAgg, V.one, V.clo, clos, V.toD, loadD, structAt, eqCells, D.scalarEq, sliceOf, partsD, partsV, bound, isPtr, Blk.width, elems, lenOf, splice, D.over, resOf, resV, resVs, ↓reduceIte, reduceCtorEq, ↓reduceDIte, Nat.reduceLT, Nat.reduceEqDiff, Nat.reduceAdd, Nat.reduceSub, Nat.reduceMul, Nat.reduceLeDiff, Nat.reduceBEq, Nat.reduceBNe, Int.reduceNeg, Int.reduceAdd, Int.reduceSub, Int.reduceToNat, nilTest, shiftH, Blk.ren, V.ren, renL, initV, frameH, putL, frρ, dI, dW, qa, qc, qt]
      first | refine acall_flat' (T5) rfl ?_ | refine dcall_flat' (T5) rfl ?_ | refine acall_ice' (T5) ?_ | refine dcall_still' (T5) rfl ?_
      try simp (maxSteps := 2000000) -implicitDefEqProofs only [zz, zE, evop, ev, ofVal, tget, tput, ok, V.isUndef, intBin, guardOf, initT, Ch.on, calleeOf, withArgs, told, xport, xports, tids, tidss, hget, hput, Blk.ice, freeze, V.cells, D.cells, V.isAgg, V.one, V.clo, clos, V.toD, loadD, structAt, eqCells, D.scalarEq, sliceOf, partsD, partsV, bound, isPtr, Blk.width, elems, lenOf, splice, D.over, resOf, resV, resVs, ↓reduceIte, reduceCtorEq, ↓reduceDIte, Nat.reduceLT, Nat.reduceEqDiff, Nat.reduceAdd, Nat.reduceSub, Nat.reduceMul, Nat.reduceLeDiff, Nat.reduceBEq, Nat.reduceBNe, Int.reduceNeg, Int.reduceAdd, Int.reduceSub, Int.reduceToNat, nilTest, shiftH, Blk.ren, V.ren, renL, initV, frameH, putL, frρ, dI, dW]
      first | refine acall_flat' (T6) rfl ?_ | refine dcall_flat' (T6) rfl ?_ | refine acall_ice' (T6) ?_ | refine dcall_still' (T6) rfl ?_
      try simp (maxSteps := 2000000) -implicitDefEqProofs only [zz, zE, evop, ev, ofVal, tget, tput, ok, V.isUndef, intBin, guardOf, initT, Ch.on, calleeOf, withArgs, told, xport, xports, tids, tidss, hget, hput, Blk.ice, freeze, V.cells, D.cells, V.isAgg, V.one, V.clo, clos, V.toD, loadD, structAt, eqCells, D.scalarEq, sliceOf, partsD, partsV, bound, isPtr, Blk.width, elems, lenOf, splice, D.over, resOf, resV, resVs, ↓reduceIte, reduceCtorEq, ↓reduceDIte, Nat.reduceLT, Nat.reduceEqDiff, Nat.reduceAdd, Nat.reduceSub, Nat.reduceMul, Nat.reduceLeDiff, Nat.reduceBEq, Nat.reduceBNe, Int.reduceNeg, Int.reduceAdd, Int.reduceSub, Int.reduceToNat, nilTest, shiftH, Blk.ren, V.ren, renL, initV, frameH, putL, frρ, dI, dW]
      try simp (maxSteps := 2000000) -implicitDefEqProofs only [zz, zE, evop, ev, ofVal, tget, tput, ok, V.isUndef, intBin, guardOf, initT, Ch.on, calleeOf, withArgs, told, xport, xports, tids, tidss, hget, hput, Blk.ice, freeze, V.cells, D.cells, V.isAgg, V.one, V.clo, clos, V.toD, loadD, structAt, eqCells, D.scalarEq, sliceOf, partsD, partsV, bound, isPtr, Blk.width, elems, lenOf, splice, D.over, resOf, resV, resVs, ↓reduceIte, reduceCtorEq, ↓reduceDIte, Nat.reduceLT, Nat.reduceEqDiff, Nat.reduceAdd, Nat.reduceSub, Nat.reduceMul, Nat.reduceLeDiff, Nat.reduceBEq, Nat.reduceBNe, Int.reduceNeg, Int.reduceAdd, Int.reduceSub, Int.reduceToNat, nilTest, shiftH, Blk.ren, V.ren, renL, initV, frameH, putL, frρ, dI, dW, qa, qc, qt]
      first | refine acall_flat' (I1) rfl ?_ | refine dcall_flat' (I1) rfl ?_ | refine acall_ice' (I1) ?_ | refine dcall_still' (I1) rfl ?_
      try simp (maxSteps := 2000000) -implicitDefEqProofs only [zz, zE, evop, ev, ofVal, tget, tput, ok, V.isUndef, intBin, guardOf, initT, Ch.on, calleeOf, withArgs, told, xport, xports, tids, tidss, hget, hput, Blk.ice, freeze, V.cells, D.cells, V.isAgg, V.one, V.clo, clos, V.toD, loadD, structAt, eqCells, D.scalarEq, sliceOf, partsD, partsV, bound, isPtr, Blk.width, elems, lenOf, splice, D.over, resOf, resV, resVs, ↓reduceIte, reduceCtorEq, ↓reduceDIte, Nat.reduceLT, Nat.reduceEqDiff, Nat.reduceAdd, Nat.reduceSub, Nat.reduceMul, Nat.reduceLeDiff, Nat.reduceBEq, Nat.reduceBNe, Int.reduceNeg, Int.reduceAdd, Int.reduceSub, Int.reduceToNat, nilTest, shiftH, Blk.ren, V.ren, renL, initV, frameH, putL, frρ, dI, dW]
      first | refine acall_flat' (I3) rfl ?_ | refine dcall_flat' (I3) rfl ?_ | refine acall_ice' (I3) ?_ | refine dcall_still' (I3) rfl ?_
      try simp (maxSteps := 2000000) -implicitDefEqProofs only [zz, zE, evop, ev, ofVal, tget, tput, ok, V.isUndef, intBin, guardOf, initT, Ch.on, calleeOf, withArgs, told, xport, xports, tids, tidss, hget, hput, Blk.ice, freeze, V.cells, D.cells, V.isAgg, V.one, V.clo, clos, V.toD, loadD, structAt, eqCells, D.scalarEq, sliceOf, partsD, partsV, bound, isPtr, Blk.width, elems, lenOf, splice, D.over, resOf, resV, resVs, ↓reduceIte, reduceCtorEq, ↓reduceDIte, Nat.reduceLT, Nat.reduceEqDiff, Nat.reduceAdd, Nat.reduceSub, Nat.reduceMul, Nat.reduceLeDiff, Nat.reduceBEq, Nat.reduceBNe, Int.reduceNeg, Int.reduceAdd, Int.reduceSub, Int.reduceToNat, nilTest, shiftH, Blk.ren, V.ren, renL, initV, frameH, putL, frρ, dI, dW]
      first | refine acall_flat' (I4) rfl ?_ | refine dcall_flat' (I4) rfl ?_ | refine acall_ice' (I4) ?_ | refine dcall_still' (I4) rfl ?_
      try simp (maxSteps := 2000000) -implicitDefEqProofs only [zz, zE, evop, ev, ofVal, tget, tput, ok, V.isUndef, intBin, guardOf, initT, Ch.on, calleeOf, withArgs, told, xport, xports, tids, tidss, hget, hput, Blk.ice, freeze, V.cells, D.cells, V.isAgg, V.one, V.clo, clos, V.toD, loadD, structAt, eqCells, D.scalarEq, sliceOf, partsD, partsV, bound, isPtr, Blk.width, elems, lenOf, splice, D.over, resOf, resV, resVs, ↓reduceIte, reduceCtorEq, ↓reduceDIte, Nat.reduceLT, Nat.reduceEqDiff, Nat.reduceAdd, Nat.reduceSub, Nat.reduceMul, Nat.reduceLeDiff, Nat.reduceBEq, Nat.reduceBNe, Int.reduceNeg, Int.reduceAdd, Int.reduceSub, Int.reduceToNat, nilTest, shiftH, Blk.ren, V.ren, renL, initV, frameH, putL, frρ, dI, dW]
      try simp (maxSteps := 2000000) -implicitDefEqProofs only [zz, zE, evop, ev, ofVal, tget, tput, ok, V.isUndef, intBin, guardOf, initT, Ch.on, calleeOf, withArgs, told, xport, xports, tids, tidss, hget, hput, Blk.ice, freeze, V.cells, D.cells, V.isAgg, V.one, V.clo, clos, V.toD, loadD, structAt, eqCells, D.scalarEq, sliceOf, partsD, partsV, bound, isPtr, Blk.width, elems, lenOf, splice, D.over, resOf, resV, resVs, ↓reduceIte, reduceCtorEq, ↓reduceDIte, Nat.reduceLT, Nat.reduceEqDiff, Nat.reduceAdd, Nat.reduceSub, Nat.reduceMul, Nat.reduceLeDiff, Nat.reduceBEq, Nat.reduceBNe, Int.reduceNeg, Int.reduceAdd, Int.reduceSub, Int.reduceToNat, nilTest, shiftH, Blk.ren, V.ren, renL, initV, frameH, putL, frρ, dI, dW, qa, qc, qt]
      first | refine acall_flat' (c_awake17) rfl ?_ | refine dcall_flat' (c_awake17) rfl ?_ | refine acall_ice' (c_awake17) ?_ | refine dcall_still' (c_awake17) rfl ?_
      try simp (maxSteps := 2000000) -implicitDefEqProofs only [zz, zE, evop, ev, ofVal, tget, tput, ok, V.isUndef, intBin, guardOf, initT, Ch.on, calleeOf, withArgs, told, xport, xports, tids, tidss, hget, hput, Blk.ice, freeze, V.cells, D.cells, V.isAgg, V.one, V.clo, clos, V.toD, loadD, structAt, eqCells, D.scalarEq, sliceOf, partsD, partsV, bound, isPtr, Blk.width, elems, lenOf, splice, D.over, resOf, resV, resVs, ↓reduceIte, reduceCtorEq, ↓reduceDIte, Nat.reduceLT, Nat.reduceEqDiff, Nat.reduceAdd, Nat.reduceSub, Nat.reduceMul, Nat.reduceLeDiff, Nat.reduceBEq, Nat.reduceBNe, Int.reduceNeg, Int.reduceAdd, Int.reduceSub, Int.reduceToNat, nilTest, shiftH, Blk.ren, V.ren, renL, initV, frameH, putL, frρ, dI, dW]
    all_goals trace_state
end Go.Proofs.Ytaejlmengfahnaa.AM

set_option linter.all false
set_option maxRecDepth 100000
namespace Go.Proofs.Ytaejlmengfahnaa.AM
open Go Go.RowKit Go.ChangeShapes

theorem shE_It {n : Nat} {d : D} (h : ShE Try.prog (n + 2) 53 d) : ∃ w : Int × Int, d = dW w ∧ True := by
  obtain ⟨ds, h1, rfl⟩ := h
  simp only [Sh, Try.underlying53, ShF] at h1
  obtain ⟨p, q, rfl, hp, p2, q2, rfl, hp2, rfl⟩ := h1
  obtain ⟨x, rfl, _⟩ := sh_int (n := n) Try.underlying3 hp
  obtain ⟨y, rfl, _⟩ := sh_int (n := n) Try.underlying3 hp2
  exact ⟨(x, y), by simp [oneD, Try.underlying53, dW], trivial⟩

theorem shE_Wh {n : Nat} {d : D} (h : ShE Try.prog (n + 5) 25 d) : ∃ w : Wh, d = dWh w ∧ w.slots.length = 8 ∧ ∀ l ∈ w.slots, l.length ≤ maxLen := by
  obtain ⟨ds, h1, rfl⟩ := h
  simp only [Sh, Try.underlying25, ShF] at h1
  obtain ⟨p, q, rfl, hp, p2, q2, rfl, hp2, rfl⟩ := h1
  obtain ⟨z, rfl, _⟩ := sh_int (n := n + 3) Try.underlying3 (by simpa only [Sh] using hp)
  simp only [Try.underlying23] at hp2
  obtain ⟨els, rfl, hl, hels⟩ := hp2
  have : ∀ els : List (List D), (∀ x ∈ els, Sh Try.prog (n + 3) 22 x) → ∃ ls : List (List (Int × Int)), ls.length = els.length ∧ els.flatten = ls.map (fun l => D.vec (l.map dW)) ∧ ∀ l ∈ ls, l.length ≤ maxLen := by
    intro els
    induction els with
    | nil => exact fun _ => ⟨[], rfl, rfl, by simp⟩
    | cons a r ih =>
      intro h
      obtain ⟨xs, rfl, hxl, _⟩ := sh_list (n := n + 2) Try.underlying22 (fun d h => shE_It (n := n) h) (h a (by simp))
      obtain ⟨ls, h1, h2, h3⟩ := ih (fun x hx => h x (by simp [hx]))
      refine ⟨xs :: ls, by simp [h1], by simp [h2], fun l hl => ?_⟩
      rcases List.mem_cons.1 hl with rfl | hl
      · exact hxl
      · exact h3 l hl
  obtain ⟨ls, h1, h2, h3⟩ := this els (fun x hx => by simpa only [Sh] using hels x hx)
  exact ⟨⟨z, ls⟩, by simp [oneD, Try.underlying25, dWh, h2], by rw [h1, hl], h3⟩
theorem trodAll_five {H : Type} {enc : TypeId × Value → H} {P : Program} {w : World} {base : Nat} {spare : Nat → Bool} {held : Bool} {t0 t1 t2 t3 t4 : TypeId} {args : Array Value} {ds : List (DataW H)} {ps : List MemPlace} (h : DataW.TrodAll enc P w base spare held [t0, t1, t2, t3, t4] args.toList ds ps) :
    ∃ v0 v1 v2 v3 v4 d0 d1 d2 d3 d4 p0 p1 p2 p3 p4, args = #[v0, v1, v2, v3, v4] ∧ ds = [d0, d1, d2, d3, d4] ∧ ps = p0 ++ p1 ++ p2 ++ p3 ++ p4 ∧ DataW.Trod enc P w base spare held t0 v0 d0 p0 ∧ DataW.Trod enc P w base spare held t1 v1 d1 p1 ∧ DataW.Trod enc P w base spare held t2 v2 d2 p2 ∧ DataW.Trod enc P w base spare held t3 v3 d3 p3 ∧ DataW.Trod enc P w base spare held t4 v4 d4 p4 := by
  obtain ⟨v0, s0, d0, e0, p0, q0, hargs, rfl, rfl, h0, r0⟩ := trodAll_cons h
  obtain ⟨v1, s1, d1, e1, p1, q1, rfl, rfl, rfl, h1, r1⟩ := trodAll_cons r0
  obtain ⟨v2, s2, d2, e2, p2, q2, rfl, rfl, rfl, h2, r2⟩ := trodAll_cons r1
  obtain ⟨v3, s3, d3, e3, p3, q3, rfl, rfl, rfl, h3, r3⟩ := trodAll_cons r2
  obtain ⟨v4, s4, d4, e4, p4, q4, rfl, rfl, rfl, h4, r4⟩ := trodAll_cons r3
  obtain ⟨rfl, rfl, rfl⟩ := trodAll_nil r4
  exact ⟨v0, v1, v2, v3, v4, d0, d1, d2, d3, d4, p0, p1, p2, p3, p4, by cases args; simp_all, rfl, by simp, h0, h1, h2, h3, h4⟩

end Go.Proofs.Ytaejlmengfahnaa.AM

set_option linter.all false
set_option maxRecDepth 100000
set_option maxHeartbeats 4000000
namespace Go.Proofs.Ytaejlmengfahnaa.AM
open Go Go.RowKit

end Go.Proofs.Ytaejlmengfahnaa.AM

set_option linter.all false
set_option maxRecDepth 100000
set_option maxHeartbeats 4000000
namespace Go.Proofs.Ytaejlmengfahnaa.AM
open Go Go.RowKit

end Go.Proofs.Ytaejlmengfahnaa.AM

set_option linter.all false
set_option maxRecDepth 100000
set_option maxHeartbeats 4000000
namespace Go.Proofs.Ytaejlmengfahnaa.AM
open Go Go.RowKit

end Go.Proofs.Ytaejlmengfahnaa.AM

set_option linter.all false
set_option maxRecDepth 100000
set_option maxHeartbeats 4000000
namespace Go.Proofs.Ytaejlmengfahnaa.AM
open Go Go.RowKit


theorem after_in {n k : Int} (h0 : 0 ≤ n) (h1 : n + k ≤ 2147483647) (h2 : 1 ≤ k) : tickAfter n k = (n + k, 0) := by
  unfold tickAfter tickR
  rw [if_pos ⟨by simp; omega, h2⟩, if_neg (by omega)]
end Go.Proofs.Ytaejlmengfahnaa.AM

set_option linter.all false
set_option maxRecDepth 100000
set_option maxHeartbeats 2000000
namespace Go.Proofs.Ytaejlmengfahnaa.AM
open Go Go.RowKit

theorem due_split {S : List (Int × Int)} (h : Srt S) (a : Int) : S = S.filter (fun x => decide (x.2 ≤ a)) ++ S.filter (fun x => !decide (x.2 ≤ a)) := by
  induction S with
  | nil => rfl
  | cons x S ih =>
    obtain ⟨h1, h2⟩ := List.pairwise_cons.1 h
    by_cases hx : x.2 ≤ a
    · rw [List.filter_cons, List.filter_cons, if_pos (by simpa using hx), if_neg (by simpa using hx), List.cons_append, ← ih h2]
    · have hall : ∀ y ∈ S, ¬ y.2 ≤ a := fun y hy => by have := ltI_iff.1 (h1 y hy); omega
      have e1 : S.filter (fun x => decide (x.2 ≤ a)) = [] := List.filter_eq_nil_iff.2 (fun y hy => by simpa using hall y hy)
      have e2 : S.filter (fun x => !decide (x.2 ≤ a)) = S := List.filter_eq_self.2 (fun y hy => by simpa using hall y hy)
      rw [List.filter_cons, List.filter_cons, if_neg (by simpa using hx), if_pos (by simpa using hx), e1, e2]; rfl

def leftJ (w : Wh) (j : Nat) : List (Int × Int) := (itemsW w).filter fun x => !decide (x.2 ≤ w.now + j)
def allJ (w : Wh) (j : Nat) : List (Int × Int) := (itemsW w).filter fun x => decide (x.2 ≤ w.now + j)
def newJ (w : Wh) (j : Nat) : List (Int × Int) := (leftJ w j).filter fun x => decide (x.2 ≤ w.now + (j + 1 : Nat))
def atW (w : Wh) (j : Nat) : Wh := ofW (w.now + j) (leftJ w j)
theorem at_zero {w : Wh} (h : RightW w) : atW w 0 = w := by
  have : leftJ w 0 = itemsW w := List.filter_eq_self.2 (fun x hx => by have := (h.item hx).2.2.1; simp; omega)
  unfold atW
  rw [this]
  have e : w.now + (0 : Nat) = w.now := by omega
  rw [e, h.of]
theorem at_right {w : Wh} (h : RightW w) {j : Nat} (hj : w.now + j ≤ 2147483647) : RightW (atW w j) ∧ itemsW (atW w j) = leftJ w j := by
  have hn := h.now
  simp only [tickR, Bool.and_eq_true, decide_eq_true_eq] at hn
  refine ofW_right (by simp only [tickR, Bool.and_eq_true, decide_eq_true_eq]; omega) (srt_filter h.sorted _) ?_ (fun x hx => ?_)
  · exact List.Nodup.sublist (List.Sublist.map _ List.filter_sublist) h.whoI
  · obtain ⟨h1, h2⟩ := List.mem_filter.1 hx
    obtain ⟨p1, p2, _⟩ := h.item h1
    exact ⟨p1, p2, by simpa using h2⟩
theorem left_next (w : Wh) (j : Nat) : (leftJ w j).filter (fun x => !decide (x.2 ≤ w.now + (j + 1 : Nat))) = leftJ w (j + 1) := by
  unfold leftJ
  rw [List.filter_filter]
  refine List.filter_congr (fun x _ => ?_)
  rw [Bool.eq_iff_iff]; simp; omega
theorem at_turn {w : Wh} (h : RightW w) {j : Nat} (hj : w.now + (j + 1 : Nat) ≤ 2147483647) : turnW (atW w j) 1 = (atW w (j + 1), newJ w j, 0) := by
  obtain ⟨hR, hi⟩ := at_right h (j := j) (by omega)
  have hn := h.now
  simp only [tickR, Bool.and_eq_true, decide_eq_true_eq] at hn
  have hr := (rightB_iff hR.len).2 hR
  have hnow : (atW w j).now = w.now + j := rfl
  have ha : tickAfter (atW w j).now 1 = (w.now + (j + 1 : Nat), 0) := by
    rw [hnow, after_in (by omega) (by omega) (by omega)]
    congr 1; omega
  unfold turnW
  rw [if_pos hr, ha, if_pos rfl]
  rw [sieveW_of hR, hi, left_next]
  rfl
theorem new_until {w : Wh} {j : Nat} {x : Int × Int} (hx : x ∈ newJ w j) : x.2 = w.now + (j + 1 : Nat) := by
  obtain ⟨h1, h2⟩ := List.mem_filter.1 hx
  obtain ⟨_, h3⟩ := List.mem_filter.1 h1
  simp at h2 h3; omega
theorem all_next {w : Wh} (h : RightW w) (j : Nat) : allJ w (j + 1) = allJ w j ++ newJ w j := by
  have hs := due_split h.sorted (w.now + j)
  have e : allJ w (j + 1) = (allJ w j ++ leftJ w j).filter fun x => decide (x.2 ≤ w.now + (j + 1 : Nat)) := by
    unfold allJ
    conv => lhs; rw [hs]
    rfl
  rw [e, List.filter_append]
  congr 1
  refine List.filter_eq_self.2 (fun x hx => ?_)
  have := (List.mem_filter.1 hx).2
  simp at this ⊢; omega
theorem all_zero {w : Wh} (h : RightW w) : allJ w 0 = [] := List.filter_eq_nil_iff.2 (fun x hx => by have := (h.item hx).2.2.1; simp; omega)
theorem turn_all {w : Wh} (h : RightW w) {n : Nat} (h1 : 1 ≤ n) (hn : w.now + n ≤ 2147483647) : turnW w n = (atW w n, allJ w n, 0) := by
  have h0 := h.now
  simp only [tickR, Bool.and_eq_true, decide_eq_true_eq] at h0
  have ha : tickAfter w.now n = (w.now + n, 0) := after_in (by omega) (by omega) (by omega)
  unfold turnW
  rw [if_pos ((rightB_iff h.len).2 h), ha, if_pos rfl, sieveW_of h]
  rfl
theorem at_fit (w : Wh) (h : RightW w) (j : Nat) : Fit (atW w j) := ofW_fit _ (by
  have := List.length_filter_le (fun x : Int × Int => !decide (x.2 ≤ w.now + j)) (itemsW w)
  have h8 := items_le ((rightB_iff h.len).2 h) h.len
  unfold leftJ; omega)
theorem wh8b (w : Wh) (h : w.slots.length = 8) : ∃ d0 d1 d2 d3 d4 d5 d6 d7 : List D, dWh w = .agg [.int .i64 w.now, .vec d0, .vec d1, .vec d2, .vec d3, .vec d4, .vec d5, .vec d6, .vec d7] ∧ bWh w = .box false [.d (.int .i64 w.now), .d (.vec d0), .d (.vec d1), .d (.vec d2), .d (.vec d3), .d (.vec d4), .d (.vec d5), .d (.vec d6), .d (.vec d7)] := by
  obtain ⟨n, sl⟩ := w
  match sl, h with
  | [a, b, c, d, e, f, g, i], _ => exact ⟨_, _, _, _, _, _, _, _, rfl, rfl⟩
end Go.Proofs.Ytaejlmengfahnaa.AM

set_option linter.all false
set_option maxRecDepth 100000
set_option maxHeartbeats 8000000
namespace Go.Proofs.Ytaejlmengfahnaa.AM
open Go Go.RowKit

theorem c_WheelSteps (w : Wh) (k : Int) (hs : w.slots.length = 8) (hL : ∀ l ∈ w.slots, l.length < 9223372036854775808) (hk : 0 ≤ k ∧ k < 256) : CSpec Try.prog 4 [dWh w, .int .u8 k] (.bool true) := by
  have S0 := c_small w hs hL
  obtain ⟨d0, d1, d2, d3, d4, d5, d6, d7, e⟩ := wh8 w hs
  cases hsm : smallW w with
  | false =>
    rw [hsm] at S0
    rw [e] at S0 ⊢
    refine CSpec.of_awp envOf_ok hmix Try.func4 rfl (fun args w => Try.call4 args w) (by simp [Try.f4]) ?_
    simp only [Try.f4]
    simp (maxSteps := 2000000) -implicitDefEqProofs only [zz, zE, evop, ev, ofVal, tget, tput, ok, V.isUndef, intBin, guardOf, initT, Ch.on, calleeOf, withArgs, told, xport, xports, tids, tidss, hget, hput, Blk.ice, freeze, V.cells, D.cells, V.isAgg, V.one, V.clo, clos, V.toD, loadD, structAt, eqCells, D.scalarEq, sliceOf, partsD, partsV, bound, isPtr, Blk.width, elems, lenOf, splice, D.over, resOf, resV, resVs, ↓reduceIte, reduceCtorEq, ↓reduceDIte, Nat.reduceLT, Nat.reduceEqDiff, Nat.reduceAdd, Nat.reduceSub, Nat.reduceMul, Nat.reduceLeDiff, Nat.reduceBEq, Nat.reduceBNe, Int.reduceNeg, Int.reduceAdd, Int.reduceSub, Int.reduceToNat, nilTest, shiftH, Blk.ren, V.ren, renL, initV, frameH, putL, frρ, dI, dW]
    first | refine acall_flat' (S0) rfl ?_ | refine dcall_flat' (S0) rfl ?_ | refine acall_ice' (S0) ?_ | refine dcall_still' (S0) rfl ?_
    try simp (maxSteps := 2000000) -implicitDefEqProofs only [zz, zE, evop, ev, ofVal, tget, tput, ok, V.isUndef, intBin, guardOf, initT, Ch.on, calleeOf, withArgs, told, xport, xports, tids, tidss, hget, hput, Blk.ice, freeze, V.cells, D.cells, V.isAgg, V.one, V.clo, clos, V.toD, loadD, structAt, eqCells, D.scalarEq, sliceOf, partsD, partsV, bound, isPtr, Blk.width, elems, lenOf, splice, D.over, resOf, resV, resVs, ↓reduceIte, reduceCtorEq, ↓reduceDIte, Nat.reduceLT, Nat.reduceEqDiff, Nat.reduceAdd, Nat.reduceSub, Nat.reduceMul, Nat.reduceLeDiff, Nat.reduceBEq, Nat.reduceBNe, Int.reduceNeg, Int.reduceAdd, Int.reduceSub, Int.reduceToNat, nilTest, shiftH, Blk.ren, V.ren, renL, initV, frameH, putL, frρ, dI, dW]
    first | refine acall_flat' (c_awake17) rfl ?_ | refine dcall_flat' (c_awake17) rfl ?_ | refine acall_ice' (c_awake17) ?_ | refine dcall_still' (c_awake17) rfl ?_
    try simp (maxSteps := 2000000) -implicitDefEqProofs only [zz, zE, evop, ev, ofVal, tget, tput, ok, V.isUndef, intBin, guardOf, initT, Ch.on, calleeOf, withArgs, told, xport, xports, tids, tidss, hget, hput, Blk.ice, freeze, V.cells, D.cells, V.isAgg, V.one, V.clo, clos, V.toD, loadD, structAt, eqCells, D.scalarEq, sliceOf, partsD, partsV, bound, isPtr, Blk.width, elems, lenOf, splice, D.over, resOf, resV, resVs, ↓reduceIte, reduceCtorEq, ↓reduceDIte, Nat.reduceLT, Nat.reduceEqDiff, Nat.reduceAdd, Nat.reduceSub, Nat.reduceMul, Nat.reduceLeDiff, Nat.reduceBEq, Nat.reduceBNe, Int.reduceNeg, Int.reduceAdd, Int.reduceSub, Int.reduceToNat, nilTest, shiftH, Blk.ren, V.ren, renL, initV, frameH, putL, frρ, dI, dW]
  | true =>
    have hF := fit_small hs hsm
    have R2 := c_wh_Right w hs hF.le
    rw [hsm] at S0
    cases hr : rightB w with
    | false =>
      rw [hr] at R2
      rw [e] at S0 R2 ⊢
      refine CSpec.of_awp envOf_ok hmix Try.func4 rfl (fun args w => Try.call4 args w) (by simp [Try.f4]) ?_
      simp only [Try.f4]
      simp (maxSteps := 2000000) -implicitDefEqProofs only [zz, zE, evop, ev, ofVal, tget, tput, ok, V.isUndef, intBin, guardOf, initT, Ch.on, calleeOf, withArgs, told, xport, xports, tids, tidss, hget, hput, Blk.ice, freeze, V.cells, D.cells, V.isAgg, V.one, V.clo, clos, V.toD, loadD, structAt, eqCells, D.scalarEq, sliceOf, partsD, partsV, bound, isPtr, Blk.width, elems, lenOf, splice, D.over, resOf, resV, resVs, ↓reduceIte, reduceCtorEq, ↓reduceDIte, Nat.reduceLT, Nat.reduceEqDiff, Nat.reduceAdd, Nat.reduceSub, Nat.reduceMul, Nat.reduceLeDiff, Nat.reduceBEq, Nat.reduceBNe, Int.reduceNeg, Int.reduceAdd, Int.reduceSub, Int.reduceToNat, nilTest, shiftH, Blk.ren, V.ren, renL, initV, frameH, putL, frρ, dI, dW]
      first | refine acall_flat' (S0) rfl ?_ | refine dcall_flat' (S0) rfl ?_ | refine acall_ice' (S0) ?_ | refine dcall_still' (S0) rfl ?_
      try simp (maxSteps := 2000000) -implicitDefEqProofs only [zz, zE, evop, ev, ofVal, tget, tput, ok, V.isUndef, intBin, guardOf, initT, Ch.on, calleeOf, withArgs, told, xport, xports, tids, tidss, hget, hput, Blk.ice, freeze, V.cells, D.cells, V.isAgg, V.one, V.clo, clos, V.toD, loadD, structAt, eqCells, D.scalarEq, sliceOf, partsD, partsV, bound, isPtr, Blk.width, elems, lenOf, splice, D.over, resOf, resV, resVs, ↓reduceIte, reduceCtorEq, ↓reduceDIte, Nat.reduceLT, Nat.reduceEqDiff, Nat.reduceAdd, Nat.reduceSub, Nat.reduceMul, Nat.reduceLeDiff, Nat.reduceBEq, Nat.reduceBNe, Int.reduceNeg, Int.reduceAdd, Int.reduceSub, Int.reduceToNat, nilTest, shiftH, Blk.ren, V.ren, renL, initV, frameH, putL, frρ, dI, dW]
      first | refine acall_flat' (R2) rfl ?_ | refine dcall_flat' (R2) rfl ?_ | refine acall_ice' (R2) ?_ | refine dcall_still' (R2) rfl ?_
      try simp (maxSteps := 2000000) -implicitDefEqProofs only [zz, zE, evop, ev, ofVal, tget, tput, ok, V.isUndef, intBin, guardOf, initT, Ch.on, calleeOf, withArgs, told, xport, xports, tids, tidss, hget, hput, Blk.ice, freeze, V.cells, D.cells, V.isAgg, V.one, V.clo, clos, V.toD, loadD, structAt, eqCells, D.scalarEq, sliceOf, partsD, partsV, bound, isPtr, Blk.width, elems, lenOf, splice, D.over, resOf, resV, resVs, ↓reduceIte, reduceCtorEq, ↓reduceDIte, Nat.reduceLT, Nat.reduceEqDiff, Nat.reduceAdd, Nat.reduceSub, Nat.reduceMul, Nat.reduceLeDiff, Nat.reduceBEq, Nat.reduceBNe, Int.reduceNeg, Int.reduceAdd, Int.reduceSub, Int.reduceToNat, nilTest, shiftH, Blk.ren, V.ren, renL, initV, frameH, putL, frρ, dI, dW]
      first | refine acall_flat' (c_awake17) rfl ?_ | refine dcall_flat' (c_awake17) rfl ?_ | refine acall_ice' (c_awake17) ?_ | refine dcall_still' (c_awake17) rfl ?_
      try simp (maxSteps := 2000000) -implicitDefEqProofs only [zz, zE, evop, ev, ofVal, tget, tput, ok, V.isUndef, intBin, guardOf, initT, Ch.on, calleeOf, withArgs, told, xport, xports, tids, tidss, hget, hput, Blk.ice, freeze, V.cells, D.cells, V.isAgg, V.one, V.clo, clos, V.toD, loadD, structAt, eqCells, D.scalarEq, sliceOf, partsD, partsV, bound, isPtr, Blk.width, elems, lenOf, splice, D.over, resOf, resV, resVs, ↓reduceIte, reduceCtorEq, ↓reduceDIte, Nat.reduceLT, Nat.reduceEqDiff, Nat.reduceAdd, Nat.reduceSub, Nat.reduceMul, Nat.reduceLeDiff, Nat.reduceBEq, Nat.reduceBNe, Int.reduceNeg, Int.reduceAdd, Int.reduceSub, Int.reduceToNat, nilTest, shiftH, Blk.ren, V.ren, renL, initV, frameH, putL, frρ, dI, dW]
    | true =>
    rw [hr] at R2
    by_cases hnow : w.now > 2147483547
    · rw [e] at S0 R2 ⊢
      refine CSpec.of_awp envOf_ok hmix Try.func4 rfl (fun args w => Try.call4 args w) (by simp [Try.f4]) ?_
      simp only [Try.f4]
      simp (maxSteps := 2000000) -implicitDefEqProofs only [zz, zE, evop, ev, ofVal, tget, tput, ok, V.isUndef, intBin, guardOf, initT, Ch.on, calleeOf, withArgs, told, xport, xports, tids, tidss, hget, hput, Blk.ice, freeze, V.cells, D.cells, V.isAgg, V.one, V.clo, clos, V.toD, loadD, structAt, eqCells, D.scalarEq, sliceOf, partsD, partsV, bound, isPtr, Blk.width, elems, lenOf, splice, D.over, resOf, resV, resVs, ↓reduceIte, reduceCtorEq, ↓reduceDIte, Nat.reduceLT, Nat.reduceEqDiff, Nat.reduceAdd, Nat.reduceSub, Nat.reduceMul, Nat.reduceLeDiff, Nat.reduceBEq, Nat.reduceBNe, Int.reduceNeg, Int.reduceAdd, Int.reduceSub, Int.reduceToNat, nilTest, shiftH, Blk.ren, V.ren, renL, initV, frameH, putL, frρ, dI, dW]
      first | refine acall_flat' (S0) rfl ?_ | refine dcall_flat' (S0) rfl ?_ | refine acall_ice' (S0) ?_ | refine dcall_still' (S0) rfl ?_
      try simp (maxSteps := 2000000) -implicitDefEqProofs only [zz, zE, evop, ev, ofVal, tget, tput, ok, V.isUndef, intBin, guardOf, initT, Ch.on, calleeOf, withArgs, told, xport, xports, tids, tidss, hget, hput, Blk.ice, freeze, V.cells, D.cells, V.isAgg, V.one, V.clo, clos, V.toD, loadD, structAt, eqCells, D.scalarEq, sliceOf, partsD, partsV, bound, isPtr, Blk.width, elems, lenOf, splice, D.over, resOf, resV, resVs, ↓reduceIte, reduceCtorEq, ↓reduceDIte, Nat.reduceLT, Nat.reduceEqDiff, Nat.reduceAdd, Nat.reduceSub, Nat.reduceMul, Nat.reduceLeDiff, Nat.reduceBEq, Nat.reduceBNe, Int.reduceNeg, Int.reduceAdd, Int.reduceSub, Int.reduceToNat, nilTest, shiftH, Blk.ren, V.ren, renL, initV, frameH, putL, frρ, dI, dW]
      first | refine acall_flat' (R2) rfl ?_ | refine dcall_flat' (R2) rfl ?_ | refine acall_ice' (R2) ?_ | refine dcall_still' (R2) rfl ?_
      try simp (maxSteps := 2000000) -implicitDefEqProofs only [zz, zE, evop, ev, ofVal, tget, tput, ok, V.isUndef, intBin, guardOf, initT, Ch.on, calleeOf, withArgs, told, xport, xports, tids, tidss, hget, hput, Blk.ice, freeze, V.cells, D.cells, V.isAgg, V.one, V.clo, clos, V.toD, loadD, structAt, eqCells, D.scalarEq, sliceOf, partsD, partsV, bound, isPtr, Blk.width, elems, lenOf, splice, D.over, resOf, resV, resVs, ↓reduceIte, reduceCtorEq, ↓reduceDIte, Nat.reduceLT, Nat.reduceEqDiff, Nat.reduceAdd, Nat.reduceSub, Nat.reduceMul, Nat.reduceLeDiff, Nat.reduceBEq, Nat.reduceBNe, Int.reduceNeg, Int.reduceAdd, Int.reduceSub, Int.reduceToNat, nilTest, shiftH, Blk.ren, V.ren, renL, initV, frameH, putL, frρ, dI, dW]
      have h2 : (2147483547 : Int) < w.now := hnow
      simp (maxSteps := 2000000) -implicitDefEqProofs only [zz, zE, evop, ev, ofVal, tget, tput, ok, V.isUndef, intBin, guardOf, initT, Ch.on, calleeOf, withArgs, told, xport, xports, tids, tidss, hget, hput, Blk.ice, freeze, V.cells, D.cells, V.isAgg, V.one, V.clo, clos, V.toD, loadD, structAt, eqCells, D.scalarEq, sliceOf, partsD, partsV, bound, isPtr, Blk.width, elems, lenOf, splice, D.over, resOf, resV, resVs, ↓reduceIte, reduceCtorEq, ↓reduceDIte, Nat.reduceLT, Nat.reduceEqDiff, Nat.reduceAdd, Nat.reduceSub, Nat.reduceMul, Nat.reduceLeDiff, Nat.reduceBEq, Nat.reduceBNe, Int.reduceNeg, Int.reduceAdd, Int.reduceSub, Int.reduceToNat, nilTest, shiftH, Blk.ren, V.ren, renL, initV, frameH, putL, frρ, dI, dW, hnow, h2]
      first | refine acall_flat' (c_awake17) rfl ?_ | refine dcall_flat' (c_awake17) rfl ?_ | refine acall_ice' (c_awake17) ?_ | refine dcall_still' (c_awake17) rfl ?_
      try simp (maxSteps := 2000000) -implicitDefEqProofs only [zz, zE, evop, ev, ofVal, tget, tput, ok, V.isUndef, intBin, guardOf, initT, Ch.on, calleeOf, withArgs, told, xport, xports, tids, tidss, hget, hput, Blk.ice, freeze, V.cells, D.cells, V.isAgg, V.one, V.clo, clos, V.toD, loadD, structAt, eqCells, D.scalarEq, sliceOf, partsD, partsV, bound, isPtr, Blk.width, elems, lenOf, splice, D.over, resOf, resV, resVs, ↓reduceIte, reduceCtorEq, ↓reduceDIte, Nat.reduceLT, Nat.reduceEqDiff, Nat.reduceAdd, Nat.reduceSub, Nat.reduceMul, Nat.reduceLeDiff, Nat.reduceBEq, Nat.reduceBNe, Int.reduceNeg, Int.reduceAdd, Int.reduceSub, Int.reduceToNat, nilTest, shiftH, Blk.ren, V.ren, renL, initV, frameH, putL, frρ, dI, dW]
    have hR := (rightB_iff hs).1 hr
    obtain ⟨n, hn1, hn2, hn3⟩ : ∃ n : Nat, IntKind.i64.wrap (1 + IntKind.i64.wrap (k.tmod 100)) = (n : Int) ∧ 1 ≤ n ∧ n ≤ 100 := by
      have h1 : k.tmod 100 = k % 100 := Int.tmod_eq_emod_of_nonneg hk.1
      have h2 : 0 ≤ k % 100 := Int.emod_nonneg _ (by omega)
      have h3 : k % 100 < 100 := Int.emod_lt_of_pos _ (by omega)
      refine ⟨(1 + k % 100).toNat, ?_, by omega, by omega⟩
      rw [h1, wrap_in (x := k % 100) (by omega), wrap_in (by omega)]; omega
    have h2 : ¬ (2147483547 : Int) < w.now := by omega
    rw [e] at S0 R2 ⊢
    refine CSpec.of_awp envOf_ok hmix Try.func4 rfl (fun args w => Try.call4 args w) (by simp [Try.f4]) ?_
    simp only [Try.f4]
    simp (maxSteps := 2000000) -implicitDefEqProofs only [zz, zE, evop, ev, ofVal, tget, tput, ok, V.isUndef, intBin, guardOf, initT, Ch.on, calleeOf, withArgs, told, xport, xports, tids, tidss, hget, hput, Blk.ice, freeze, V.cells, D.cells, V.isAgg, V.one, V.clo, clos, V.toD, loadD, structAt, eqCells, D.scalarEq, sliceOf, partsD, partsV, bound, isPtr, Blk.width, elems, lenOf, splice, D.over, resOf, resV, resVs, ↓reduceIte, reduceCtorEq, ↓reduceDIte, Nat.reduceLT, Nat.reduceEqDiff, Nat.reduceAdd, Nat.reduceSub, Nat.reduceMul, Nat.reduceLeDiff, Nat.reduceBEq, Nat.reduceBNe, Int.reduceNeg, Int.reduceAdd, Int.reduceSub, Int.reduceToNat, nilTest, shiftH, Blk.ren, V.ren, renL, initV, frameH, putL, frρ, dI, dW]
    first | refine acall_flat' (S0) rfl ?_ | refine dcall_flat' (S0) rfl ?_ | refine acall_ice' (S0) ?_ | refine dcall_still' (S0) rfl ?_
    try simp (maxSteps := 2000000) -implicitDefEqProofs only [zz, zE, evop, ev, ofVal, tget, tput, ok, V.isUndef, intBin, guardOf, initT, Ch.on, calleeOf, withArgs, told, xport, xports, tids, tidss, hget, hput, Blk.ice, freeze, V.cells, D.cells, V.isAgg, V.one, V.clo, clos, V.toD, loadD, structAt, eqCells, D.scalarEq, sliceOf, partsD, partsV, bound, isPtr, Blk.width, elems, lenOf, splice, D.over, resOf, resV, resVs, ↓reduceIte, reduceCtorEq, ↓reduceDIte, Nat.reduceLT, Nat.reduceEqDiff, Nat.reduceAdd, Nat.reduceSub, Nat.reduceMul, Nat.reduceLeDiff, Nat.reduceBEq, Nat.reduceBNe, Int.reduceNeg, Int.reduceAdd, Int.reduceSub, Int.reduceToNat, nilTest, shiftH, Blk.ren, V.ren, renL, initV, frameH, putL, frρ, dI, dW]
    first | refine acall_flat' (R2) rfl ?_ | refine dcall_flat' (R2) rfl ?_ | refine acall_ice' (R2) ?_ | refine dcall_still' (R2) rfl ?_
    try simp (maxSteps := 2000000) -implicitDefEqProofs only [zz, zE, evop, ev, ofVal, tget, tput, ok, V.isUndef, intBin, guardOf, initT, Ch.on, calleeOf, withArgs, told, xport, xports, tids, tidss, hget, hput, Blk.ice, freeze, V.cells, D.cells, V.isAgg, V.one, V.clo, clos, V.toD, loadD, structAt, eqCells, D.scalarEq, sliceOf, partsD, partsV, bound, isPtr, Blk.width, elems, lenOf, splice, D.over, resOf, resV, resVs, ↓reduceIte, reduceCtorEq, ↓reduceDIte, Nat.reduceLT, Nat.reduceEqDiff, Nat.reduceAdd, Nat.reduceSub, Nat.reduceMul, Nat.reduceLeDiff, Nat.reduceBEq, Nat.reduceBNe, Int.reduceNeg, Int.reduceAdd, Int.reduceSub, Int.reduceToNat, nilTest, shiftH, Blk.ren, V.ren, renL, initV, frameH, putL, frρ, dI, dW]
    simp (maxSteps := 2000000) -implicitDefEqProofs only [zz, zE, evop, ev, ofVal, tget, tput, ok, V.isUndef, intBin, guardOf, initT, Ch.on, calleeOf, withArgs, told, xport, xports, tids, tidss, hget, hput, Blk.ice, freeze, V.cells, D.cells, V.isAgg, V.one, V.clo, clos, V.toD, loadD, structAt, eqCells, D.scalarEq, sliceOf, partsD, partsV, bound, isPtr, Blk.width, elems, lenOf, splice, D.over, resOf, resV, resVs, ↓reduceIte, reduceCtorEq, ↓reduceDIte, Nat.reduceLT, Nat.reduceEqDiff, Nat.reduceAdd, Nat.reduceSub, Nat.reduceMul, Nat.reduceLeDiff, Nat.reduceBEq, Nat.reduceBNe, Int.reduceNeg, Int.reduceAdd, Int.reduceSub, Int.reduceToNat, nilTest, shiftH, Blk.ren, V.ren, renL, initV, frameH, putL, frρ, dI, dW, hnow, h2]
    simp only [hn1]
    refine ⟨by decide, ?_⟩
    have hw0 : Blk.box false [.d (.int .i64 w.now), .d (.vec d0), .d (.vec d1), .d (.vec d2), .d (.vec d3), .d (.vec d4), .d (.vec d5), .d (.vec d6), .d (.vec d7)] = bWh (atW w 0) := by
      obtain ⟨b0, b1, b2, b3, b4, b5, b6, b7, f1, f2⟩ := wh8b w hs
      rw [e] at f1
      simp only [D.agg.injEq, List.cons.injEq, D.vec.injEq, true_and, and_true] at f1
      obtain ⟨rfl, rfl, rfl, rfl, rfl, rfl, rfl, rfl⟩ := f1
      rw [at_zero hR, f2]
    have hA0 := at_fit w hR n
    refine wloop_count n (fun i => [(36, .d (.int .i64 i)), (35, .d (.int .i64 n)), (5, .d (.int .i64 n)), (2, .ptr 0 0 0), (6, .ptr 1 0 0), (7, .own 2 0 (allJ w i).length)]) (fun i => [.box false [.d (.int .i64 w.now), .d (.vec d0), .d (.vec d1), .d (.vec d2), .d (.vec d3), .d (.vec d4), .d (.vec d5), .d (.vec d6), .d (.vec d7)], bWh (atW w i), .dat false 2 ((allJ w i).map dW)]) (fun _ => True) trivial ?_ (fun i hi _ => ?_) (fun _ => ?_)
    · rw [all_zero hR, ← hw0]
      refine Weak.pick [0, 1, 20] (by decide) (by simp) rfl (fun q hq => ?_) (fun i hi => ?_)
      · simp only [List.mem_cons, List.not_mem_nil, or_false] at hq
        rcases hq with rfl | rfl | rfl | rfl | rfl | rfl
        · exact .same _
        · exact .same _
        · exact .same _
        · exact .same _
        · exact .same _
        · exact .nils 2 2 rfl
      · match i, hi with
        | 0, _ => exact .box _ _ _ rfl rfl (.cons (.same _) (.cons (.same _) (.cons (.same _) (.cons (.same _) (.cons (.same _) (.cons (.same _) (.cons (.same _) (.cons (.same _) (.cons (.same _) .nil)))))))))
        | 1, _ => exact .box _ _ _ rfl rfl (.cons (.same _) (.cons (.same _) (.cons (.same _) (.cons (.same _) (.cons (.same _) (.cons (.same _) (.cons (.same _) (.cons (.same _) (.cons (.same _) .nil)))))))))
        | 2, _ => exact .virt 2 rfl rfl
        | i + 3, hi => exact absurd hi (by simp)
    · have hw0n : w.now ≤ 2147483547 := by omega
      obtain ⟨hRi, _⟩ := at_right hR (j := i) (by omega)
      have hFi := at_fit w hR i
      have hFn := at_fit w hR (i + 1)
      have T1 := c_wh_Turn (atW w i) 1 hFi.len hFi.le
      rw [at_turn hR (by omega)] at T1
      have hnw : (atW w i).now = w.now + i := rfl
      have hnx : (atW w (i + 1)).now = w.now + (i + 1 : Nat) := rfl
      obtain ⟨a0, a1, a2, a3, a4, a5, a6, a7, eA, bA⟩ := wh8b _ hFi.len
      obtain ⟨b0, b1, b2, b3, b4, b5, b6, b7, eB, bB⟩ := wh8b _ hFn.len
      rw [eA, eB] at T1
      rw [hnw] at T1 bA
      rw [hnx] at T1 bB
      have hun := @new_until w i
      have hal := all_next hR i
      have hl8 : (newJ w i).length ≤ 8 := by
        have h1 := List.length_filter_le (fun x : Int × Int => decide (x.2 ≤ w.now + (i + 1 : Nat))) (leftJ w i)
        have h2 := List.length_filter_le (fun x : Int × Int => !decide (x.2 ≤ w.now + i)) (itemsW w)
        have h8 := items_le hr hs
        unfold newJ; unfold leftJ at h1 ⊢; omega
      have ha8 : (allJ w i).length ≤ 8 := by
        have h2 := List.length_filter_le (fun x : Int × Int => decide (x.2 ≤ w.now + i)) (itemsW w)
        have h8 := items_le hr hs
        unfold allJ; omega
      have hlt : ((i : Int) < (n : Int)) := by omega
      have hwi : IntKind.i64.wrap ((i : Int) + 1) = ((i + 1 : Nat) : Int) := by rw [wrap_in (by omega)]; omega
      have hn0 : 0 ≤ w.now := by have := hR.now; simp only [tickR, Bool.and_eq_true, decide_eq_true_eq] at this; omega
      have hwn : IntKind.i64.wrap (w.now + (i : Int) + 1) = w.now + ((i + 1 : Nat) : Int) := by rw [wrap_in (by omega)]; omega
      rw [bA, bB, hal]
      revert hl8 ha8 hun T1
      generalize newJ w i = L
      generalize allJ w i = A
      intro T1 hun hl8 ha8
      have e1 : ((0 : Int) != 0) = false := by decide
      have e2 : ∀ z : Int, (z != z) = false := fun z => by simp
      simp (maxSteps := 2000000) -implicitDefEqProofs only [zz, zE, evop, ev, ofVal, tget, tput, ok, V.isUndef, intBin, guardOf, initT, Ch.on, calleeOf, withArgs, told, xport, xports, tids, tidss, hget, hput, Blk.ice, freeze, V.cells, D.cells, V.isAgg, V.one, V.clo, clos, V.toD, loadD, structAt, eqCells, D.scalarEq, sliceOf, partsD, partsV, bound, isPtr, Blk.width, elems, lenOf, splice, D.over, resOf, resV, resVs, ↓reduceIte, reduceCtorEq, ↓reduceDIte, Nat.reduceLT, Nat.reduceEqDiff, Nat.reduceAdd, Nat.reduceSub, Nat.reduceMul, Nat.reduceLeDiff, Nat.reduceBEq, Nat.reduceBNe, Int.reduceNeg, Int.reduceAdd, Int.reduceSub, Int.reduceToNat, nilTest, shiftH, Blk.ren, V.ren, renL, initV, frameH, putL, frρ, dI, dW, hlt]
      refine acall_ice' (T1) ?_
      try simp (maxSteps := 2000000) -implicitDefEqProofs only [zz, zE, evop, ev, ofVal, tget, tput, ok, V.isUndef, intBin, guardOf, initT, Ch.on, calleeOf, withArgs, told, xport, xports, tids, tidss, hget, hput, Blk.ice, freeze, V.cells, D.cells, V.isAgg, V.one, V.clo, clos, V.toD, loadD, structAt, eqCells, D.scalarEq, sliceOf, partsD, partsV, bound, isPtr, Blk.width, elems, lenOf, splice, D.over, resOf, resV, resVs, ↓reduceIte, reduceCtorEq, ↓reduceDIte, Nat.reduceLT, Nat.reduceEqDiff, Nat.reduceAdd, Nat.reduceSub, Nat.reduceMul, Nat.reduceLeDiff, Nat.reduceBEq, Nat.reduceBNe, Int.reduceNeg, Int.reduceAdd, Int.reduceSub, Int.reduceToNat, nilTest, shiftH, Blk.ren, V.ren, renL, initV, frameH, putL, frρ, dI, dW]
      simp (maxSteps := 2000000) -implicitDefEqProofs only [zz, zE, evop, ev, ofVal, tget, tput, ok, V.isUndef, intBin, guardOf, initT, Ch.on, calleeOf, withArgs, told, xport, xports, tids, tidss, hget, hput, Blk.ice, freeze, V.cells, D.cells, V.isAgg, V.one, V.clo, clos, V.toD, loadD, structAt, eqCells, D.scalarEq, sliceOf, partsD, partsV, bound, isPtr, Blk.width, elems, lenOf, splice, D.over, resOf, resV, resVs, ↓reduceIte, reduceCtorEq, ↓reduceDIte, Nat.reduceLT, Nat.reduceEqDiff, Nat.reduceAdd, Nat.reduceSub, Nat.reduceMul, Nat.reduceLeDiff, Nat.reduceBEq, Nat.reduceBNe, Int.reduceNeg, Int.reduceAdd, Int.reduceSub, Int.reduceToNat, nilTest, shiftH, Blk.ren, V.ren, renL, initV, frameH, putL, frρ, dI, dW, e1, e2, hwn]
      refine wloop_count L.length (fun j => [(56, .d (.int .i64 j)), (55, .d (.int .i64 L.length)), (54, .d (.vec (L.map dW))), (8, .ptr 3 0 0), (9, .d (.vec (L.map dW))), (36, .d (.int .i64 i)), (35, .d (.int .i64 n)), (5, .d (.int .i64 n)), (2, .ptr 0 0 0), (6, .ptr 1 0 0), (7, .own 2 0 A.length)]) (fun _ => [.box false [.d (.int .i64 w.now), .d (.vec d0), .d (.vec d1), .d (.vec d2), .d (.vec d3), .d (.vec d4), .d (.vec d5), .d (.vec d6), .d (.vec d7)], .box false [.d (.int .i64 (w.now + (i : Int))), .d (.vec a0), .d (.vec a1), .d (.vec a2), .d (.vec a3), .d (.vec a4), .d (.vec a5), .d (.vec a6), .d (.vec a7)], .dat false 2 (A.map dW), .box false [.d (.int .i64 (w.now + ((i + 1 : Nat) : Int))), .d (.vec b0), .d (.vec b1), .d (.vec b2), .d (.vec b3), .d (.vec b4), .d (.vec b5), .d (.vec b6), .d (.vec b7)]]) (fun _ => True) trivial (Weak.sub (by simp [tget])) (fun j hj _ => ?_) (fun _ => ?_)
      · have hx : L[j]? = some L[j] := List.getElem?_eq_getElem hj
        have hu := hun (List.getElem_mem hj)
        generalize L[j] = x at hx hu
        have hjl : ((j : Int) < (L.length : Int)) := by omega
        have hwj : IntKind.i64.wrap ((j : Int) + 1) = ((j + 1 : Nat) : Int) := by rw [wrap_in (by omega)]; omega
        simp (maxSteps := 2000000) -implicitDefEqProofs only [zz, zE, evop, ev, ofVal, tget, tput, ok, V.isUndef, intBin, guardOf, initT, Ch.on, calleeOf, withArgs, told, xport, xports, tids, tidss, hget, hput, Blk.ice, freeze, V.cells, D.cells, V.isAgg, V.one, V.clo, clos, V.toD, loadD, structAt, eqCells, D.scalarEq, sliceOf, partsD, partsV, bound, isPtr, Blk.width, elems, lenOf, splice, D.over, resOf, resV, resVs, ↓reduceIte, reduceCtorEq, ↓reduceDIte, Nat.reduceLT, Nat.reduceEqDiff, Nat.reduceAdd, Nat.reduceSub, Nat.reduceMul, Nat.reduceLeDiff, Nat.reduceBEq, Nat.reduceBNe, Int.reduceNeg, Int.reduceAdd, Int.reduceSub, Int.reduceToNat, nilTest, shiftH, Blk.ren, V.ren, renL, initV, frameH, putL, frρ, dI, dW, hjl, List.getElem?_map, hx, Option.map_some, Int.natCast_nonneg, hu, e2, hwj]
        exact Weak.trims 4 rfl (by simp [tget, V.lower]) (by simp [Blk.lower, lowerL, V.lower])
      · have hjl : ¬ ((L.length : Int) < (L.length : Int)) := by omega
        simp (maxSteps := 2000000) -implicitDefEqProofs only [zz, zE, evop, ev, ofVal, tget, tput, ok, V.isUndef, intBin, guardOf, initT, Ch.on, calleeOf, withArgs, told, xport, xports, tids, tidss, hget, hput, Blk.ice, freeze, V.cells, D.cells, V.isAgg, V.one, V.clo, clos, V.toD, loadD, structAt, eqCells, D.scalarEq, sliceOf, partsD, partsV, bound, isPtr, Blk.width, elems, lenOf, splice, D.over, resOf, resV, resVs, ↓reduceIte, reduceCtorEq, ↓reduceDIte, Nat.reduceLT, Nat.reduceEqDiff, Nat.reduceAdd, Nat.reduceSub, Nat.reduceMul, Nat.reduceLeDiff, Nat.reduceBEq, Nat.reduceBNe, Int.reduceNeg, Int.reduceAdd, Int.reduceSub, Int.reduceToNat, nilTest, shiftH, Blk.ren, V.ren, renL, initV, frameH, putL, frρ, dI, dW, hjl]
        refine wdraw_weak (T' := [(8, .d (.imm (.agg [.int .i64 (w.now + ((i + 1 : Nat) : Int)), .vec b0, .vec b1, .vec b2, .vec b3, .vec b4, .vec b5, .vec b6, .vec b7]) 0)), (9, .d (.vec (L.map dW))), (36, .d (.int .i64 i)), (35, .d (.int .i64 n)), (5, .d (.int .i64 n)), (2, .ptr 0 0 0), (6, .ptr 1 0 0), (7, .own 2 0 A.length)]) (H' := [.box false [.d (.int .i64 w.now), .d (.vec d0), .d (.vec d1), .d (.vec d2), .d (.vec d3), .d (.vec d4), .d (.vec d5), .d (.vec d6), .d (.vec d7)], .box false [.d (.int .i64 (w.now + (i : Int))), .d (.vec a0), .d (.vec a1), .d (.vec a2), .d (.vec a3), .d (.vec a4), .d (.vec a5), .d (.vec a6), .d (.vec a7)], .dat false 2 (A.map dW), .box true [.d (.int .i64 (w.now + ((i + 1 : Nat) : Int))), .d (.vec b0), .d (.vec b1), .d (.vec b2), .d (.vec b3), .d (.vec b4), .d (.vec b5), .d (.vec b6), .d (.vec b7)]]) ?_ [⟨[], false, [66, 67, 68, 69], [], true⟩, ⟨[], false, [66, 68], [0], false⟩, ⟨[], false, [66, 67], [0, 1], false⟩, ⟨[1, 2], true, [66], [], false⟩, ⟨[0, 1, 2, 3], true, [], [], false⟩, ⟨[0, 1, 2, 3, 4], true, [], [], false⟩] (by decide) ?_
        · exact Weak.sealed [3] (by
            intro q hq
            simp only [List.mem_cons, List.not_mem_nil, or_false] at hq
            rcases hq with rfl | rfl | rfl | rfl | rfl | rfl | rfl | rfl <;> rfl)
        simp (maxSteps := 2000000) -implicitDefEqProofs only [zz, zE, evop, ev, ofVal, tget, tput, ok, V.isUndef, intBin, guardOf, initT, Ch.on, calleeOf, withArgs, told, xport, xports, tids, tidss, hget, hput, Blk.ice, freeze, V.cells, D.cells, V.isAgg, V.one, V.clo, clos, V.toD, loadD, structAt, eqCells, D.scalarEq, sliceOf, partsD, partsV, bound, isPtr, Blk.width, elems, lenOf, splice, D.over, resOf, resV, resVs, ↓reduceIte, reduceCtorEq, ↓reduceDIte, Nat.reduceLT, Nat.reduceEqDiff, Nat.reduceAdd, Nat.reduceSub, Nat.reduceMul, Nat.reduceLeDiff, Nat.reduceBEq, Nat.reduceBNe, Int.reduceNeg, Int.reduceAdd, Int.reduceSub, Int.reduceToNat, nilTest, shiftH, Blk.ren, V.ren, renL, initV, frameH, putL, frρ, dI, dW, hjl, tk_all, hwi]
        refine ⟨⟨by omega, okEl_T L⟩, ?_⟩
        rw [List.length_append, List.map_append]
        refine Weak.pick [0, 1, 7] (by decide) (by simp) rfl (fun q hq => ?_) (fun i hi => ?_)
        · simp only [List.mem_cons, List.not_mem_nil, or_false] at hq
          rcases hq with rfl | rfl | rfl | rfl | rfl | rfl <;> exact .same _
        · match i, hi with
          | 0, _ => exact .box _ _ _ rfl rfl (.cons (.same _) (.cons (.same _) (.cons (.same _) (.cons (.same _) (.cons (.same _) (.cons (.same _) (.cons (.same _) (.cons (.same _) (.cons (.same _) .nil)))))))))
          | 1, _ => exact .box _ _ _ rfl rfl (.cons (.same _) (.cons (.same _) (.cons (.same _) (.cons (.same _) (.cons (.same _) (.cons (.same _) (.cons (.same _) (.cons (.same _) (.cons (.same _) .nil)))))))))
          | 2, _ => exact .dat _ _ _ rfl rfl
          | i + 3, hi => exact absurd hi (by simp)
    · have hlt : ¬ ((n : Int) < (n : Int)) := by omega
      have hRn := (at_right hR (j := n) (by omega)).1
      have T2 := c_wh_Turn w n hs hF.le
      rw [turn_all hR hn2 (by omega)] at T2
      have V1 := c_law17_Ref _ hA0.len hA0.le
      have V2 := c_r17_Same _ _ hA0.len hA0.len hA0.le hA0.le
      have V3 := c_wh_Right _ hA0.len hA0.le
      rw [sameW_self] at V2
      rw [(rightB_iff hA0.len).2 hRn] at V3
      have ha8 : (allJ w n).length ≤ 8 := by
        have h2 := List.length_filter_le (fun x : Int × Int => decide (x.2 ≤ w.now + n)) (itemsW w)
        have h8 := items_le hr hs
        unfold allJ; omega
      have L1 := c_law17_Refs _ (show (allJ w n).length ≤ 1000000 by omega)
      have L2 := c_r17_List _ _ (show (allJ w n).length ≤ 1000000 by omega) (show (allJ w n).length ≤ 1000000 by omega)
      rw [decide_eq_true rfl] at L2
      obtain ⟨a0, a1, a2, a3, a4, a5, a6, a7, eA, bA⟩ := wh8b _ hA0.len
      rw [eA] at T2 V1 V2 V3
      rw [e] at T2
      rw [bA]
      revert T2 V1 V2 V3 ha8 L1 L2
      generalize (atW w n).now = nA
      generalize allJ w n = A
      intro ha8 L1 L2 V3 V2 V1 T2
      have e0 : ((0 : Int) == 0) = true := by decide
      simp (maxSteps := 2000000) -implicitDefEqProofs only [zz, zE, evop, ev, ofVal, tget, tput, ok, V.isUndef, intBin, guardOf, initT, Ch.on, calleeOf, withArgs, told, xport, xports, tids, tidss, hget, hput, Blk.ice, freeze, V.cells, D.cells, V.isAgg, V.one, V.clo, clos, V.toD, loadD, structAt, eqCells, D.scalarEq, sliceOf, partsD, partsV, bound, isPtr, Blk.width, elems, lenOf, splice, D.over, resOf, resV, resVs, ↓reduceIte, reduceCtorEq, ↓reduceDIte, Nat.reduceLT, Nat.reduceEqDiff, Nat.reduceAdd, Nat.reduceSub, Nat.reduceMul, Nat.reduceLeDiff, Nat.reduceBEq, Nat.reduceBNe, Int.reduceNeg, Int.reduceAdd, Int.reduceSub, Int.reduceToNat, nilTest, shiftH, Blk.ren, V.ren, renL, initV, frameH, putL, frρ, dI, dW, hlt]
      refine acall_ice' (T2) ?_
      try simp (maxSteps := 2000000) -implicitDefEqProofs only [zz, zE, evop, ev, ofVal, tget, tput, ok, V.isUndef, intBin, guardOf, initT, Ch.on, calleeOf, withArgs, told, xport, xports, tids, tidss, hget, hput, Blk.ice, freeze, V.cells, D.cells, V.isAgg, V.one, V.clo, clos, V.toD, loadD, structAt, eqCells, D.scalarEq, sliceOf, partsD, partsV, bound, isPtr, Blk.width, elems, lenOf, splice, D.over, resOf, resV, resVs, ↓reduceIte, reduceCtorEq, ↓reduceDIte, Nat.reduceLT, Nat.reduceEqDiff, Nat.reduceAdd, Nat.reduceSub, Nat.reduceMul, Nat.reduceLeDiff, Nat.reduceBEq, Nat.reduceBNe, Int.reduceNeg, Int.reduceAdd, Int.reduceSub, Int.reduceToNat, nilTest, shiftH, Blk.ren, V.ren, renL, initV, frameH, putL, frρ, dI, dW]
      refine wdraw_weak (T' := [(15, .d (.int .i64 0)), (6, .ptr 1 0 0), (13, .ptr 3 0 0), (7, .d (.vec (A.map dW))), (14, .d (.vec (A.map dW)))]) (Weak.sealed [2] ?_) [⟨[], true, [], [], false⟩, ⟨[0], true, [], [], false⟩, ⟨[0, 1], true, [], [], false⟩, ⟨[0, 1, 2], false, [83], [], false⟩, ⟨[0, 1, 2, 3], false, [83], [], false⟩, ⟨[0, 1, 2], false, [81, 82], [3, 4], false⟩, ⟨[0, 1, 2, 3, 4, 5], false, [], [], false⟩, ⟨[0, 1, 2, 3, 4, 5, 6], false, [], [], false⟩, ⟨[0, 1, 2, 3, 4, 5, 6, 7], true, [], [], false⟩, ⟨[0, 1, 2, 3, 4, 5, 6, 7, 8], true, [], [], false⟩, ⟨[0, 1, 2, 3, 4, 5, 6, 7, 8, 9], false, [90], [], false⟩, ⟨[0, 1, 2, 3, 4, 5, 6, 7, 8, 9, 10], false, [90], [], false⟩, ⟨[0, 1, 2, 3, 4, 5, 6, 7, 8, 9], false, [88, 89], [10, 11], false⟩, ⟨[0, 1, 2, 3, 4, 5, 6, 7, 8, 9, 10, 11, 12], false, [], [], false⟩, ⟨[0, 1, 2, 3, 4, 5, 6, 7, 8, 9, 10, 11, 12, 13], false, [], [], false⟩, ⟨[0, 1, 2, 3, 4, 5, 6, 7, 8, 9, 10, 11, 12, 13, 14], true, [], [], false⟩, ⟨[0, 1, 2, 3, 4, 5, 6, 7, 8, 9, 10, 11, 12, 13, 14, 15], true, [], [], false⟩, ⟨[0, 1, 2, 3, 4, 5, 6, 7, 8, 9, 10, 11, 12, 13, 14, 15, 16], false, [], [], false⟩, ⟨[0, 1, 2, 3, 4, 5, 6, 7, 8, 9, 10, 11, 12, 13, 14, 15, 16, 17], false, [], [], false⟩, ⟨[0, 1, 2, 3, 4, 5, 6, 7, 8, 9, 10, 11, 12, 13, 14, 15, 16, 17, 18], true, [], [], false⟩, ⟨[0, 1, 2, 3, 4, 5, 6, 7, 8, 9, 10, 11, 12, 13, 14, 15, 16, 17, 18, 19], true, [], [], false⟩, ⟨[0, 1, 2, 3, 4, 5, 6, 7, 8, 9, 10, 11, 12, 13, 14, 15, 16, 17, 18, 19, 20], false, [], [], false⟩, ⟨[0, 1, 2, 3, 4, 5, 6, 7, 8, 9, 10, 11, 12, 13, 14, 15, 16, 17, 18, 19, 20, 21], true, [], [], false⟩, ⟨[0, 1, 2, 3, 4, 5, 6, 7, 8, 9, 10, 11, 12, 13, 14, 15, 16, 17, 18, 19, 20, 21, 22], true, [], [], false⟩] (by kernel_rfl) ?_
      · intro q hq
        simp only [List.mem_cons, List.not_mem_nil, or_false] at hq
        rcases hq with rfl | rfl | rfl | rfl | rfl
        · rfl
        · rfl
        · rfl
        · show V.d (.vec (A.map dW)) = V.d (.vec (List.take A.length (List.drop 0 (A.map dW))))
          rw [List.drop_zero, tk_all]
        · rfl
      simp only [sealH, AM.freeze, hput, hget, sealB, sealF, List.map_cons, List.map_nil, Blk.ice]
      simp (maxSteps := 2000000) -implicitDefEqProofs only [zz, zE, evop, ev, ofVal, tget, tput, ok, V.isUndef, intBin, guardOf, initT, Ch.on, calleeOf, withArgs, told, xport, xports, tids, tidss, hget, hput, Blk.ice, freeze, V.cells, D.cells, V.isAgg, V.one, V.clo, clos, V.toD, loadD, structAt, eqCells, D.scalarEq, sliceOf, partsD, partsV, bound, isPtr, Blk.width, elems, lenOf, splice, D.over, resOf, resV, resVs, ↓reduceIte, reduceCtorEq, ↓reduceDIte, Nat.reduceLT, Nat.reduceEqDiff, Nat.reduceAdd, Nat.reduceSub, Nat.reduceMul, Nat.reduceLeDiff, Nat.reduceBEq, Nat.reduceBNe, Int.reduceNeg, Int.reduceAdd, Int.reduceSub, Int.reduceToNat, nilTest, shiftH, Blk.ren, V.ren, renL, initV, frameH, putL, frρ, dI, dW, e0]
      first | refine acall_flat' (V1) rfl ?_ | refine dcall_flat' (V1) rfl ?_ | refine acall_ice' (V1) ?_ | refine dcall_still' (V1) rfl ?_
      try simp (maxSteps := 2000000) -implicitDefEqProofs only [zz, zE, evop, ev, ofVal, tget, tput, ok, V.isUndef, intBin, guardOf, initT, Ch.on, calleeOf, withArgs, told, xport, xports, tids, tidss, hget, hput, Blk.ice, freeze, V.cells, D.cells, V.isAgg, V.one, V.clo, clos, V.toD, loadD, structAt, eqCells, D.scalarEq, sliceOf, partsD, partsV, bound, isPtr, Blk.width, elems, lenOf, splice, D.over, resOf, resV, resVs, ↓reduceIte, reduceCtorEq, ↓reduceDIte, Nat.reduceLT, Nat.reduceEqDiff, Nat.reduceAdd, Nat.reduceSub, Nat.reduceMul, Nat.reduceLeDiff, Nat.reduceBEq, Nat.reduceBNe, Int.reduceNeg, Int.reduceAdd, Int.reduceSub, Int.reduceToNat, nilTest, shiftH, Blk.ren, V.ren, renL, initV, frameH, putL, frρ, dI, dW]
      first | refine acall_flat' (V1) rfl ?_ | refine dcall_flat' (V1) rfl ?_ | refine acall_ice' (V1) ?_ | refine dcall_still' (V1) rfl ?_
      try simp (maxSteps := 2000000) -implicitDefEqProofs only [zz, zE, evop, ev, ofVal, tget, tput, ok, V.isUndef, intBin, guardOf, initT, Ch.on, calleeOf, withArgs, told, xport, xports, tids, tidss, hget, hput, Blk.ice, freeze, V.cells, D.cells, V.isAgg, V.one, V.clo, clos, V.toD, loadD, structAt, eqCells, D.scalarEq, sliceOf, partsD, partsV, bound, isPtr, Blk.width, elems, lenOf, splice, D.over, resOf, resV, resVs, ↓reduceIte, reduceCtorEq, ↓reduceDIte, Nat.reduceLT, Nat.reduceEqDiff, Nat.reduceAdd, Nat.reduceSub, Nat.reduceMul, Nat.reduceLeDiff, Nat.reduceBEq, Nat.reduceBNe, Int.reduceNeg, Int.reduceAdd, Int.reduceSub, Int.reduceToNat, nilTest, shiftH, Blk.ren, V.ren, renL, initV, frameH, putL, frρ, dI, dW]
      try simp (maxSteps := 2000000) -implicitDefEqProofs only [zz, zE, evop, ev, ofVal, tget, tput, ok, V.isUndef, intBin, guardOf, initT, Ch.on, calleeOf, withArgs, told, xport, xports, tids, tidss, hget, hput, Blk.ice, freeze, V.cells, D.cells, V.isAgg, V.one, V.clo, clos, V.toD, loadD, structAt, eqCells, D.scalarEq, sliceOf, partsD, partsV, bound, isPtr, Blk.width, elems, lenOf, splice, D.over, resOf, resV, resVs, ↓reduceIte, reduceCtorEq, ↓reduceDIte, Nat.reduceLT, Nat.reduceEqDiff, Nat.reduceAdd, Nat.reduceSub, Nat.reduceMul, Nat.reduceLeDiff, Nat.reduceBEq, Nat.reduceBNe, Int.reduceNeg, Int.reduceAdd, Int.reduceSub, Int.reduceToNat, nilTest, shiftH, Blk.ren, V.ren, renL, initV, frameH, putL, frρ, dI, dW, e0]
      first | refine acall_flat' (V2) rfl ?_ | refine dcall_flat' (V2) rfl ?_ | refine acall_ice' (V2) ?_ | refine dcall_still' (V2) rfl ?_
      try simp (maxSteps := 2000000) -implicitDefEqProofs only [zz, zE, evop, ev, ofVal, tget, tput, ok, V.isUndef, intBin, guardOf, initT, Ch.on, calleeOf, withArgs, told, xport, xports, tids, tidss, hget, hput, Blk.ice, freeze, V.cells, D.cells, V.isAgg, V.one, V.clo, clos, V.toD, loadD, structAt, eqCells, D.scalarEq, sliceOf, partsD, partsV, bound, isPtr, Blk.width, elems, lenOf, splice, D.over, resOf, resV, resVs, ↓reduceIte, reduceCtorEq, ↓reduceDIte, Nat.reduceLT, Nat.reduceEqDiff, Nat.reduceAdd, Nat.reduceSub, Nat.reduceMul, Nat.reduceLeDiff, Nat.reduceBEq, Nat.reduceBNe, Int.reduceNeg, Int.reduceAdd, Int.reduceSub, Int.reduceToNat, nilTest, shiftH, Blk.ren, V.ren, renL, initV, frameH, putL, frρ, dI, dW]
      try simp (maxSteps := 2000000) -implicitDefEqProofs only [zz, zE, evop, ev, ofVal, tget, tput, ok, V.isUndef, intBin, guardOf, initT, Ch.on, calleeOf, withArgs, told, xport, xports, tids, tidss, hget, hput, Blk.ice, freeze, V.cells, D.cells, V.isAgg, V.one, V.clo, clos, V.toD, loadD, structAt, eqCells, D.scalarEq, sliceOf, partsD, partsV, bound, isPtr, Blk.width, elems, lenOf, splice, D.over, resOf, resV, resVs, ↓reduceIte, reduceCtorEq, ↓reduceDIte, Nat.reduceLT, Nat.reduceEqDiff, Nat.reduceAdd, Nat.reduceSub, Nat.reduceMul, Nat.reduceLeDiff, Nat.reduceBEq, Nat.reduceBNe, Int.reduceNeg, Int.reduceAdd, Int.reduceSub, Int.reduceToNat, nilTest, shiftH, Blk.ren, V.ren, renL, initV, frameH, putL, frρ, dI, dW, e0]
      first | refine acall_flat' (L1) rfl ?_ | refine dcall_flat' (L1) rfl ?_ | refine acall_ice' (L1) ?_ | refine dcall_still' (L1) rfl ?_
      try simp (maxSteps := 2000000) -implicitDefEqProofs only [zz, zE, evop, ev, ofVal, tget, tput, ok, V.isUndef, intBin, guardOf, initT, Ch.on, calleeOf, withArgs, told, xport, xports, tids, tidss, hget, hput, Blk.ice, freeze, V.cells, D.cells, V.isAgg, V.one, V.clo, clos, V.toD, loadD, structAt, eqCells, D.scalarEq, sliceOf, partsD, partsV, bound, isPtr, Blk.width, elems, lenOf, splice, D.over, resOf, resV, resVs, ↓reduceIte, reduceCtorEq, ↓reduceDIte, Nat.reduceLT, Nat.reduceEqDiff, Nat.reduceAdd, Nat.reduceSub, Nat.reduceMul, Nat.reduceLeDiff, Nat.reduceBEq, Nat.reduceBNe, Int.reduceNeg, Int.reduceAdd, Int.reduceSub, Int.reduceToNat, nilTest, shiftH, Blk.ren, V.ren, renL, initV, frameH, putL, frρ, dI, dW]
      first | refine acall_flat' (L1) rfl ?_ | refine dcall_flat' (L1) rfl ?_ | refine acall_ice' (L1) ?_ | refine dcall_still' (L1) rfl ?_
      try simp (maxSteps := 2000000) -implicitDefEqProofs only [zz, zE, evop, ev, ofVal, tget, tput, ok, V.isUndef, intBin, guardOf, initT, Ch.on, calleeOf, withArgs, told, xport, xports, tids, tidss, hget, hput, Blk.ice, freeze, V.cells, D.cells, V.isAgg, V.one, V.clo, clos, V.toD, loadD, structAt, eqCells, D.scalarEq, sliceOf, partsD, partsV, bound, isPtr, Blk.width, elems, lenOf, splice, D.over, resOf, resV, resVs, ↓reduceIte, reduceCtorEq, ↓reduceDIte, Nat.reduceLT, Nat.reduceEqDiff, Nat.reduceAdd, Nat.reduceSub, Nat.reduceMul, Nat.reduceLeDiff, Nat.reduceBEq, Nat.reduceBNe, Int.reduceNeg, Int.reduceAdd, Int.reduceSub, Int.reduceToNat, nilTest, shiftH, Blk.ren, V.ren, renL, initV, frameH, putL, frρ, dI, dW]
      try simp (maxSteps := 2000000) -implicitDefEqProofs only [zz, zE, evop, ev, ofVal, tget, tput, ok, V.isUndef, intBin, guardOf, initT, Ch.on, calleeOf, withArgs, told, xport, xports, tids, tidss, hget, hput, Blk.ice, freeze, V.cells, D.cells, V.isAgg, V.one, V.clo, clos, V.toD, loadD, structAt, eqCells, D.scalarEq, sliceOf, partsD, partsV, bound, isPtr, Blk.width, elems, lenOf, splice, D.over, resOf, resV, resVs, ↓reduceIte, reduceCtorEq, ↓reduceDIte, Nat.reduceLT, Nat.reduceEqDiff, Nat.reduceAdd, Nat.reduceSub, Nat.reduceMul, Nat.reduceLeDiff, Nat.reduceBEq, Nat.reduceBNe, Int.reduceNeg, Int.reduceAdd, Int.reduceSub, Int.reduceToNat, nilTest, shiftH, Blk.ren, V.ren, renL, initV, frameH, putL, frρ, dI, dW, e0]
      first | refine acall_flat' (L2) rfl ?_ | refine dcall_flat' (L2) rfl ?_ | refine acall_ice' (L2) ?_ | refine dcall_still' (L2) rfl ?_
      try simp (maxSteps := 2000000) -implicitDefEqProofs only [zz, zE, evop, ev, ofVal, tget, tput, ok, V.isUndef, intBin, guardOf, initT, Ch.on, calleeOf, withArgs, told, xport, xports, tids, tidss, hget, hput, Blk.ice, freeze, V.cells, D.cells, V.isAgg, V.one, V.clo, clos, V.toD, loadD, structAt, eqCells, D.scalarEq, sliceOf, partsD, partsV, bound, isPtr, Blk.width, elems, lenOf, splice, D.over, resOf, resV, resVs, ↓reduceIte, reduceCtorEq, ↓reduceDIte, Nat.reduceLT, Nat.reduceEqDiff, Nat.reduceAdd, Nat.reduceSub, Nat.reduceMul, Nat.reduceLeDiff, Nat.reduceBEq, Nat.reduceBNe, Int.reduceNeg, Int.reduceAdd, Int.reduceSub, Int.reduceToNat, nilTest, shiftH, Blk.ren, V.ren, renL, initV, frameH, putL, frρ, dI, dW]
      try simp (maxSteps := 2000000) -implicitDefEqProofs only [zz, zE, evop, ev, ofVal, tget, tput, ok, V.isUndef, intBin, guardOf, initT, Ch.on, calleeOf, withArgs, told, xport, xports, tids, tidss, hget, hput, Blk.ice, freeze, V.cells, D.cells, V.isAgg, V.one, V.clo, clos, V.toD, loadD, structAt, eqCells, D.scalarEq, sliceOf, partsD, partsV, bound, isPtr, Blk.width, elems, lenOf, splice, D.over, resOf, resV, resVs, ↓reduceIte, reduceCtorEq, ↓reduceDIte, Nat.reduceLT, Nat.reduceEqDiff, Nat.reduceAdd, Nat.reduceSub, Nat.reduceMul, Nat.reduceLeDiff, Nat.reduceBEq, Nat.reduceBNe, Int.reduceNeg, Int.reduceAdd, Int.reduceSub, Int.reduceToNat, nilTest, shiftH, Blk.ren, V.ren, renL, initV, frameH, putL, frρ, dI, dW, e0]
      first | refine acall_flat' (V3) rfl ?_ | refine dcall_flat' (V3) rfl ?_ | refine acall_ice' (V3) ?_ | refine dcall_still' (V3) rfl ?_
      try simp (maxSteps := 2000000) -implicitDefEqProofs only [zz, zE, evop, ev, ofVal, tget, tput, ok, V.isUndef, intBin, guardOf, initT, Ch.on, calleeOf, withArgs, told, xport, xports, tids, tidss, hget, hput, Blk.ice, freeze, V.cells, D.cells, V.isAgg, V.one, V.clo, clos, V.toD, loadD, structAt, eqCells, D.scalarEq, sliceOf, partsD, partsV, bound, isPtr, Blk.width, elems, lenOf, splice, D.over, resOf, resV, resVs, ↓reduceIte, reduceCtorEq, ↓reduceDIte, Nat.reduceLT, Nat.reduceEqDiff, Nat.reduceAdd, Nat.reduceSub, Nat.reduceMul, Nat.reduceLeDiff, Nat.reduceBEq, Nat.reduceBNe, Int.reduceNeg, Int.reduceAdd, Int.reduceSub, Int.reduceToNat, nilTest, shiftH, Blk.ren, V.ren, renL, initV, frameH, putL, frρ, dI, dW]
      try simp (maxSteps := 2000000) -implicitDefEqProofs only [zz, zE, evop, ev, ofVal, tget, tput, ok, V.isUndef, intBin, guardOf, initT, Ch.on, calleeOf, withArgs, told, xport, xports, tids, tidss, hget, hput, Blk.ice, freeze, V.cells, D.cells, V.isAgg, V.one, V.clo, clos, V.toD, loadD, structAt, eqCells, D.scalarEq, sliceOf, partsD, partsV, bound, isPtr, Blk.width, elems, lenOf, splice, D.over, resOf, resV, resVs, ↓reduceIte, reduceCtorEq, ↓reduceDIte, Nat.reduceLT, Nat.reduceEqDiff, Nat.reduceAdd, Nat.reduceSub, Nat.reduceMul, Nat.reduceLeDiff, Nat.reduceBEq, Nat.reduceBNe, Int.reduceNeg, Int.reduceAdd, Int.reduceSub, Int.reduceToNat, nilTest, shiftH, Blk.ren, V.ren, renL, initV, frameH, putL, frρ, dI, dW, e0]
      first | refine acall_flat' (c_awake17) rfl ?_ | refine dcall_flat' (c_awake17) rfl ?_ | refine acall_ice' (c_awake17) ?_ | refine dcall_still' (c_awake17) rfl ?_
      try simp (maxSteps := 2000000) -implicitDefEqProofs only [zz, zE, evop, ev, ofVal, tget, tput, ok, V.isUndef, intBin, guardOf, initT, Ch.on, calleeOf, withArgs, told, xport, xports, tids, tidss, hget, hput, Blk.ice, freeze, V.cells, D.cells, V.isAgg, V.one, V.clo, clos, V.toD, loadD, structAt, eqCells, D.scalarEq, sliceOf, partsD, partsV, bound, isPtr, Blk.width, elems, lenOf, splice, D.over, resOf, resV, resVs, ↓reduceIte, reduceCtorEq, ↓reduceDIte, Nat.reduceLT, Nat.reduceEqDiff, Nat.reduceAdd, Nat.reduceSub, Nat.reduceMul, Nat.reduceLeDiff, Nat.reduceBEq, Nat.reduceBNe, Int.reduceNeg, Int.reduceAdd, Int.reduceSub, Int.reduceToNat, nilTest, shiftH, Blk.ren, V.ren, renL, initV, frameH, putL, frρ, dI, dW]
end Go.Proofs.Ytaejlmengfahnaa.AM

set_option linter.all false
set_option maxRecDepth 100000
set_option maxHeartbeats 2000000
namespace Go.Proofs.Ytaejlmengfahnaa.AM
open Go Go.RowKit

theorem after_val {n k : Int} (h : (tickAfter n k).2 = 0) : (tickAfter n k).1 = n + k ∧ n + k ≤ 2147483647 ∧ 1 ≤ k ∧ 0 ≤ n := by
  unfold tickAfter at h ⊢
  split at h
  · rename_i h1
    rw [if_pos h1]
    have h2 := h1.1
    simp only [tickR, Bool.and_eq_true, decide_eq_true_eq] at h2
    split at h
    · cases h
    · rename_i h3
      rw [if_neg h3]
      refine ⟨rfl, by omega, h1.2, by omega⟩
  · cases h
theorem not_has {w : Wh} {who : Int} (h : hasW w who = false) : ∀ x ∈ itemsW w, (x.1 == who) = false := fun x hx => by
  unfold hasW at h
  rw [List.any_eq_false] at h
  simpa using h x hx
structure SetOk (w : Wh) (who k : Int) (a : Wh) : Prop where
  right : RightW w
  now : a.now = w.now
  ra : RightW a
  items : itemsW a = insI (who, w.now + k) (itemsW w)
  none : ∀ x ∈ itemsW w, (x.1 == who) = false
  lo : 1 ≤ k
  hi : w.now + k ≤ 2147483647
theorem set_two {w : Wh} (hF : Fit w) (who k : Int) : ((setW w who k).2 ≠ 0 ∧ (setW w who k).1 = w) ∨ ((setW w who k).2 = 0 ∧ SetOk w who k (setW w who k).1) := by
  rcases set_cases w who k with ⟨e, he, h1⟩ | ⟨h1, h2, h3, h4, h5⟩
  · left; rw [h1]; exact ⟨he, rfl⟩
  · right
    have hR := (rightB_iff hF.len).1 h1
    rw [h5]
    refine ⟨rfl, ?_⟩
    show SetOk w who k (putW _ _)
    obtain ⟨v1, v2, v3, v4⟩ := after_val h4
    have ha := after_0 h4
    rw [put_of hR h4]
    have hno := not_has h3
    rw [v1] at ha ⊢
    have hx : (who, w.now + k) ∉ itemsW w := fun hm => by have := hno _ hm; simp at this
    have hu : ((insI (who, w.now + k) (itemsW w)).map fun x => x.1).Nodup := by
      have hp : (insI (who, w.now + k) (itemsW w)).Perm ((who, w.now + k) :: itemsW w) := by
        rw [List.perm_iff_count]
        intro y
        rw [List.Nodup.count (srt_nodup (srt_insI hR.sorted hx)), List.Nodup.count (by simp [hx, srt_nodup hR.sorted])]
        simp only [mem_insI, List.mem_cons]
      refine (hp.map fun x => x.1).nodup_iff.2 ?_
      rw [List.map_cons, List.nodup_cons]
      refine ⟨fun hm => ?_, hR.whoI⟩
      obtain ⟨y, hy, e⟩ := List.mem_map.1 hm
      have := hno y hy
      simp at this; exact this e
    obtain ⟨q1, q2⟩ := ofW_right (now := w.now) hR.now (srt_insI hR.sorted hx) hu (fun y hy => by
      rcases mem_insI.1 hy with rfl | g
      · exact ⟨h2, ha.2.1, by simp only; omega⟩
      · obtain ⟨p1, p2, p3, _⟩ := hR.item g
        exact ⟨p1, p2, p3⟩)
    exact ⟨hR, rfl, q1, q2, hno, v3, v2⟩
theorem SetOk.srt {w a : Wh} {who k : Int} (h : SetOk w who k a) : Srt (insI (who, w.now + k) (itemsW w)) := h.items ▸ h.ra.sorted
theorem ins_not {S : List (Int × Int)} (hs : Srt S) {who t : Int} (h : ∀ x ∈ S, (x.1 == who) = false) : (insI (who, t) S).filter (fun x => !(x.1 == who)) = S := by
  rw [filter_insI hs]
  have : (!((who, t).1 == who)) = false := by simp
  rw [if_neg (by rw [this]; decide)]
  exact List.filter_eq_self.2 (fun x hx => by rw [h x hx]; rfl)
theorem SetOk.clear {w a : Wh} {who k : Int} (h : SetOk w who k a) : clearW a who = (w, 0) := by
  have hr := (rightB_iff h.ra.len).2 h.ra
  have hh : hasW a who = true := by
    unfold hasW
    rw [h.items]
    exact List.any_eq_true.2 ⟨_, mem_insI.2 (.inl rfl), by simp⟩
  unfold clearW
  rw [if_pos hr, if_pos hh, sieveW_of h.ra, h.items, ins_not h.right.sorted h.none, h.now, h.right.of]
theorem SetOk.turn {w a : Wh} {who k : Int} (h : SetOk w who k a) (t : Int) : ((tickAfter w.now t).2 ≠ 0 ∧ turnW a t = (a, [], (tickAfter w.now t).2)) ∨
    ∃ b l, turnW a t = (b, l, 0) ∧ Fit b ∧ RightW b ∧ l.length ≤ 20 ∧ l.length + (itemsW b).length = (itemsW w).length + 1 ∧ (l.any fun x => x.1 == who && x.2 == w.now + k) = decide (k ≤ t) ∧ (clearW b who).2 = if k ≤ t then 3 else 0 := by
  have hr := (rightB_iff h.ra.len).2 h.ra
  by_cases h3 : (tickAfter w.now t).2 = 0
  case neg =>
    left
    refine ⟨h3, ?_⟩
    unfold turnW
    rw [if_pos hr, h.now, if_neg h3]
  right
  obtain ⟨v1, v2, v3, v4⟩ := after_val h3
  have ha := after_0 h3
  have hsrt := h.srt
  have hd := due_split hsrt (w.now + t)
  have hfew := h.ra.few
  rw [← itemsW_len, h.items] at hfew
  have hR2 := ofW_right (now := w.now + t) (l := (insI (who, w.now + k) (itemsW w)).filter fun x => !decide (x.2 ≤ w.now + t)) (by rw [v1] at ha; exact ha.2.1) (srt_filter hsrt _) (by
      have := h.ra.whoI
      rw [h.items] at this
      exact List.Nodup.sublist (List.Sublist.map _ List.filter_sublist) this) (fun x hx => by
      obtain ⟨h1, h2⟩ := List.mem_filter.1 hx
      rw [← h.items] at h1
      obtain ⟨p1, p2, _⟩ := h.ra.item h1
      exact ⟨p1, p2, by simpa using h2⟩)
  obtain ⟨hRb, hib⟩ := hR2
  have hlen : ((insI (who, w.now + k) (itemsW w)).filter fun x => decide (x.2 ≤ w.now + t)).length + ((insI (who, w.now + k) (itemsW w)).filter fun x => !decide (x.2 ≤ w.now + t)).length = (itemsW w).length + 1 := by
    have := congrArg List.length hd
    rw [List.length_append, ins_len] at this
    omega
  refine ⟨ofW (w.now + t) ((insI (who, w.now + k) (itemsW w)).filter fun x => !decide (x.2 ≤ w.now + t)), (insI (who, w.now + k) (itemsW w)).filter (fun x => decide (x.2 ≤ w.now + t)), ?_, ?_, hRb, ?_, ?_, ?_, ?_⟩
  · unfold turnW
    rw [if_pos hr, h.now, if_pos h3, sieveW_of h.ra, h.items, v1]
  · exact right_fit hRb
  · have := List.length_filter_le (fun x : Int × Int => decide (x.2 ≤ w.now + t)) (insI (who, w.now + k) (itemsW w))
    omega
  · rw [hib]; exact hlen
  · rw [Bool.eq_iff_iff, List.any_eq_true]
    constructor
    · rintro ⟨x, hx, hp⟩
      have := (List.mem_filter.1 hx).2
      simp at this hp ⊢; omega
    · intro hk
      refine ⟨(who, w.now + k), List.mem_filter.2 ⟨mem_insI.2 (.inl rfl), by simp at hk ⊢; omega⟩, by simp⟩
  · have hrb := (rightB_iff hRb.len).2 hRb
    have hh : hasW (ofW (w.now + t) ((insI (who, w.now + k) (itemsW w)).filter fun x => !decide (x.2 ≤ w.now + t))) who = decide (¬ k ≤ t) := by
      unfold hasW
      rw [hib, Bool.eq_iff_iff, List.any_eq_true]
      constructor
      · rintro ⟨x, hx, hp⟩
        obtain ⟨h1, h2⟩ := List.mem_filter.1 hx
        rcases mem_insI.1 h1 with rfl | g
        · simp at h2 ⊢; omega
        · rw [h.none x g] at hp; cases hp
      · intro hk
        refine ⟨(who, w.now + k), List.mem_filter.2 ⟨mem_insI.2 (.inl rfl), by simp at hk ⊢; omega⟩, by simp⟩
    unfold clearW
    rw [if_pos hrb, hh]
    by_cases hk : k ≤ t
    · simp [hk]
    · simp [hk]
end Go.Proofs.Ytaejlmengfahnaa.AM

set_option linter.all false
set_option maxRecDepth 100000
set_option maxHeartbeats 8000000
namespace Go.Proofs.Ytaejlmengfahnaa.AM
open Go Go.RowKit

theorem c_WheelSure (w : Wh) (who k t : Int) (cl : Bool) (hs : w.slots.length = 8) (hL : ∀ l ∈ w.slots, l.length < 9223372036854775808) : CSpec Try.prog 5 [dWh w, .int .i64 who, .int .i64 k, .int .i64 t, .bool cl] (.bool true) := by
  have S0 := c_small w hs hL
  obtain ⟨d0, d1, d2, d3, d4, d5, d6, d7, e⟩ := wh8 w hs
  cases hsm : smallW w with
  | false =>
    rw [hsm] at S0
    rw [e] at S0 ⊢
    refine CSpec.of_awp envOf_ok hmix Try.func5 rfl (fun args w => Try.call5 args w) (by simp [Try.f5]) ?_
    simp only [Try.f5]
    simp (maxSteps := 2000000) -implicitDefEqProofs only [zz, zE, evop, ev, ofVal, tget, tput, ok, V.isUndef, intBin, guardOf, initT, Ch.on, calleeOf, withArgs, told, xport, xports, tids, tidss, hget, hput, Blk.ice, freeze, V.cells, D.cells, V.isAgg, V.one, V.clo, clos, V.toD, loadD, structAt, eqCells, D.scalarEq, sliceOf, partsD, partsV, bound, isPtr, Blk.width, elems, lenOf, splice, D.over, resOf, resV, resVs, ↓reduceIte, reduceCtorEq, ↓reduceDIte, Nat.reduceLT, Nat.reduceEqDiff, Nat.reduceAdd, Nat.reduceSub, Nat.reduceMul, Nat.reduceLeDiff, Nat.reduceBEq, Nat.reduceBNe, Int.reduceNeg, Int.reduceAdd, Int.reduceSub, Int.reduceToNat, nilTest, shiftH, Blk.ren, V.ren, renL, initV, frameH, putL, frρ, dI, dW]
    first | refine acall_flat' (S0) rfl ?_ | refine dcall_flat' (S0) rfl ?_ | refine acall_ice' (S0) ?_ | refine dcall_still' (S0) rfl ?_
    try simp (maxSteps := 2000000) -implicitDefEqProofs only [zz, zE, evop, ev, ofVal, tget, tput, ok, V.isUndef, intBin, guardOf, initT, Ch.on, calleeOf, withArgs, told, xport, xports, tids, tidss, hget, hput, Blk.ice, freeze, V.cells, D.cells, V.isAgg, V.one, V.clo, clos, V.toD, loadD, structAt, eqCells, D.scalarEq, sliceOf, partsD, partsV, bound, isPtr, Blk.width, elems, lenOf, splice, D.over, resOf, resV, resVs, ↓reduceIte, reduceCtorEq, ↓reduceDIte, Nat.reduceLT, Nat.reduceEqDiff, Nat.reduceAdd, Nat.reduceSub, Nat.reduceMul, Nat.reduceLeDiff, Nat.reduceBEq, Nat.reduceBNe, Int.reduceNeg, Int.reduceAdd, Int.reduceSub, Int.reduceToNat, nilTest, shiftH, Blk.ren, V.ren, renL, initV, frameH, putL, frρ, dI, dW]
    first | refine acall_flat' (c_awake17) rfl ?_ | refine dcall_flat' (c_awake17) rfl ?_ | refine acall_ice' (c_awake17) ?_ | refine dcall_still' (c_awake17) rfl ?_
    try simp (maxSteps := 2000000) -implicitDefEqProofs only [zz, zE, evop, ev, ofVal, tget, tput, ok, V.isUndef, intBin, guardOf, initT, Ch.on, calleeOf, withArgs, told, xport, xports, tids, tidss, hget, hput, Blk.ice, freeze, V.cells, D.cells, V.isAgg, V.one, V.clo, clos, V.toD, loadD, structAt, eqCells, D.scalarEq, sliceOf, partsD, partsV, bound, isPtr, Blk.width, elems, lenOf, splice, D.over, resOf, resV, resVs, ↓reduceIte, reduceCtorEq, ↓reduceDIte, Nat.reduceLT, Nat.reduceEqDiff, Nat.reduceAdd, Nat.reduceSub, Nat.reduceMul, Nat.reduceLeDiff, Nat.reduceBEq, Nat.reduceBNe, Int.reduceNeg, Int.reduceAdd, Int.reduceSub, Int.reduceToNat, nilTest, shiftH, Blk.ren, V.ren, renL, initV, frameH, putL, frρ, dI, dW]
  | true =>
    have hF := fit_small hs hsm
    rw [hsm] at S0
    by_cases ht : t < 1
    · rw [e] at S0 ⊢
      refine CSpec.of_awp envOf_ok hmix Try.func5 rfl (fun args w => Try.call5 args w) (by simp [Try.f5]) ?_
      simp only [Try.f5]
      simp (maxSteps := 2000000) -implicitDefEqProofs only [zz, zE, evop, ev, ofVal, tget, tput, ok, V.isUndef, intBin, guardOf, initT, Ch.on, calleeOf, withArgs, told, xport, xports, tids, tidss, hget, hput, Blk.ice, freeze, V.cells, D.cells, V.isAgg, V.one, V.clo, clos, V.toD, loadD, structAt, eqCells, D.scalarEq, sliceOf, partsD, partsV, bound, isPtr, Blk.width, elems, lenOf, splice, D.over, resOf, resV, resVs, ↓reduceIte, reduceCtorEq, ↓reduceDIte, Nat.reduceLT, Nat.reduceEqDiff, Nat.reduceAdd, Nat.reduceSub, Nat.reduceMul, Nat.reduceLeDiff, Nat.reduceBEq, Nat.reduceBNe, Int.reduceNeg, Int.reduceAdd, Int.reduceSub, Int.reduceToNat, nilTest, shiftH, Blk.ren, V.ren, renL, initV, frameH, putL, frρ, dI, dW]
      first | refine acall_flat' (S0) rfl ?_ | refine dcall_flat' (S0) rfl ?_ | refine acall_ice' (S0) ?_ | refine dcall_still' (S0) rfl ?_
      try simp (maxSteps := 2000000) -implicitDefEqProofs only [zz, zE, evop, ev, ofVal, tget, tput, ok, V.isUndef, intBin, guardOf, initT, Ch.on, calleeOf, withArgs, told, xport, xports, tids, tidss, hget, hput, Blk.ice, freeze, V.cells, D.cells, V.isAgg, V.one, V.clo, clos, V.toD, loadD, structAt, eqCells, D.scalarEq, sliceOf, partsD, partsV, bound, isPtr, Blk.width, elems, lenOf, splice, D.over, resOf, resV, resVs, ↓reduceIte, reduceCtorEq, ↓reduceDIte, Nat.reduceLT, Nat.reduceEqDiff, Nat.reduceAdd, Nat.reduceSub, Nat.reduceMul, Nat.reduceLeDiff, Nat.reduceBEq, Nat.reduceBNe, Int.reduceNeg, Int.reduceAdd, Int.reduceSub, Int.reduceToNat, nilTest, shiftH, Blk.ren, V.ren, renL, initV, frameH, putL, frρ, dI, dW]
      try simp (maxSteps := 2000000) -implicitDefEqProofs only [zz, zE, evop, ev, ofVal, tget, tput, ok, V.isUndef, intBin, guardOf, initT, Ch.on, calleeOf, withArgs, told, xport, xports, tids, tidss, hget, hput, Blk.ice, freeze, V.cells, D.cells, V.isAgg, V.one, V.clo, clos, V.toD, loadD, structAt, eqCells, D.scalarEq, sliceOf, partsD, partsV, bound, isPtr, Blk.width, elems, lenOf, splice, D.over, resOf, resV, resVs, ↓reduceIte, reduceCtorEq, ↓reduceDIte, Nat.reduceLT, Nat.reduceEqDiff, Nat.reduceAdd, Nat.reduceSub, Nat.reduceMul, Nat.reduceLeDiff, Nat.reduceBEq, Nat.reduceBNe, Int.reduceNeg, Int.reduceAdd, Int.reduceSub, Int.reduceToNat, nilTest, shiftH, Blk.ren, V.ren, renL, initV, frameH, putL, frρ, dI, dW, ht]
      first | refine acall_flat' (c_awake17) rfl ?_ | refine dcall_flat' (c_awake17) rfl ?_ | refine acall_ice' (c_awake17) ?_ | refine dcall_still' (c_awake17) rfl ?_
      try simp (maxSteps := 2000000) -implicitDefEqProofs only [zz, zE, evop, ev, ofVal, tget, tput, ok, V.isUndef, intBin, guardOf, initT, Ch.on, calleeOf, withArgs, told, xport, xports, tids, tidss, hget, hput, Blk.ice, freeze, V.cells, D.cells, V.isAgg, V.one, V.clo, clos, V.toD, loadD, structAt, eqCells, D.scalarEq, sliceOf, partsD, partsV, bound, isPtr, Blk.width, elems, lenOf, splice, D.over, resOf, resV, resVs, ↓reduceIte, reduceCtorEq, ↓reduceDIte, Nat.reduceLT, Nat.reduceEqDiff, Nat.reduceAdd, Nat.reduceSub, Nat.reduceMul, Nat.reduceLeDiff, Nat.reduceBEq, Nat.reduceBNe, Int.reduceNeg, Int.reduceAdd, Int.reduceSub, Int.reduceToNat, nilTest, shiftH, Blk.ren, V.ren, renL, initV, frameH, putL, frρ, dI, dW]
    have A1 := c_wh_Set w who k hs hF.le
    have hA := set_fits hF who k
    have hrs := set_two hF who k
    have W3 := c_law17_Ref w hs hF.le
    have W4 := c_r17_Same w w hs hs hF.le hF.le
    have W5 := c_wh_Items w hs hF.le
    rw [sameW_self] at W4
    rw [e] at S0 A1 W3 W4 W5 ⊢
    generalize ha : (setW w who k).1 = a at A1 hA hrs
    generalize (setW w who k).2 = ea at A1 hrs
    refine CSpec.of_awp envOf_ok hmix Try.func5 rfl (fun args w => Try.call5 args w) (by simp [Try.f5]) ?_
    simp only [Try.f5]
    simp (maxSteps := 2000000) -implicitDefEqProofs only [zz, zE, evop, ev, ofVal, tget, tput, ok, V.isUndef, intBin, guardOf, initT, Ch.on, calleeOf, withArgs, told, xport, xports, tids, tidss, hget, hput, Blk.ice, freeze, V.cells, D.cells, V.isAgg, V.one, V.clo, clos, V.toD, loadD, structAt, eqCells, D.scalarEq, sliceOf, partsD, partsV, bound, isPtr, Blk.width, elems, lenOf, splice, D.over, resOf, resV, resVs, ↓reduceIte, reduceCtorEq, ↓reduceDIte, Nat.reduceLT, Nat.reduceEqDiff, Nat.reduceAdd, Nat.reduceSub, Nat.reduceMul, Nat.reduceLeDiff, Nat.reduceBEq, Nat.reduceBNe, Int.reduceNeg, Int.reduceAdd, Int.reduceSub, Int.reduceToNat, nilTest, shiftH, Blk.ren, V.ren, renL, initV, frameH, putL, frρ, dI, dW]
    first | refine acall_flat' (S0) rfl ?_ | refine dcall_flat' (S0) rfl ?_ | refine acall_ice' (S0) ?_ | refine dcall_still' (S0) rfl ?_
    try simp (maxSteps := 2000000) -implicitDefEqProofs only [zz, zE, evop, ev, ofVal, tget, tput, ok, V.isUndef, intBin, guardOf, initT, Ch.on, calleeOf, withArgs, told, xport, xports, tids, tidss, hget, hput, Blk.ice, freeze, V.cells, D.cells, V.isAgg, V.one, V.clo, clos, V.toD, loadD, structAt, eqCells, D.scalarEq, sliceOf, partsD, partsV, bound, isPtr, Blk.width, elems, lenOf, splice, D.over, resOf, resV, resVs, ↓reduceIte, reduceCtorEq, ↓reduceDIte, Nat.reduceLT, Nat.reduceEqDiff, Nat.reduceAdd, Nat.reduceSub, Nat.reduceMul, Nat.reduceLeDiff, Nat.reduceBEq, Nat.reduceBNe, Int.reduceNeg, Int.reduceAdd, Int.reduceSub, Int.reduceToNat, nilTest, shiftH, Blk.ren, V.ren, renL, initV, frameH, putL, frρ, dI, dW]
    rcases hrs with ⟨he, rfl⟩ | ⟨rfl, hO⟩
    · rw [e] at A1
      have he' : (ea != 0) = true := by simpa using he
      try simp (maxSteps := 2000000) -implicitDefEqProofs only [zz, zE, evop, ev, ofVal, tget, tput, ok, V.isUndef, intBin, guardOf, initT, Ch.on, calleeOf, withArgs, told, xport, xports, tids, tidss, hget, hput, Blk.ice, freeze, V.cells, D.cells, V.isAgg, V.one, V.clo, clos, V.toD, loadD, structAt, eqCells, D.scalarEq, sliceOf, partsD, partsV, bound, isPtr, Blk.width, elems, lenOf, splice, D.over, resOf, resV, resVs, ↓reduceIte, reduceCtorEq, ↓reduceDIte, Nat.reduceLT, Nat.reduceEqDiff, Nat.reduceAdd, Nat.reduceSub, Nat.reduceMul, Nat.reduceLeDiff, Nat.reduceBEq, Nat.reduceBNe, Int.reduceNeg, Int.reduceAdd, Int.reduceSub, Int.reduceToNat, nilTest, shiftH, Blk.ren, V.ren, renL, initV, frameH, putL, frρ, dI, dW, ht]
      refine acall_ice' (A1) ?_
      try simp (maxSteps := 2000000) -implicitDefEqProofs only [zz, zE, evop, ev, ofVal, tget, tput, ok, V.isUndef, intBin, guardOf, initT, Ch.on, calleeOf, withArgs, told, xport, xports, tids, tidss, hget, hput, Blk.ice, freeze, V.cells, D.cells, V.isAgg, V.one, V.clo, clos, V.toD, loadD, structAt, eqCells, D.scalarEq, sliceOf, partsD, partsV, bound, isPtr, Blk.width, elems, lenOf, splice, D.over, resOf, resV, resVs, ↓reduceIte, reduceCtorEq, ↓reduceDIte, Nat.reduceLT, Nat.reduceEqDiff, Nat.reduceAdd, Nat.reduceSub, Nat.reduceMul, Nat.reduceLeDiff, Nat.reduceBEq, Nat.reduceBNe, Int.reduceNeg, Int.reduceAdd, Int.reduceSub, Int.reduceToNat, nilTest, shiftH, Blk.ren, V.ren, renL, initV, frameH, putL, frρ, dI, dW]
      try simp (maxSteps := 2000000) -implicitDefEqProofs only [zz, zE, evop, ev, ofVal, tget, tput, ok, V.isUndef, intBin, guardOf, initT, Ch.on, calleeOf, withArgs, told, xport, xports, tids, tidss, hget, hput, Blk.ice, freeze, V.cells, D.cells, V.isAgg, V.one, V.clo, clos, V.toD, loadD, structAt, eqCells, D.scalarEq, sliceOf, partsD, partsV, bound, isPtr, Blk.width, elems, lenOf, splice, D.over, resOf, resV, resVs, ↓reduceIte, reduceCtorEq, ↓reduceDIte, Nat.reduceLT, Nat.reduceEqDiff, Nat.reduceAdd, Nat.reduceSub, Nat.reduceMul, Nat.reduceLeDiff, Nat.reduceBEq, Nat.reduceBNe, Int.reduceNeg, Int.reduceAdd, Int.reduceSub, Int.reduceToNat, nilTest, shiftH, Blk.ren, V.ren, renL, initV, frameH, putL, frρ, dI, dW, he']
      refine wdraw_plan [⟨[], false, [42], [], false⟩, ⟨[0], false, [42], [], false⟩, ⟨[], false, [40, 41], [0, 1], false⟩, ⟨[0, 1, 2], true, [], [], false⟩, ⟨[0, 1, 2, 3], true, [], [], false⟩, ⟨[0, 1, 2, 3, 4], true, [], [], false⟩, ⟨[0, 1, 2, 3, 4, 5], false, [], [], false⟩, ⟨[0, 1, 2, 3, 4, 5, 6], true, [], [], false⟩, ⟨[0, 1, 2, 3, 4, 5, 6, 7], true, [], [], false⟩] (by kernel_rfl) ?_
      try simp (maxSteps := 2000000) -implicitDefEqProofs only [zz, zE, evop, ev, ofVal, tget, tput, ok, V.isUndef, intBin, guardOf, initT, Ch.on, calleeOf, withArgs, told, xport, xports, tids, tidss, hget, hput, Blk.ice, freeze, V.cells, D.cells, V.isAgg, V.one, V.clo, clos, V.toD, loadD, structAt, eqCells, D.scalarEq, sliceOf, partsD, partsV, bound, isPtr, Blk.width, elems, lenOf, splice, D.over, resOf, resV, resVs, ↓reduceIte, reduceCtorEq, ↓reduceDIte, Nat.reduceLT, Nat.reduceEqDiff, Nat.reduceAdd, Nat.reduceSub, Nat.reduceMul, Nat.reduceLeDiff, Nat.reduceBEq, Nat.reduceBNe, Int.reduceNeg, Int.reduceAdd, Int.reduceSub, Int.reduceToNat, nilTest, shiftH, Blk.ren, V.ren, renL, initV, frameH, putL, frρ, dI, dW]
      first | refine acall_flat' (W3) rfl ?_ | refine dcall_flat' (W3) rfl ?_ | refine acall_ice' (W3) ?_ | refine dcall_still' (W3) rfl ?_
      try simp (maxSteps := 2000000) -implicitDefEqProofs only [zz, zE, evop, ev, ofVal, tget, tput, ok, V.isUndef, intBin, guardOf, initT, Ch.on, calleeOf, withArgs, told, xport, xports, tids, tidss, hget, hput, Blk.ice, freeze, V.cells, D.cells, V.isAgg, V.one, V.clo, clos, V.toD, loadD, structAt, eqCells, D.scalarEq, sliceOf, partsD, partsV, bound, isPtr, Blk.width, elems, lenOf, splice, D.over, resOf, resV, resVs, ↓reduceIte, reduceCtorEq, ↓reduceDIte, Nat.reduceLT, Nat.reduceEqDiff, Nat.reduceAdd, Nat.reduceSub, Nat.reduceMul, Nat.reduceLeDiff, Nat.reduceBEq, Nat.reduceBNe, Int.reduceNeg, Int.reduceAdd, Int.reduceSub, Int.reduceToNat, nilTest, shiftH, Blk.ren, V.ren, renL, initV, frameH, putL, frρ, dI, dW]
      first | refine acall_flat' (W3) rfl ?_ | refine dcall_flat' (W3) rfl ?_ | refine acall_ice' (W3) ?_ | refine dcall_still' (W3) rfl ?_
      try simp (maxSteps := 2000000) -implicitDefEqProofs only [zz, zE, evop, ev, ofVal, tget, tput, ok, V.isUndef, intBin, guardOf, initT, Ch.on, calleeOf, withArgs, told, xport, xports, tids, tidss, hget, hput, Blk.ice, freeze, V.cells, D.cells, V.isAgg, V.one, V.clo, clos, V.toD, loadD, structAt, eqCells, D.scalarEq, sliceOf, partsD, partsV, bound, isPtr, Blk.width, elems, lenOf, splice, D.over, resOf, resV, resVs, ↓reduceIte, reduceCtorEq, ↓reduceDIte, Nat.reduceLT, Nat.reduceEqDiff, Nat.reduceAdd, Nat.reduceSub, Nat.reduceMul, Nat.reduceLeDiff, Nat.reduceBEq, Nat.reduceBNe, Int.reduceNeg, Int.reduceAdd, Int.reduceSub, Int.reduceToNat, nilTest, shiftH, Blk.ren, V.ren, renL, initV, frameH, putL, frρ, dI, dW]
      try simp (maxSteps := 2000000) -implicitDefEqProofs only [zz, zE, evop, ev, ofVal, tget, tput, ok, V.isUndef, intBin, guardOf, initT, Ch.on, calleeOf, withArgs, told, xport, xports, tids, tidss, hget, hput, Blk.ice, freeze, V.cells, D.cells, V.isAgg, V.one, V.clo, clos, V.toD, loadD, structAt, eqCells, D.scalarEq, sliceOf, partsD, partsV, bound, isPtr, Blk.width, elems, lenOf, splice, D.over, resOf, resV, resVs, ↓reduceIte, reduceCtorEq, ↓reduceDIte, Nat.reduceLT, Nat.reduceEqDiff, Nat.reduceAdd, Nat.reduceSub, Nat.reduceMul, Nat.reduceLeDiff, Nat.reduceBEq, Nat.reduceBNe, Int.reduceNeg, Int.reduceAdd, Int.reduceSub, Int.reduceToNat, nilTest, shiftH, Blk.ren, V.ren, renL, initV, frameH, putL, frρ, dI, dW]
      first | refine acall_flat' (W4) rfl ?_ | refine dcall_flat' (W4) rfl ?_ | refine acall_ice' (W4) ?_ | refine dcall_still' (W4) rfl ?_
      try simp (maxSteps := 2000000) -implicitDefEqProofs only [zz, zE, evop, ev, ofVal, tget, tput, ok, V.isUndef, intBin, guardOf, initT, Ch.on, calleeOf, withArgs, told, xport, xports, tids, tidss, hget, hput, Blk.ice, freeze, V.cells, D.cells, V.isAgg, V.one, V.clo, clos, V.toD, loadD, structAt, eqCells, D.scalarEq, sliceOf, partsD, partsV, bound, isPtr, Blk.width, elems, lenOf, splice, D.over, resOf, resV, resVs, ↓reduceIte, reduceCtorEq, ↓reduceDIte, Nat.reduceLT, Nat.reduceEqDiff, Nat.reduceAdd, Nat.reduceSub, Nat.reduceMul, Nat.reduceLeDiff, Nat.reduceBEq, Nat.reduceBNe, Int.reduceNeg, Int.reduceAdd, Int.reduceSub, Int.reduceToNat, nilTest, shiftH, Blk.ren, V.ren, renL, initV, frameH, putL, frρ, dI, dW]
      try simp (maxSteps := 2000000) -implicitDefEqProofs only [zz, zE, evop, ev, ofVal, tget, tput, ok, V.isUndef, intBin, guardOf, initT, Ch.on, calleeOf, withArgs, told, xport, xports, tids, tidss, hget, hput, Blk.ice, freeze, V.cells, D.cells, V.isAgg, V.one, V.clo, clos, V.toD, loadD, structAt, eqCells, D.scalarEq, sliceOf, partsD, partsV, bound, isPtr, Blk.width, elems, lenOf, splice, D.over, resOf, resV, resVs, ↓reduceIte, reduceCtorEq, ↓reduceDIte, Nat.reduceLT, Nat.reduceEqDiff, Nat.reduceAdd, Nat.reduceSub, Nat.reduceMul, Nat.reduceLeDiff, Nat.reduceBEq, Nat.reduceBNe, Int.reduceNeg, Int.reduceAdd, Int.reduceSub, Int.reduceToNat, nilTest, shiftH, Blk.ren, V.ren, renL, initV, frameH, putL, frρ, dI, dW]
      first | refine acall_flat' (c_awake17) rfl ?_ | refine dcall_flat' (c_awake17) rfl ?_ | refine acall_ice' (c_awake17) ?_ | refine dcall_still' (c_awake17) rfl ?_
      try simp (maxSteps := 2000000) -implicitDefEqProofs only [zz, zE, evop, ev, ofVal, tget, tput, ok, V.isUndef, intBin, guardOf, initT, Ch.on, calleeOf, withArgs, told, xport, xports, tids, tidss, hget, hput, Blk.ice, freeze, V.cells, D.cells, V.isAgg, V.one, V.clo, clos, V.toD, loadD, structAt, eqCells, D.scalarEq, sliceOf, partsD, partsV, bound, isPtr, Blk.width, elems, lenOf, splice, D.over, resOf, resV, resVs, ↓reduceIte, reduceCtorEq, ↓reduceDIte, Nat.reduceLT, Nat.reduceEqDiff, Nat.reduceAdd, Nat.reduceSub, Nat.reduceMul, Nat.reduceLeDiff, Nat.reduceBEq, Nat.reduceBNe, Int.reduceNeg, Int.reduceAdd, Int.reduceSub, Int.reduceToNat, nilTest, shiftH, Blk.ren, V.ren, renL, initV, frameH, putL, frρ, dI, dW]
    obtain ⟨a0, a1, a2, a3, a4, a5, a6, a7, eA⟩ := wh8 _ hA.len
    have e00 : ((0 : Int) != 0) = false := by decide
    have e01 : ((0 : Int) == 0) = true := by decide
    have C1 := c_wh_Clear a who hA.len hA.le
    rw [hO.clear] at C1
    have T1 := c_wh_Turn a t hA.len hA.le
    have V3 := c_law17_Ref a hA.len hA.le
    have V4 := c_r17_Same a a hA.len hA.len hA.le hA.le
    rw [sameW_self] at V4
    rw [e, eA] at C1
    rw [eA] at A1 T1 V3 V4
    try simp (maxSteps := 2000000) -implicitDefEqProofs only [zz, zE, evop, ev, ofVal, tget, tput, ok, V.isUndef, intBin, guardOf, initT, Ch.on, calleeOf, withArgs, told, xport, xports, tids, tidss, hget, hput, Blk.ice, freeze, V.cells, D.cells, V.isAgg, V.one, V.clo, clos, V.toD, loadD, structAt, eqCells, D.scalarEq, sliceOf, partsD, partsV, bound, isPtr, Blk.width, elems, lenOf, splice, D.over, resOf, resV, resVs, ↓reduceIte, reduceCtorEq, ↓reduceDIte, Nat.reduceLT, Nat.reduceEqDiff, Nat.reduceAdd, Nat.reduceSub, Nat.reduceMul, Nat.reduceLeDiff, Nat.reduceBEq, Nat.reduceBNe, Int.reduceNeg, Int.reduceAdd, Int.reduceSub, Int.reduceToNat, nilTest, shiftH, Blk.ren, V.ren, renL, initV, frameH, putL, frρ, dI, dW, ht]
    refine acall_ice' (A1) ?_
    try simp (maxSteps := 2000000) -implicitDefEqProofs only [zz, zE, evop, ev, ofVal, tget, tput, ok, V.isUndef, intBin, guardOf, initT, Ch.on, calleeOf, withArgs, told, xport, xports, tids, tidss, hget, hput, Blk.ice, freeze, V.cells, D.cells, V.isAgg, V.one, V.clo, clos, V.toD, loadD, structAt, eqCells, D.scalarEq, sliceOf, partsD, partsV, bound, isPtr, Blk.width, elems, lenOf, splice, D.over, resOf, resV, resVs, ↓reduceIte, reduceCtorEq, ↓reduceDIte, Nat.reduceLT, Nat.reduceEqDiff, Nat.reduceAdd, Nat.reduceSub, Nat.reduceMul, Nat.reduceLeDiff, Nat.reduceBEq, Nat.reduceBNe, Int.reduceNeg, Int.reduceAdd, Int.reduceSub, Int.reduceToNat, nilTest, shiftH, Blk.ren, V.ren, renL, initV, frameH, putL, frρ, dI, dW]
    try simp (maxSteps := 2000000) -implicitDefEqProofs only [zz, zE, evop, ev, ofVal, tget, tput, ok, V.isUndef, intBin, guardOf, initT, Ch.on, calleeOf, withArgs, told, xport, xports, tids, tidss, hget, hput, Blk.ice, freeze, V.cells, D.cells, V.isAgg, V.one, V.clo, clos, V.toD, loadD, structAt, eqCells, D.scalarEq, sliceOf, partsD, partsV, bound, isPtr, Blk.width, elems, lenOf, splice, D.over, resOf, resV, resVs, ↓reduceIte, reduceCtorEq, ↓reduceDIte, Nat.reduceLT, Nat.reduceEqDiff, Nat.reduceAdd, Nat.reduceSub, Nat.reduceMul, Nat.reduceLeDiff, Nat.reduceBEq, Nat.reduceBNe, Int.reduceNeg, Int.reduceAdd, Int.reduceSub, Int.reduceToNat, nilTest, shiftH, Blk.ren, V.ren, renL, initV, frameH, putL, frρ, dI, dW, e00]
    cases cl with
    | true =>
      try simp (maxSteps := 2000000) -implicitDefEqProofs only [zz, zE, evop, ev, ofVal, tget, tput, ok, V.isUndef, intBin, guardOf, initT, Ch.on, calleeOf, withArgs, told, xport, xports, tids, tidss, hget, hput, Blk.ice, freeze, V.cells, D.cells, V.isAgg, V.one, V.clo, clos, V.toD, loadD, structAt, eqCells, D.scalarEq, sliceOf, partsD, partsV, bound, isPtr, Blk.width, elems, lenOf, splice, D.over, resOf, resV, resVs, ↓reduceIte, reduceCtorEq, ↓reduceDIte, Nat.reduceLT, Nat.reduceEqDiff, Nat.reduceAdd, Nat.reduceSub, Nat.reduceMul, Nat.reduceLeDiff, Nat.reduceBEq, Nat.reduceBNe, Int.reduceNeg, Int.reduceAdd, Int.reduceSub, Int.reduceToNat, nilTest, shiftH, Blk.ren, V.ren, renL, initV, frameH, putL, frρ, dI, dW]
      refine acall_ice' (C1) ?_
      try simp (maxSteps := 2000000) -implicitDefEqProofs only [zz, zE, evop, ev, ofVal, tget, tput, ok, V.isUndef, intBin, guardOf, initT, Ch.on, calleeOf, withArgs, told, xport, xports, tids, tidss, hget, hput, Blk.ice, freeze, V.cells, D.cells, V.isAgg, V.one, V.clo, clos, V.toD, loadD, structAt, eqCells, D.scalarEq, sliceOf, partsD, partsV, bound, isPtr, Blk.width, elems, lenOf, splice, D.over, resOf, resV, resVs, ↓reduceIte, reduceCtorEq, ↓reduceDIte, Nat.reduceLT, Nat.reduceEqDiff, Nat.reduceAdd, Nat.reduceSub, Nat.reduceMul, Nat.reduceLeDiff, Nat.reduceBEq, Nat.reduceBNe, Int.reduceNeg, Int.reduceAdd, Int.reduceSub, Int.reduceToNat, nilTest, shiftH, Blk.ren, V.ren, renL, initV, frameH, putL, frρ, dI, dW]
      refine wdraw_plan [⟨[], true, [], [], false⟩, ⟨[0], true, [], [], false⟩, ⟨[0, 1], true, [], [], false⟩, ⟨[0, 1, 2], false, [60], [], false⟩, ⟨[0, 1, 2, 3], false, [60], [], false⟩, ⟨[0, 1, 2], false, [58, 59], [3, 4], false⟩, ⟨[0, 1, 2, 3, 4, 5], false, [], [], false⟩, ⟨[0, 1, 2, 3, 4, 5, 6], false, [], [], false⟩, ⟨[0, 1, 2, 3, 4, 5, 6, 7], true, [], [], false⟩, ⟨[0, 1, 2, 3, 4, 5, 6, 7, 8], true, [], [], false⟩, ⟨[0, 1, 2, 3, 4, 5, 6, 7, 8, 9], false, [], [], false⟩, ⟨[0, 1, 2, 3, 4, 5, 6, 7, 8, 9, 10], true, [], [], false⟩, ⟨[0, 1, 2, 3, 4, 5, 6, 7, 8, 9, 10, 11], true, [], [], false⟩] (by kernel_rfl) ?_
      try simp (maxSteps := 2000000) -implicitDefEqProofs only [zz, zE, evop, ev, ofVal, tget, tput, ok, V.isUndef, intBin, guardOf, initT, Ch.on, calleeOf, withArgs, told, xport, xports, tids, tidss, hget, hput, Blk.ice, freeze, V.cells, D.cells, V.isAgg, V.one, V.clo, clos, V.toD, loadD, structAt, eqCells, D.scalarEq, sliceOf, partsD, partsV, bound, isPtr, Blk.width, elems, lenOf, splice, D.over, resOf, resV, resVs, ↓reduceIte, reduceCtorEq, ↓reduceDIte, Nat.reduceLT, Nat.reduceEqDiff, Nat.reduceAdd, Nat.reduceSub, Nat.reduceMul, Nat.reduceLeDiff, Nat.reduceBEq, Nat.reduceBNe, Int.reduceNeg, Int.reduceAdd, Int.reduceSub, Int.reduceToNat, nilTest, shiftH, Blk.ren, V.ren, renL, initV, frameH, putL, frρ, dI, dW, e01]
      first | refine acall_flat' (W3) rfl ?_ | refine dcall_flat' (W3) rfl ?_ | refine acall_ice' (W3) ?_ | refine dcall_still' (W3) rfl ?_
      try simp (maxSteps := 2000000) -implicitDefEqProofs only [zz, zE, evop, ev, ofVal, tget, tput, ok, V.isUndef, intBin, guardOf, initT, Ch.on, calleeOf, withArgs, told, xport, xports, tids, tidss, hget, hput, Blk.ice, freeze, V.cells, D.cells, V.isAgg, V.one, V.clo, clos, V.toD, loadD, structAt, eqCells, D.scalarEq, sliceOf, partsD, partsV, bound, isPtr, Blk.width, elems, lenOf, splice, D.over, resOf, resV, resVs, ↓reduceIte, reduceCtorEq, ↓reduceDIte, Nat.reduceLT, Nat.reduceEqDiff, Nat.reduceAdd, Nat.reduceSub, Nat.reduceMul, Nat.reduceLeDiff, Nat.reduceBEq, Nat.reduceBNe, Int.reduceNeg, Int.reduceAdd, Int.reduceSub, Int.reduceToNat, nilTest, shiftH, Blk.ren, V.ren, renL, initV, frameH, putL, frρ, dI, dW]
      first | refine acall_flat' (W3) rfl ?_ | refine dcall_flat' (W3) rfl ?_ | refine acall_ice' (W3) ?_ | refine dcall_still' (W3) rfl ?_
      try simp (maxSteps := 2000000) -implicitDefEqProofs only [zz, zE, evop, ev, ofVal, tget, tput, ok, V.isUndef, intBin, guardOf, initT, Ch.on, calleeOf, withArgs, told, xport, xports, tids, tidss, hget, hput, Blk.ice, freeze, V.cells, D.cells, V.isAgg, V.one, V.clo, clos, V.toD, loadD, structAt, eqCells, D.scalarEq, sliceOf, partsD, partsV, bound, isPtr, Blk.width, elems, lenOf, splice, D.over, resOf, resV, resVs, ↓reduceIte, reduceCtorEq, ↓reduceDIte, Nat.reduceLT, Nat.reduceEqDiff, Nat.reduceAdd, Nat.reduceSub, Nat.reduceMul, Nat.reduceLeDiff, Nat.reduceBEq, Nat.reduceBNe, Int.reduceNeg, Int.reduceAdd, Int.reduceSub, Int.reduceToNat, nilTest, shiftH, Blk.ren, V.ren, renL, initV, frameH, putL, frρ, dI, dW]
      try simp (maxSteps := 2000000) -implicitDefEqProofs only [zz, zE, evop, ev, ofVal, tget, tput, ok, V.isUndef, intBin, guardOf, initT, Ch.on, calleeOf, withArgs, told, xport, xports, tids, tidss, hget, hput, Blk.ice, freeze, V.cells, D.cells, V.isAgg, V.one, V.clo, clos, V.toD, loadD, structAt, eqCells, D.scalarEq, sliceOf, partsD, partsV, bound, isPtr, Blk.width, elems, lenOf, splice, D.over, resOf, resV, resVs, ↓reduceIte, reduceCtorEq, ↓reduceDIte, Nat.reduceLT, Nat.reduceEqDiff, Nat.reduceAdd, Nat.reduceSub, Nat.reduceMul, Nat.reduceLeDiff, Nat.reduceBEq, Nat.reduceBNe, Int.reduceNeg, Int.reduceAdd, Int.reduceSub, Int.reduceToNat, nilTest, shiftH, Blk.ren, V.ren, renL, initV, frameH, putL, frρ, dI, dW]
      first | refine acall_flat' (W4) rfl ?_ | refine dcall_flat' (W4) rfl ?_ | refine acall_ice' (W4) ?_ | refine dcall_still' (W4) rfl ?_
      try simp (maxSteps := 2000000) -implicitDefEqProofs only [zz, zE, evop, ev, ofVal, tget, tput, ok, V.isUndef, intBin, guardOf, initT, Ch.on, calleeOf, withArgs, told, xport, xports, tids, tidss, hget, hput, Blk.ice, freeze, V.cells, D.cells, V.isAgg, V.one, V.clo, clos, V.toD, loadD, structAt, eqCells, D.scalarEq, sliceOf, partsD, partsV, bound, isPtr, Blk.width, elems, lenOf, splice, D.over, resOf, resV, resVs, ↓reduceIte, reduceCtorEq, ↓reduceDIte, Nat.reduceLT, Nat.reduceEqDiff, Nat.reduceAdd, Nat.reduceSub, Nat.reduceMul, Nat.reduceLeDiff, Nat.reduceBEq, Nat.reduceBNe, Int.reduceNeg, Int.reduceAdd, Int.reduceSub, Int.reduceToNat, nilTest, shiftH, Blk.ren, V.ren, renL, initV, frameH, putL, frρ, dI, dW]
      try simp (maxSteps := 2000000) -implicitDefEqProofs only [zz, zE, evop, ev, ofVal, tget, tput, ok, V.isUndef, intBin, guardOf, initT, Ch.on, calleeOf, withArgs, told, xport, xports, tids, tidss, hget, hput, Blk.ice, freeze, V.cells, D.cells, V.isAgg, V.one, V.clo, clos, V.toD, loadD, structAt, eqCells, D.scalarEq, sliceOf, partsD, partsV, bound, isPtr, Blk.width, elems, lenOf, splice, D.over, resOf, resV, resVs, ↓reduceIte, reduceCtorEq, ↓reduceDIte, Nat.reduceLT, Nat.reduceEqDiff, Nat.reduceAdd, Nat.reduceSub, Nat.reduceMul, Nat.reduceLeDiff, Nat.reduceBEq, Nat.reduceBNe, Int.reduceNeg, Int.reduceAdd, Int.reduceSub, Int.reduceToNat, nilTest, shiftH, Blk.ren, V.ren, renL, initV, frameH, putL, frρ, dI, dW]
      first | refine acall_flat' (c_awake17) rfl ?_ | refine dcall_flat' (c_awake17) rfl ?_ | refine acall_ice' (c_awake17) ?_ | refine dcall_still' (c_awake17) rfl ?_
      try simp (maxSteps := 2000000) -implicitDefEqProofs only [zz, zE, evop, ev, ofVal, tget, tput, ok, V.isUndef, intBin, guardOf, initT, Ch.on, calleeOf, withArgs, told, xport, xports, tids, tidss, hget, hput, Blk.ice, freeze, V.cells, D.cells, V.isAgg, V.one, V.clo, clos, V.toD, loadD, structAt, eqCells, D.scalarEq, sliceOf, partsD, partsV, bound, isPtr, Blk.width, elems, lenOf, splice, D.over, resOf, resV, resVs, ↓reduceIte, reduceCtorEq, ↓reduceDIte, Nat.reduceLT, Nat.reduceEqDiff, Nat.reduceAdd, Nat.reduceSub, Nat.reduceMul, Nat.reduceLeDiff, Nat.reduceBEq, Nat.reduceBNe, Int.reduceNeg, Int.reduceAdd, Int.reduceSub, Int.reduceToNat, nilTest, shiftH, Blk.ren, V.ren, renL, initV, frameH, putL, frρ, dI, dW]
    | false =>
    try simp (maxSteps := 2000000) -implicitDefEqProofs only [zz, zE, evop, ev, ofVal, tget, tput, ok, V.isUndef, intBin, guardOf, initT, Ch.on, calleeOf, withArgs, told, xport, xports, tids, tidss, hget, hput, Blk.ice, freeze, V.cells, D.cells, V.isAgg, V.one, V.clo, clos, V.toD, loadD, structAt, eqCells, D.scalarEq, sliceOf, partsD, partsV, bound, isPtr, Blk.width, elems, lenOf, splice, D.over, resOf, resV, resVs, ↓reduceIte, reduceCtorEq, ↓reduceDIte, Nat.reduceLT, Nat.reduceEqDiff, Nat.reduceAdd, Nat.reduceSub, Nat.reduceMul, Nat.reduceLeDiff, Nat.reduceBEq, Nat.reduceBNe, Int.reduceNeg, Int.reduceAdd, Int.reduceSub, Int.reduceToNat, nilTest, shiftH, Blk.ren, V.ren, renL, initV, frameH, putL, frρ, dI, dW]
    rcases hO.turn t with ⟨h3, h4⟩ | ⟨b, l, h4, hB, hRb, hl20, hlen, htold, hcl⟩
    · rw [h4] at T1
      rw [eA] at T1
      have h3' : ((tickAfter w.now t).2 != 0) = true := by simpa using h3
      have e03 : (((0 : Nat) : Int) == 0) = true := by decide
      refine acall_ice' (T1) ?_
      try simp (maxSteps := 2000000) -implicitDefEqProofs only [zz, zE, evop, ev, ofVal, tget, tput, ok, V.isUndef, intBin, guardOf, initT, Ch.on, calleeOf, withArgs, told, xport, xports, tids, tidss, hget, hput, Blk.ice, freeze, V.cells, D.cells, V.isAgg, V.one, V.clo, clos, V.toD, loadD, structAt, eqCells, D.scalarEq, sliceOf, partsD, partsV, bound, isPtr, Blk.width, elems, lenOf, splice, D.over, resOf, resV, resVs, ↓reduceIte, reduceCtorEq, ↓reduceDIte, Nat.reduceLT, Nat.reduceEqDiff, Nat.reduceAdd, Nat.reduceSub, Nat.reduceMul, Nat.reduceLeDiff, Nat.reduceBEq, Nat.reduceBNe, Int.reduceNeg, Int.reduceAdd, Int.reduceSub, Int.reduceToNat, nilTest, shiftH, Blk.ren, V.ren, renL, initV, frameH, putL, frρ, dI, dW]
      try simp (maxSteps := 2000000) -implicitDefEqProofs only [zz, zE, evop, ev, ofVal, tget, tput, ok, V.isUndef, intBin, guardOf, initT, Ch.on, calleeOf, withArgs, told, xport, xports, tids, tidss, hget, hput, Blk.ice, freeze, V.cells, D.cells, V.isAgg, V.one, V.clo, clos, V.toD, loadD, structAt, eqCells, D.scalarEq, sliceOf, partsD, partsV, bound, isPtr, Blk.width, elems, lenOf, splice, D.over, resOf, resV, resVs, ↓reduceIte, reduceCtorEq, ↓reduceDIte, Nat.reduceLT, Nat.reduceEqDiff, Nat.reduceAdd, Nat.reduceSub, Nat.reduceMul, Nat.reduceLeDiff, Nat.reduceBEq, Nat.reduceBNe, Int.reduceNeg, Int.reduceAdd, Int.reduceSub, Int.reduceToNat, nilTest, shiftH, Blk.ren, V.ren, renL, initV, frameH, putL, frρ, dI, dW, h3']
      refine wdraw_plan [⟨[], true, [], [], false⟩, ⟨[0], true, [], [], false⟩, ⟨[0, 1], true, [], [], false⟩, ⟨[0, 1, 2], true, [], [], false⟩, ⟨[0, 1, 2, 3], false, [82], [], false⟩, ⟨[0, 1, 2, 3, 4], false, [82], [], false⟩, ⟨[0, 1, 2, 3], false, [80, 81], [4, 5], false⟩, ⟨[0, 1, 2, 3, 4, 5, 6], false, [], [], false⟩, ⟨[0, 1, 2, 3, 4, 5, 6, 7], false, [], [], false⟩, ⟨[0, 1, 2, 3, 4, 5, 6, 7, 8], true, [], [], false⟩, ⟨[0, 1, 2, 3, 4, 5, 6, 7, 8, 9], true, [], [], false⟩, ⟨[0, 1, 2, 3, 4, 5, 6, 7, 8, 9, 10], false, [], [], false⟩, ⟨[0, 1, 2, 3, 4, 5, 6, 7, 8, 9, 10, 11], true, [], [], false⟩, ⟨[0, 1, 2, 3, 4, 5, 6, 7, 8, 9, 10, 11, 12], true, [], [], false⟩] (by kernel_rfl) ?_
      try simp (maxSteps := 2000000) -implicitDefEqProofs only [zz, zE, evop, ev, ofVal, tget, tput, ok, V.isUndef, intBin, guardOf, initT, Ch.on, calleeOf, withArgs, told, xport, xports, tids, tidss, hget, hput, Blk.ice, freeze, V.cells, D.cells, V.isAgg, V.one, V.clo, clos, V.toD, loadD, structAt, eqCells, D.scalarEq, sliceOf, partsD, partsV, bound, isPtr, Blk.width, elems, lenOf, splice, D.over, resOf, resV, resVs, ↓reduceIte, reduceCtorEq, ↓reduceDIte, Nat.reduceLT, Nat.reduceEqDiff, Nat.reduceAdd, Nat.reduceSub, Nat.reduceMul, Nat.reduceLeDiff, Nat.reduceBEq, Nat.reduceBNe, Int.reduceNeg, Int.reduceAdd, Int.reduceSub, Int.reduceToNat, nilTest, shiftH, Blk.ren, V.ren, renL, initV, frameH, putL, frρ, dI, dW, e03]
      first | refine acall_flat' (V3) rfl ?_ | refine dcall_flat' (V3) rfl ?_ | refine acall_ice' (V3) ?_ | refine dcall_still' (V3) rfl ?_
      try simp (maxSteps := 2000000) -implicitDefEqProofs only [zz, zE, evop, ev, ofVal, tget, tput, ok, V.isUndef, intBin, guardOf, initT, Ch.on, calleeOf, withArgs, told, xport, xports, tids, tidss, hget, hput, Blk.ice, freeze, V.cells, D.cells, V.isAgg, V.one, V.clo, clos, V.toD, loadD, structAt, eqCells, D.scalarEq, sliceOf, partsD, partsV, bound, isPtr, Blk.width, elems, lenOf, splice, D.over, resOf, resV, resVs, ↓reduceIte, reduceCtorEq, ↓reduceDIte, Nat.reduceLT, Nat.reduceEqDiff, Nat.reduceAdd, Nat.reduceSub, Nat.reduceMul, Nat.reduceLeDiff, Nat.reduceBEq, Nat.reduceBNe, Int.reduceNeg, Int.reduceAdd, Int.reduceSub, Int.reduceToNat, nilTest, shiftH, Blk.ren, V.ren, renL, initV, frameH, putL, frρ, dI, dW]
      first | refine acall_flat' (V3) rfl ?_ | refine dcall_flat' (V3) rfl ?_ | refine acall_ice' (V3) ?_ | refine dcall_still' (V3) rfl ?_
      try simp (maxSteps := 2000000) -implicitDefEqProofs only [zz, zE, evop, ev, ofVal, tget, tput, ok, V.isUndef, intBin, guardOf, initT, Ch.on, calleeOf, withArgs, told, xport, xports, tids, tidss, hget, hput, Blk.ice, freeze, V.cells, D.cells, V.isAgg, V.one, V.clo, clos, V.toD, loadD, structAt, eqCells, D.scalarEq, sliceOf, partsD, partsV, bound, isPtr, Blk.width, elems, lenOf, splice, D.over, resOf, resV, resVs, ↓reduceIte, reduceCtorEq, ↓reduceDIte, Nat.reduceLT, Nat.reduceEqDiff, Nat.reduceAdd, Nat.reduceSub, Nat.reduceMul, Nat.reduceLeDiff, Nat.reduceBEq, Nat.reduceBNe, Int.reduceNeg, Int.reduceAdd, Int.reduceSub, Int.reduceToNat, nilTest, shiftH, Blk.ren, V.ren, renL, initV, frameH, putL, frρ, dI, dW]
      try simp (maxSteps := 2000000) -implicitDefEqProofs only [zz, zE, evop, ev, ofVal, tget, tput, ok, V.isUndef, intBin, guardOf, initT, Ch.on, calleeOf, withArgs, told, xport, xports, tids, tidss, hget, hput, Blk.ice, freeze, V.cells, D.cells, V.isAgg, V.one, V.clo, clos, V.toD, loadD, structAt, eqCells, D.scalarEq, sliceOf, partsD, partsV, bound, isPtr, Blk.width, elems, lenOf, splice, D.over, resOf, resV, resVs, ↓reduceIte, reduceCtorEq, ↓reduceDIte, Nat.reduceLT, Nat.reduceEqDiff, Nat.reduceAdd, Nat.reduceSub, Nat.reduceMul, Nat.reduceLeDiff, Nat.reduceBEq, Nat.reduceBNe, Int.reduceNeg, Int.reduceAdd, Int.reduceSub, Int.reduceToNat, nilTest, shiftH, Blk.ren, V.ren, renL, initV, frameH, putL, frρ, dI, dW]
      first | refine acall_flat' (V4) rfl ?_ | refine dcall_flat' (V4) rfl ?_ | refine acall_ice' (V4) ?_ | refine dcall_still' (V4) rfl ?_
      try simp (maxSteps := 2000000) -implicitDefEqProofs only [zz, zE, evop, ev, ofVal, tget, tput, ok, V.isUndef, intBin, guardOf, initT, Ch.on, calleeOf, withArgs, told, xport, xports, tids, tidss, hget, hput, Blk.ice, freeze, V.cells, D.cells, V.isAgg, V.one, V.clo, clos, V.toD, loadD, structAt, eqCells, D.scalarEq, sliceOf, partsD, partsV, bound, isPtr, Blk.width, elems, lenOf, splice, D.over, resOf, resV, resVs, ↓reduceIte, reduceCtorEq, ↓reduceDIte, Nat.reduceLT, Nat.reduceEqDiff, Nat.reduceAdd, Nat.reduceSub, Nat.reduceMul, Nat.reduceLeDiff, Nat.reduceBEq, Nat.reduceBNe, Int.reduceNeg, Int.reduceAdd, Int.reduceSub, Int.reduceToNat, nilTest, shiftH, Blk.ren, V.ren, renL, initV, frameH, putL, frρ, dI, dW]
      try simp (maxSteps := 2000000) -implicitDefEqProofs only [zz, zE, evop, ev, ofVal, tget, tput, ok, V.isUndef, intBin, guardOf, initT, Ch.on, calleeOf, withArgs, told, xport, xports, tids, tidss, hget, hput, Blk.ice, freeze, V.cells, D.cells, V.isAgg, V.one, V.clo, clos, V.toD, loadD, structAt, eqCells, D.scalarEq, sliceOf, partsD, partsV, bound, isPtr, Blk.width, elems, lenOf, splice, D.over, resOf, resV, resVs, ↓reduceIte, reduceCtorEq, ↓reduceDIte, Nat.reduceLT, Nat.reduceEqDiff, Nat.reduceAdd, Nat.reduceSub, Nat.reduceMul, Nat.reduceLeDiff, Nat.reduceBEq, Nat.reduceBNe, Int.reduceNeg, Int.reduceAdd, Int.reduceSub, Int.reduceToNat, nilTest, shiftH, Blk.ren, V.ren, renL, initV, frameH, putL, frρ, dI, dW]
      first | refine acall_flat' (c_awake17) rfl ?_ | refine dcall_flat' (c_awake17) rfl ?_ | refine acall_ice' (c_awake17) ?_ | refine dcall_still' (c_awake17) rfl ?_
      try simp (maxSteps := 2000000) -implicitDefEqProofs only [zz, zE, evop, ev, ofVal, tget, tput, ok, V.isUndef, intBin, guardOf, initT, Ch.on, calleeOf, withArgs, told, xport, xports, tids, tidss, hget, hput, Blk.ice, freeze, V.cells, D.cells, V.isAgg, V.one, V.clo, clos, V.toD, loadD, structAt, eqCells, D.scalarEq, sliceOf, partsD, partsV, bound, isPtr, Blk.width, elems, lenOf, splice, D.over, resOf, resV, resVs, ↓reduceIte, reduceCtorEq, ↓reduceDIte, Nat.reduceLT, Nat.reduceEqDiff, Nat.reduceAdd, Nat.reduceSub, Nat.reduceMul, Nat.reduceLeDiff, Nat.reduceBEq, Nat.reduceBNe, Int.reduceNeg, Int.reduceAdd, Int.reduceSub, Int.reduceToNat, nilTest, shiftH, Blk.ren, V.ren, renL, initV, frameH, putL, frρ, dI, dW]
    obtain ⟨b0, b1, b2, b3, b4, b5, b6, b7, eB⟩ := wh8 _ hB.len
    have C2 := c_wh_Clear b who hB.len hB.le
    have I2 := c_wh_Items b hB.len hB.le
    have hC := clear_fits hB who
    obtain ⟨c0, c1, c2, c3, c4, c5, c6, c7, eC⟩ := wh8 _ hC.len
    rw [h4] at T1
    rw [eB] at T1 C2 I2
    rw [hcl, eC] at C2
    rw [(rightB_iff hB.len).2 hRb, if_pos rfl] at I2
    rw [(rightB_iff hs).2 hO.right, if_pos rfl] at W5
    have h8 := hO.right.few
    rw [← itemsW_len] at h8
    have hlo := hO.lo
    have hhi := hO.hi
    have hwk : IntKind.i64.wrap (w.now + k) = w.now + k := by
      have := hO.right.now
      simp only [tickR, Bool.and_eq_true, decide_eq_true_eq] at this
      rw [wrap_in (by omega)]
    have hll : ∀ p, (l.take l.length).any p = l.any p := fun p => by rw [List.take_length]
    refine acall_ice' (T1) ?_
    try simp (maxSteps := 2000000) -implicitDefEqProofs only [zz, zE, evop, ev, ofVal, tget, tput, ok, V.isUndef, intBin, guardOf, initT, Ch.on, calleeOf, withArgs, told, xport, xports, tids, tidss, hget, hput, Blk.ice, freeze, V.cells, D.cells, V.isAgg, V.one, V.clo, clos, V.toD, loadD, structAt, eqCells, D.scalarEq, sliceOf, partsD, partsV, bound, isPtr, Blk.width, elems, lenOf, splice, D.over, resOf, resV, resVs, ↓reduceIte, reduceCtorEq, ↓reduceDIte, Nat.reduceLT, Nat.reduceEqDiff, Nat.reduceAdd, Nat.reduceSub, Nat.reduceMul, Nat.reduceLeDiff, Nat.reduceBEq, Nat.reduceBNe, Int.reduceNeg, Int.reduceAdd, Int.reduceSub, Int.reduceToNat, nilTest, shiftH, Blk.ren, V.ren, renL, initV, frameH, putL, frρ, dI, dW]
    try simp (maxSteps := 2000000) -implicitDefEqProofs only [zz, zE, evop, ev, ofVal, tget, tput, ok, V.isUndef, intBin, guardOf, initT, Ch.on, calleeOf, withArgs, told, xport, xports, tids, tidss, hget, hput, Blk.ice, freeze, V.cells, D.cells, V.isAgg, V.one, V.clo, clos, V.toD, loadD, structAt, eqCells, D.scalarEq, sliceOf, partsD, partsV, bound, isPtr, Blk.width, elems, lenOf, splice, D.over, resOf, resV, resVs, ↓reduceIte, reduceCtorEq, ↓reduceDIte, Nat.reduceLT, Nat.reduceEqDiff, Nat.reduceAdd, Nat.reduceSub, Nat.reduceMul, Nat.reduceLeDiff, Nat.reduceBEq, Nat.reduceBNe, Int.reduceNeg, Int.reduceAdd, Int.reduceSub, Int.reduceToNat, nilTest, shiftH, Blk.ren, V.ren, renL, initV, frameH, putL, frρ, dI, dW, e00]
    refine wloop_count l.length (fun j => [(91, .d (.int .i64 j)), (90, .d (.int .i64 l.length)), (89, .d (.vec (l.map dW))), (18, .d (.bool ((l.take j).any fun x => x.1 == who && x.2 == w.now + k))), (16, .d (.vec (l.map dW))), (5, .ptr 0 0 0), (15, .ptr 2 0 0), (1, .d (.int .i64 who)), (2, .d (.int .i64 k)), (3, .d (.int .i64 t))]) (fun _ => [.box false [.d (.int .i64 w.now), .d (.vec d0), .d (.vec d1), .d (.vec d2), .d (.vec d3), .d (.vec d4), .d (.vec d5), .d (.vec d6), .d (.vec d7)], .box false [.d (.int .i64 a.now), .d (.vec a0), .d (.vec a1), .d (.vec a2), .d (.vec a3), .d (.vec a4), .d (.vec a5), .d (.vec a6), .d (.vec a7)], .box false [.d (.int .i64 b.now), .d (.vec b0), .d (.vec b1), .d (.vec b2), .d (.vec b3), .d (.vec b4), .d (.vec b5), .d (.vec b6), .d (.vec b7)]]) (fun _ => True) trivial (Weak.sub (by simp [tget])) (fun j hj _ => ?_) (fun _ => ?_)
    · have hx : l[j]? = some l[j] := List.getElem?_eq_getElem hj
      have hT : l.take (j + 1) = l.take j ++ [l[j]] := by rw [List.take_succ, hx]; rfl
      rw [hT, List.any_append]
      generalize l[j] = x at hx
      generalize (l.take j).any (fun x => x.1 == who && x.2 == w.now + k) = q
      have hjl : ((j : Int) < (l.length : Int)) := by omega
      have hwj : IntKind.i64.wrap ((j : Int) + 1) = ((j + 1 : Nat) : Int) := by rw [wrap_in (by omega)]; omega
      cases q with
      | true =>
        try simp (maxSteps := 2000000) -implicitDefEqProofs only [zz, zE, evop, ev, ofVal, tget, tput, ok, V.isUndef, intBin, guardOf, initT, Ch.on, calleeOf, withArgs, told, xport, xports, tids, tidss, hget, hput, Blk.ice, freeze, V.cells, D.cells, V.isAgg, V.one, V.clo, clos, V.toD, loadD, structAt, eqCells, D.scalarEq, sliceOf, partsD, partsV, bound, isPtr, Blk.width, elems, lenOf, splice, D.over, resOf, resV, resVs, ↓reduceIte, reduceCtorEq, ↓reduceDIte, Nat.reduceLT, Nat.reduceEqDiff, Nat.reduceAdd, Nat.reduceSub, Nat.reduceMul, Nat.reduceLeDiff, Nat.reduceBEq, Nat.reduceBNe, Int.reduceNeg, Int.reduceAdd, Int.reduceSub, Int.reduceToNat, nilTest, shiftH, Blk.ren, V.ren, renL, initV, frameH, putL, frρ, dI, dW, hjl, List.getElem?_map, hx, Option.map_some, Int.natCast_nonneg, hwj]
        exact Weak.trims 3 rfl (by simp [tget, V.lower]) (by simp [Blk.lower, lowerL, V.lower])
      | false =>
        cases q1 : (x.1 == who) with
        | false =>
          try simp (maxSteps := 2000000) -implicitDefEqProofs only [zz, zE, evop, ev, ofVal, tget, tput, ok, V.isUndef, intBin, guardOf, initT, Ch.on, calleeOf, withArgs, told, xport, xports, tids, tidss, hget, hput, Blk.ice, freeze, V.cells, D.cells, V.isAgg, V.one, V.clo, clos, V.toD, loadD, structAt, eqCells, D.scalarEq, sliceOf, partsD, partsV, bound, isPtr, Blk.width, elems, lenOf, splice, D.over, resOf, resV, resVs, ↓reduceIte, reduceCtorEq, ↓reduceDIte, Nat.reduceLT, Nat.reduceEqDiff, Nat.reduceAdd, Nat.reduceSub, Nat.reduceMul, Nat.reduceLeDiff, Nat.reduceBEq, Nat.reduceBNe, Int.reduceNeg, Int.reduceAdd, Int.reduceSub, Int.reduceToNat, nilTest, shiftH, Blk.ren, V.ren, renL, initV, frameH, putL, frρ, dI, dW, hjl, List.getElem?_map, hx, Option.map_some, Int.natCast_nonneg, hwj, q1]
          exact Weak.trims 3 rfl (by simp [tget, V.lower, q1]) (by simp [Blk.lower, lowerL, V.lower])
        | true =>
          try simp (maxSteps := 2000000) -implicitDefEqProofs only [zz, zE, evop, ev, ofVal, tget, tput, ok, V.isUndef, intBin, guardOf, initT, Ch.on, calleeOf, withArgs, told, xport, xports, tids, tidss, hget, hput, Blk.ice, freeze, V.cells, D.cells, V.isAgg, V.one, V.clo, clos, V.toD, loadD, structAt, eqCells, D.scalarEq, sliceOf, partsD, partsV, bound, isPtr, Blk.width, elems, lenOf, splice, D.over, resOf, resV, resVs, ↓reduceIte, reduceCtorEq, ↓reduceDIte, Nat.reduceLT, Nat.reduceEqDiff, Nat.reduceAdd, Nat.reduceSub, Nat.reduceMul, Nat.reduceLeDiff, Nat.reduceBEq, Nat.reduceBNe, Int.reduceNeg, Int.reduceAdd, Int.reduceSub, Int.reduceToNat, nilTest, shiftH, Blk.ren, V.ren, renL, initV, frameH, putL, frρ, dI, dW, hjl, List.getElem?_map, hx, Option.map_some, Int.natCast_nonneg, hwj, q1, hwk]
          exact Weak.trims 3 rfl (by simp [tget, V.lower, q1]) (by simp [Blk.lower, lowerL, V.lower])
    · have hjl : ¬ ((l.length : Int) < (l.length : Int)) := by omega
      rw [hll, htold]
      try simp (maxSteps := 2000000) -implicitDefEqProofs only [zz, zE, evop, ev, ofVal, tget, tput, ok, V.isUndef, intBin, guardOf, initT, Ch.on, calleeOf, withArgs, told, xport, xports, tids, tidss, hget, hput, Blk.ice, freeze, V.cells, D.cells, V.isAgg, V.one, V.clo, clos, V.toD, loadD, structAt, eqCells, D.scalarEq, sliceOf, partsD, partsV, bound, isPtr, Blk.width, elems, lenOf, splice, D.over, resOf, resV, resVs, ↓reduceIte, reduceCtorEq, ↓reduceDIte, Nat.reduceLT, Nat.reduceEqDiff, Nat.reduceAdd, Nat.reduceSub, Nat.reduceMul, Nat.reduceLeDiff, Nat.reduceBEq, Nat.reduceBNe, Int.reduceNeg, Int.reduceAdd, Int.reduceSub, Int.reduceToNat, nilTest, shiftH, Blk.ren, V.ren, renL, initV, frameH, putL, frρ, dI, dW, hjl]
      refine acall_ice' (C2) ?_
      try simp (maxSteps := 2000000) -implicitDefEqProofs only [zz, zE, evop, ev, ofVal, tget, tput, ok, V.isUndef, intBin, guardOf, initT, Ch.on, calleeOf, withArgs, told, xport, xports, tids, tidss, hget, hput, Blk.ice, freeze, V.cells, D.cells, V.isAgg, V.one, V.clo, clos, V.toD, loadD, structAt, eqCells, D.scalarEq, sliceOf, partsD, partsV, bound, isPtr, Blk.width, elems, lenOf, splice, D.over, resOf, resV, resVs, ↓reduceIte, reduceCtorEq, ↓reduceDIte, Nat.reduceLT, Nat.reduceEqDiff, Nat.reduceAdd, Nat.reduceSub, Nat.reduceMul, Nat.reduceLeDiff, Nat.reduceBEq, Nat.reduceBNe, Int.reduceNeg, Int.reduceAdd, Int.reduceSub, Int.reduceToNat, nilTest, shiftH, Blk.ren, V.ren, renL, initV, frameH, putL, frρ, dI, dW]
      refine wdraw_plan [⟨[], false, [119, 120, 121], [], false⟩, ⟨[], false, [118, 120], [0], false⟩, ⟨[], false, [118, 119], [0, 1], false⟩, ⟨[1, 2], false, [118], [0], false⟩, ⟨[0, 1, 2, 3], true, [], [], false⟩, ⟨[0, 1, 2, 3, 4], true, [], [], false⟩, ⟨[0, 1, 2, 3, 4, 5], false, [126, 127], [], false⟩, ⟨[0, 1, 2, 3, 4, 5, 6], false, [126, 127], [], false⟩, ⟨[0, 1, 2, 3, 4, 5], false, [124, 125], [6, 7], false⟩, ⟨[0, 1, 2, 3, 4, 5, 8], false, [124, 125], [6, 7], false⟩, ⟨[0, 1, 2, 3, 4, 5, 6, 7, 8, 9], false, [], [], false⟩, ⟨[0, 1, 2, 3, 4, 5, 6, 7, 8, 9, 10], true, [], [], false⟩, ⟨[0, 1, 2, 3, 4, 5, 6, 7, 8, 9, 10, 11], true, [], [], false⟩, ⟨[0, 1, 2, 3, 4, 5, 6, 7, 8, 9, 10, 11, 12], false, [133, 134, 135, 137, 138, 139, 140], [], false⟩, ⟨[0, 1, 2, 3, 4, 5, 6, 7, 8, 9, 10, 11, 12, 13], false, [133, 134, 135, 137, 138, 139, 140], [], false⟩, ⟨[0, 1, 2, 3, 4, 5, 6, 7, 8, 9, 10, 11, 12], false, [131, 132, 137], [13, 14], false⟩, ⟨[0, 1, 2, 3, 4, 5, 6, 7, 8, 9, 10, 11, 12, 15], false, [131, 132, 137], [13, 14], false⟩, ⟨[0, 1, 2, 3, 4, 5, 6, 7, 8, 9, 10, 11, 12, 15, 16], false, [131, 132, 137, 138, 139, 140], [13, 14], false⟩, ⟨[0, 1, 2, 3, 4, 5, 6, 7, 8, 9, 10, 11, 12, 13, 14, 15, 16, 17], false, [137, 138, 139, 140], [], false⟩, ⟨[0, 1, 2, 3, 4, 5, 6, 7, 8, 9, 10, 11, 12], false, [131, 132, 133, 134, 135, 136], [13, 14, 15, 16, 17, 18], false⟩, ⟨[0, 1, 2, 3, 4, 5, 6, 7, 8, 9, 10, 11, 12, 15, 16, 19], false, [131, 132, 135, 136], [13, 14, 17, 18], false⟩, ⟨[0, 1, 2, 3, 4, 5, 6, 7, 8, 9, 10, 11, 12, 15, 16, 19, 20], false, [131, 132, 135, 136], [13, 14, 17, 18], false⟩, ⟨[0, 1, 2, 3, 4, 5, 6, 7, 8, 9, 10, 11, 12, 15, 16, 19, 20, 21], false, [131, 132, 135, 136], [13, 14, 17, 18], false⟩, ⟨[0, 1, 2, 3, 4, 5, 6, 7, 8, 9, 10, 11, 12, 13, 14, 15, 16, 17, 18, 19, 20, 21, 22], false, [], [], false⟩, ⟨[0, 1, 2, 3, 4, 5, 6, 7, 8, 9, 10, 11, 12, 13, 14, 15, 16, 17, 18, 19, 20, 21, 22, 23], true, [], [], false⟩, ⟨[0, 1, 2, 3, 4, 5, 6, 7, 8, 9, 10, 11, 12, 13, 14, 15, 16, 17, 18, 19, 20, 21, 22, 23, 24], true, [], [], false⟩, ⟨[0, 1, 2, 3, 4, 5, 6, 7, 8, 9, 10, 11, 12, 13, 14, 15, 16, 17, 18, 19, 20, 21, 22, 23, 24, 25], false, [], [], false⟩, ⟨[0, 1, 2, 3, 4, 5, 6, 7, 8, 9, 10, 11, 12, 13, 14, 15, 16, 17, 18, 19, 20, 21, 22, 23, 24, 25, 26], true, [], [], false⟩, ⟨[0, 1, 2, 3, 4, 5, 6, 7, 8, 9, 10, 11, 12, 13, 14, 15, 16, 17, 18, 19, 20, 21, 22, 23, 24, 25, 26, 27], true, [], [], false⟩] (by kernel_rfl) ?_
      have hw1 : IntKind.i64.wrap ((l.length : Int) + ((itemsW b).length : Int)) = ((itemsW w).length : Int) + 1 := by rw [wrap_in (by omega)]; omega
      have hw2 : IntKind.i64.wrap (((itemsW w).length : Int) + 1) = ((itemsW w).length : Int) + 1 := by rw [wrap_in (by omega)]
      have qq : ∀ z : Int, (z == z) = true := fun z => by simp
      have hbt : (true == true) = true := rfl
      have hbf : (false == false) = true := rfl
      have e30 : ((3 : Int) == 0) = false := by decide
      by_cases hkt : k ≤ t
      · have hkt' : t ≥ k := hkt
        try simp (maxSteps := 2000000) -implicitDefEqProofs only [zz, zE, evop, ev, ofVal, tget, tput, ok, V.isUndef, intBin, guardOf, initT, Ch.on, calleeOf, withArgs, told, xport, xports, tids, tidss, hget, hput, Blk.ice, freeze, V.cells, D.cells, V.isAgg, V.one, V.clo, clos, V.toD, loadD, structAt, eqCells, D.scalarEq, sliceOf, partsD, partsV, bound, isPtr, Blk.width, elems, lenOf, splice, D.over, resOf, resV, resVs, ↓reduceIte, reduceCtorEq, ↓reduceDIte, Nat.reduceLT, Nat.reduceEqDiff, Nat.reduceAdd, Nat.reduceSub, Nat.reduceMul, Nat.reduceLeDiff, Nat.reduceBEq, Nat.reduceBNe, Int.reduceNeg, Int.reduceAdd, Int.reduceSub, Int.reduceToNat, nilTest, shiftH, Blk.ren, V.ren, renL, initV, frameH, putL, frρ, dI, dW, hkt, hkt', hbt, hbf, e30, e01]
        first | refine acall_flat' (I2) rfl ?_ | refine dcall_flat' (I2) rfl ?_ | refine acall_ice' (I2) ?_ | refine dcall_still' (I2) rfl ?_
        try simp (maxSteps := 2000000) -implicitDefEqProofs only [zz, zE, evop, ev, ofVal, tget, tput, ok, V.isUndef, intBin, guardOf, initT, Ch.on, calleeOf, withArgs, told, xport, xports, tids, tidss, hget, hput, Blk.ice, freeze, V.cells, D.cells, V.isAgg, V.one, V.clo, clos, V.toD, loadD, structAt, eqCells, D.scalarEq, sliceOf, partsD, partsV, bound, isPtr, Blk.width, elems, lenOf, splice, D.over, resOf, resV, resVs, ↓reduceIte, reduceCtorEq, ↓reduceDIte, Nat.reduceLT, Nat.reduceEqDiff, Nat.reduceAdd, Nat.reduceSub, Nat.reduceMul, Nat.reduceLeDiff, Nat.reduceBEq, Nat.reduceBNe, Int.reduceNeg, Int.reduceAdd, Int.reduceSub, Int.reduceToNat, nilTest, shiftH, Blk.ren, V.ren, renL, initV, frameH, putL, frρ, dI, dW]
        try simp (maxSteps := 2000000) -implicitDefEqProofs only [zz, zE, evop, ev, ofVal, tget, tput, ok, V.isUndef, intBin, guardOf, initT, Ch.on, calleeOf, withArgs, told, xport, xports, tids, tidss, hget, hput, Blk.ice, freeze, V.cells, D.cells, V.isAgg, V.one, V.clo, clos, V.toD, loadD, structAt, eqCells, D.scalarEq, sliceOf, partsD, partsV, bound, isPtr, Blk.width, elems, lenOf, splice, D.over, resOf, resV, resVs, ↓reduceIte, reduceCtorEq, ↓reduceDIte, Nat.reduceLT, Nat.reduceEqDiff, Nat.reduceAdd, Nat.reduceSub, Nat.reduceMul, Nat.reduceLeDiff, Nat.reduceBEq, Nat.reduceBNe, Int.reduceNeg, Int.reduceAdd, Int.reduceSub, Int.reduceToNat, nilTest, shiftH, Blk.ren, V.ren, renL, initV, frameH, putL, frρ, dI, dW]
        first | refine acall_flat' (W5) rfl ?_ | refine dcall_flat' (W5) rfl ?_ | refine acall_ice' (W5) ?_ | refine dcall_still' (W5) rfl ?_
        try simp (maxSteps := 2000000) -implicitDefEqProofs only [zz, zE, evop, ev, ofVal, tget, tput, ok, V.isUndef, intBin, guardOf, initT, Ch.on, calleeOf, withArgs, told, xport, xports, tids, tidss, hget, hput, Blk.ice, freeze, V.cells, D.cells, V.isAgg, V.one, V.clo, clos, V.toD, loadD, structAt, eqCells, D.scalarEq, sliceOf, partsD, partsV, bound, isPtr, Blk.width, elems, lenOf, splice, D.over, resOf, resV, resVs, ↓reduceIte, reduceCtorEq, ↓reduceDIte, Nat.reduceLT, Nat.reduceEqDiff, Nat.reduceAdd, Nat.reduceSub, Nat.reduceMul, Nat.reduceLeDiff, Nat.reduceBEq, Nat.reduceBNe, Int.reduceNeg, Int.reduceAdd, Int.reduceSub, Int.reduceToNat, nilTest, shiftH, Blk.ren, V.ren, renL, initV, frameH, putL, frρ, dI, dW]
        try simp (maxSteps := 2000000) -implicitDefEqProofs only [zz, zE, evop, ev, ofVal, tget, tput, ok, V.isUndef, intBin, guardOf, initT, Ch.on, calleeOf, withArgs, told, xport, xports, tids, tidss, hget, hput, Blk.ice, freeze, V.cells, D.cells, V.isAgg, V.one, V.clo, clos, V.toD, loadD, structAt, eqCells, D.scalarEq, sliceOf, partsD, partsV, bound, isPtr, Blk.width, elems, lenOf, splice, D.over, resOf, resV, resVs, ↓reduceIte, reduceCtorEq, ↓reduceDIte, Nat.reduceLT, Nat.reduceEqDiff, Nat.reduceAdd, Nat.reduceSub, Nat.reduceMul, Nat.reduceLeDiff, Nat.reduceBEq, Nat.reduceBNe, Int.reduceNeg, Int.reduceAdd, Int.reduceSub, Int.reduceToNat, nilTest, shiftH, Blk.ren, V.ren, renL, initV, frameH, putL, frρ, dI, dW, hw1, hw2, qq]
        first | refine acall_flat' (c_awake17) rfl ?_ | refine dcall_flat' (c_awake17) rfl ?_ | refine acall_ice' (c_awake17) ?_ | refine dcall_still' (c_awake17) rfl ?_
        try simp (maxSteps := 2000000) -implicitDefEqProofs only [zz, zE, evop, ev, ofVal, tget, tput, ok, V.isUndef, intBin, guardOf, initT, Ch.on, calleeOf, withArgs, told, xport, xports, tids, tidss, hget, hput, Blk.ice, freeze, V.cells, D.cells, V.isAgg, V.one, V.clo, clos, V.toD, loadD, structAt, eqCells, D.scalarEq, sliceOf, partsD, partsV, bound, isPtr, Blk.width, elems, lenOf, splice, D.over, resOf, resV, resVs, ↓reduceIte, reduceCtorEq, ↓reduceDIte, Nat.reduceLT, Nat.reduceEqDiff, Nat.reduceAdd, Nat.reduceSub, Nat.reduceMul, Nat.reduceLeDiff, Nat.reduceBEq, Nat.reduceBNe, Int.reduceNeg, Int.reduceAdd, Int.reduceSub, Int.reduceToNat, nilTest, shiftH, Blk.ren, V.ren, renL, initV, frameH, putL, frρ, dI, dW]
      · have hkt' : ¬ t ≥ k := hkt
        try simp (maxSteps := 2000000) -implicitDefEqProofs only [zz, zE, evop, ev, ofVal, tget, tput, ok, V.isUndef, intBin, guardOf, initT, Ch.on, calleeOf, withArgs, told, xport, xports, tids, tidss, hget, hput, Blk.ice, freeze, V.cells, D.cells, V.isAgg, V.one, V.clo, clos, V.toD, loadD, structAt, eqCells, D.scalarEq, sliceOf, partsD, partsV, bound, isPtr, Blk.width, elems, lenOf, splice, D.over, resOf, resV, resVs, ↓reduceIte, reduceCtorEq, ↓reduceDIte, Nat.reduceLT, Nat.reduceEqDiff, Nat.reduceAdd, Nat.reduceSub, Nat.reduceMul, Nat.reduceLeDiff, Nat.reduceBEq, Nat.reduceBNe, Int.reduceNeg, Int.reduceAdd, Int.reduceSub, Int.reduceToNat, nilTest, shiftH, Blk.ren, V.ren, renL, initV, frameH, putL, frρ, dI, dW, hkt, hkt', hbt, hbf, e30, e01]
        first | refine acall_flat' (I2) rfl ?_ | refine dcall_flat' (I2) rfl ?_ | refine acall_ice' (I2) ?_ | refine dcall_still' (I2) rfl ?_
        try simp (maxSteps := 2000000) -implicitDefEqProofs only [zz, zE, evop, ev, ofVal, tget, tput, ok, V.isUndef, intBin, guardOf, initT, Ch.on, calleeOf, withArgs, told, xport, xports, tids, tidss, hget, hput, Blk.ice, freeze, V.cells, D.cells, V.isAgg, V.one, V.clo, clos, V.toD, loadD, structAt, eqCells, D.scalarEq, sliceOf, partsD, partsV, bound, isPtr, Blk.width, elems, lenOf, splice, D.over, resOf, resV, resVs, ↓reduceIte, reduceCtorEq, ↓reduceDIte, Nat.reduceLT, Nat.reduceEqDiff, Nat.reduceAdd, Nat.reduceSub, Nat.reduceMul, Nat.reduceLeDiff, Nat.reduceBEq, Nat.reduceBNe, Int.reduceNeg, Int.reduceAdd, Int.reduceSub, Int.reduceToNat, nilTest, shiftH, Blk.ren, V.ren, renL, initV, frameH, putL, frρ, dI, dW]
        try simp (maxSteps := 2000000) -implicitDefEqProofs only [zz, zE, evop, ev, ofVal, tget, tput, ok, V.isUndef, intBin, guardOf, initT, Ch.on, calleeOf, withArgs, told, xport, xports, tids, tidss, hget, hput, Blk.ice, freeze, V.cells, D.cells, V.isAgg, V.one, V.clo, clos, V.toD, loadD, structAt, eqCells, D.scalarEq, sliceOf, partsD, partsV, bound, isPtr, Blk.width, elems, lenOf, splice, D.over, resOf, resV, resVs, ↓reduceIte, reduceCtorEq, ↓reduceDIte, Nat.reduceLT, Nat.reduceEqDiff, Nat.reduceAdd, Nat.reduceSub, Nat.reduceMul, Nat.reduceLeDiff, Nat.reduceBEq, Nat.reduceBNe, Int.reduceNeg, Int.reduceAdd, Int.reduceSub, Int.reduceToNat, nilTest, shiftH, Blk.ren, V.ren, renL, initV, frameH, putL, frρ, dI, dW]
        first | refine acall_flat' (W5) rfl ?_ | refine dcall_flat' (W5) rfl ?_ | refine acall_ice' (W5) ?_ | refine dcall_still' (W5) rfl ?_
        try simp (maxSteps := 2000000) -implicitDefEqProofs only [zz, zE, evop, ev, ofVal, tget, tput, ok, V.isUndef, intBin, guardOf, initT, Ch.on, calleeOf, withArgs, told, xport, xports, tids, tidss, hget, hput, Blk.ice, freeze, V.cells, D.cells, V.isAgg, V.one, V.clo, clos, V.toD, loadD, structAt, eqCells, D.scalarEq, sliceOf, partsD, partsV, bound, isPtr, Blk.width, elems, lenOf, splice, D.over, resOf, resV, resVs, ↓reduceIte, reduceCtorEq, ↓reduceDIte, Nat.reduceLT, Nat.reduceEqDiff, Nat.reduceAdd, Nat.reduceSub, Nat.reduceMul, Nat.reduceLeDiff, Nat.reduceBEq, Nat.reduceBNe, Int.reduceNeg, Int.reduceAdd, Int.reduceSub, Int.reduceToNat, nilTest, shiftH, Blk.ren, V.ren, renL, initV, frameH, putL, frρ, dI, dW]
        try simp (maxSteps := 2000000) -implicitDefEqProofs only [zz, zE, evop, ev, ofVal, tget, tput, ok, V.isUndef, intBin, guardOf, initT, Ch.on, calleeOf, withArgs, told, xport, xports, tids, tidss, hget, hput, Blk.ice, freeze, V.cells, D.cells, V.isAgg, V.one, V.clo, clos, V.toD, loadD, structAt, eqCells, D.scalarEq, sliceOf, partsD, partsV, bound, isPtr, Blk.width, elems, lenOf, splice, D.over, resOf, resV, resVs, ↓reduceIte, reduceCtorEq, ↓reduceDIte, Nat.reduceLT, Nat.reduceEqDiff, Nat.reduceAdd, Nat.reduceSub, Nat.reduceMul, Nat.reduceLeDiff, Nat.reduceBEq, Nat.reduceBNe, Int.reduceNeg, Int.reduceAdd, Int.reduceSub, Int.reduceToNat, nilTest, shiftH, Blk.ren, V.ren, renL, initV, frameH, putL, frρ, dI, dW, hw1, hw2, qq]
        first | refine acall_flat' (c_awake17) rfl ?_ | refine dcall_flat' (c_awake17) rfl ?_ | refine acall_ice' (c_awake17) ?_ | refine dcall_still' (c_awake17) rfl ?_
        try simp (maxSteps := 2000000) -implicitDefEqProofs only [zz, zE, evop, ev, ofVal, tget, tput, ok, V.isUndef, intBin, guardOf, initT, Ch.on, calleeOf, withArgs, told, xport, xports, tids, tidss, hget, hput, Blk.ice, freeze, V.cells, D.cells, V.isAgg, V.one, V.clo, clos, V.toD, loadD, structAt, eqCells, D.scalarEq, sliceOf, partsD, partsV, bound, isPtr, Blk.width, elems, lenOf, splice, D.over, resOf, resV, resVs, ↓reduceIte, reduceCtorEq, ↓reduceDIte, Nat.reduceLT, Nat.reduceEqDiff, Nat.reduceAdd, Nat.reduceSub, Nat.reduceMul, Nat.reduceLeDiff, Nat.reduceBEq, Nat.reduceBNe, Int.reduceNeg, Int.reduceAdd, Int.reduceSub, Int.reduceToNat, nilTest, shiftH, Blk.ren, V.ren, renL, initV, frameH, putL, frρ, dI, dW]
end Go.Proofs.Ytaejlmengfahnaa.AM

set_option linter.all false
namespace Go.Proofs.Ytaejlmengfahnaa.AM
open Go Go.RowKit
def zy := And.intro (And.intro (And.intro (And.intro (And.intro (And.intro (And.intro (@z00) (And.intro (@z01) (@z02))) (And.intro (@z03) (And.intro (@z04) (@z05)))) (And.intro (And.intro (@z06) (And.intro (@z07) (@z08))) (And.intro (And.intro (@z09) (@z0a)) (And.intro (@z0b) (@z0c))))) (And.intro (And.intro (And.intro (@z0d) (And.intro (@z0e) (@z0f))) (And.intro (@z0g) (And.intro (@z0h) (@z0i)))) (And.intro (And.intro (@z0j) (And.intro (@z0k) (@z0l))) (And.intro (And.intro (@z0m) (@z0n)) (And.intro (@z0o) (@z0p)))))) (And.intro (And.intro (And.intro (And.intro (@z0q) (And.intro (@z0r) (@z0s))) (And.intro (@z0t) (And.intro (@z0u) (@z0v)))) (And.intro (And.intro (@z0w) (And.intro (@z0x) (@z0y))) (And.intro (And.intro (@z0z) (@z10)) (And.intro (@z11) (@z12))))) (And.intro (And.intro (And.intro (@z13) (And.intro (@z14) (@z15))) (And.intro (@z16) (And.intro (@z17) (@z18)))) (And.intro (And.intro (@z19) (And.intro (@z1a) (@z1b))) (And.intro (And.intro (@z1c) (@z1d)) (And.intro (@z1e) (@z1f))))))) (And.intro (And.intro (And.intro (And.intro (And.intro (@z1g) (And.intro (@z1h) (@z1i))) (And.intro (@z1j) (And.intro (@z1k) (@z1l)))) (And.intro (And.intro (@z1m) (And.intro (@z1n) (@z1o))) (And.intro (And.intro (@z1p) (@z1q)) (And.intro (@z1r) (@z1s))))) (And.intro (And.intro (And.intro (@z1t) (And.intro (@z1u) (@z1v))) (And.intro (@z1w) (And.intro (@z1x) (@z1y)))) (And.intro (And.intro (@z1z) (And.intro (@z20) (@z21))) (And.intro (And.intro (@z22) (@z23)) (And.intro (@z24) (@z25)))))) (And.intro (And.intro (And.intro (And.intro (@z26) (And.intro (@z27) (@z28))) (And.intro (@z29) (And.intro (@z2a) (@z2b)))) (And.intro (And.intro (@z2f) (And.intro (@z2g) (@z2h))) (And.intro (And.intro (@z2i) (@z2j)) (And.intro (@z2k) (@z2l))))) (And.intro (And.intro (And.intro (@z2m) (And.intro (@z2n) (@z2o))) (And.intro (And.intro (@z2p) (@z2q)) (And.intro (@z2r) (@z2s)))) (And.intro (And.intro (@z2t) (And.intro (@z2u) (@z2v))) (And.intro (And.intro (@z2w) (@z2x)) (And.intro (@z2y) (@z2z)))))))) (And.intro (And.intro (And.intro (And.intro (And.intro (And.intro (@z30) (And.intro (@z31) (@z32))) (And.intro (@z33) (And.intro (@z34) (@z35)))) (And.intro (And.intro (@z36) (And.intro (@z37) (@z38))) (And.intro (And.intro (@z39) (@z3a)) (And.intro (@z3b) (@z3c))))) (And.intro (And.intro (And.intro (@z3d) (And.intro (@z3e) (@z3f))) (And.intro (@z3g) (And.intro (@z3h) (@z3i)))) (And.intro (And.intro (@z3j) (And.intro (@z3k) (@z3l))) (And.intro (And.intro (@z3m) (@z3n)) (And.intro (@z3o) (@z3p)))))) (And.intro (And.intro (And.intro (And.intro (@z3q) (And.intro (@z3r) (@z3s))) (And.intro (@z3t) (And.intro (@z3u) (@z3v)))) (And.intro (And.intro (@z3w) (And.intro (@z3x.{0}) (@z3y.{0}))) (And.intro (And.intro (@z3z.{0}) (@z40)) (And.intro (@z41) (@z42))))) (And.intro (And.intro (And.intro (@z43) (And.intro (@z44) (@z45))) (And.intro (@z46) (And.intro (@z47) (@z48)))) (And.intro (And.intro (@z49) (And.intro (@z4a.{0}) (@z4b.{0}))) (And.intro (And.intro (@z4c.{0, 0}) (@z4d.{0, 0})) (And.intro (@z4e.{0}) (@z4f.{0}))))))) (And.intro (And.intro (And.intro (And.intro (And.intro (@z4g.{0}) (And.intro (@z4h.{0}) (@z4i.{0}))) (And.intro (@z4j) (And.intro (@z4k) (@z4l)))) (And.intro (And.intro (@z4m) (And.intro (@z4n) (@z4o))) (And.intro (And.intro (@z4p) (@z4q)) (And.intro (@z4r.{0}) (@z4s.{0}))))) (And.intro (And.intro (And.intro (@z4t.{0}) (And.intro (@z4u.{0}) (@z4v.{0}))) (And.intro (@z4w.{0}) (And.intro (@z4x.{0}) (@z4y.{0})))) (And.intro (And.intro (@z4z.{0}) (And.intro (@z50.{0}) (@z51.{0}))) (And.intro (And.intro (@z52.{0}) (@z53.{0, 0})) (And.intro (@z54) (@z55)))))) (And.intro (And.intro (And.intro (And.intro (@z56) (And.intro (@z57) (@z58))) (And.intro (@z59) (And.intro (@z5a.{0}) (@z5b.{0})))) (And.intro (And.intro (@z5c) (And.intro (@z5d.{0}) (@z5e.{0}))) (And.intro (And.intro (@z5f.{0}) (@z5g.{0})) (And.intro (@z5h.{0}) (@z5i.{0}))))) (And.intro (And.intro (And.intro (@z5j.{0}) (And.intro (@z60) (@z61))) (And.intro (And.intro (@z62) (@z63)) (And.intro (@z64) (@z65)))) (And.intro (And.intro (@z66) (And.intro (@z67) (@z68))) (And.intro (And.intro (@z70) (@z71)) (And.intro (@z72) (@z73))))))))
end Go.Proofs.Ytaejlmengfahnaa.AM

set_option linter.all false
set_option maxRecDepth 100000
set_option maxHeartbeats 8000000
namespace Go.Proofs.Ytaejlmengfahnaa.AM
open Go Go.RowKit

theorem ins_not2 {S : List (Int × Int)} (hs : Srt S) {who t : Int} (h : ∀ x ∈ S, (x.1 == who) = false) : (insI (who, t) S).filter (fun x => !(x.1 == who && x.2 == t)) = S := by
  rw [filter_insI hs]
  have : (!((who, t).1 == who && (who, t).2 == t)) = false := by simp
  rw [if_neg (by rw [this]; decide)]
  exact List.filter_eq_self.2 (fun x hx => by rw [h x hx]; rfl)

theorem c_WheelItems (w : Wh) (who k : Int) (hs : w.slots.length = 8) (hL : ∀ l ∈ w.slots, l.length < 9223372036854775808) : CSpec Try.prog 6 [dWh w, .int .i64 who, .int .i64 k] (.bool true) := by
  have S0 := c_small w hs hL
  obtain ⟨d0, d1, d2, d3, d4, d5, d6, d7, e⟩ := wh8 w hs
  cases hsm : smallW w with
  | false =>
    rw [hsm] at S0
    rw [e] at S0 ⊢
    refine CSpec.of_awp envOf_ok hmix Try.func6 rfl (fun args w => Try.call6 args w) (by simp [Try.f6]) ?_
    simp only [Try.f6]
    simp (maxSteps := 2000000) -implicitDefEqProofs only [zz, zE, evop, ev, ofVal, tget, tput, ok, V.isUndef, intBin, guardOf, initT, Ch.on, calleeOf, withArgs, told, xport, xports, tids, tidss, hget, hput, Blk.ice, freeze, V.cells, D.cells, V.isAgg, V.one, V.clo, clos, V.toD, loadD, structAt, eqCells, D.scalarEq, sliceOf, partsD, partsV, bound, isPtr, Blk.width, elems, lenOf, splice, D.over, resOf, resV, resVs, ↓reduceIte, reduceCtorEq, ↓reduceDIte, Nat.reduceLT, Nat.reduceEqDiff, Nat.reduceAdd, Nat.reduceSub, Nat.reduceMul, Nat.reduceLeDiff, Nat.reduceBEq, Nat.reduceBNe, Int.reduceNeg, Int.reduceAdd, Int.reduceSub, Int.reduceToNat, nilTest, shiftH, Blk.ren, V.ren, renL, initV, frameH, putL, frρ, dI, dW]
    first | refine acall_flat' (S0) rfl ?_ | refine dcall_flat' (S0) rfl ?_ | refine acall_ice' (S0) ?_ | refine dcall_still' (S0) rfl ?_
    try simp (maxSteps := 2000000) -implicitDefEqProofs only [zz, zE, evop, ev, ofVal, tget, tput, ok, V.isUndef, intBin, guardOf, initT, Ch.on, calleeOf, withArgs, told, xport, xports, tids, tidss, hget, hput, Blk.ice, freeze, V.cells, D.cells, V.isAgg, V.one, V.clo, clos, V.toD, loadD, structAt, eqCells, D.scalarEq, sliceOf, partsD, partsV, bound, isPtr, Blk.width, elems, lenOf, splice, D.over, resOf, resV, resVs, ↓reduceIte, reduceCtorEq, ↓reduceDIte, Nat.reduceLT, Nat.reduceEqDiff, Nat.reduceAdd, Nat.reduceSub, Nat.reduceMul, Nat.reduceLeDiff, Nat.reduceBEq, Nat.reduceBNe, Int.reduceNeg, Int.reduceAdd, Int.reduceSub, Int.reduceToNat, nilTest, shiftH, Blk.ren, V.ren, renL, initV, frameH, putL, frρ, dI, dW]
    first | refine acall_flat' (c_awake17) rfl ?_ | refine dcall_flat' (c_awake17) rfl ?_ | refine acall_ice' (c_awake17) ?_ | refine dcall_still' (c_awake17) rfl ?_
    try simp (maxSteps := 2000000) -implicitDefEqProofs only [zz, zE, evop, ev, ofVal, tget, tput, ok, V.isUndef, intBin, guardOf, initT, Ch.on, calleeOf, withArgs, told, xport, xports, tids, tidss, hget, hput, Blk.ice, freeze, V.cells, D.cells, V.isAgg, V.one, V.clo, clos, V.toD, loadD, structAt, eqCells, D.scalarEq, sliceOf, partsD, partsV, bound, isPtr, Blk.width, elems, lenOf, splice, D.over, resOf, resV, resVs, ↓reduceIte, reduceCtorEq, ↓reduceDIte, Nat.reduceLT, Nat.reduceEqDiff, Nat.reduceAdd, Nat.reduceSub, Nat.reduceMul, Nat.reduceLeDiff, Nat.reduceBEq, Nat.reduceBNe, Int.reduceNeg, Int.reduceAdd, Int.reduceSub, Int.reduceToNat, nilTest, shiftH, Blk.ren, V.ren, renL, initV, frameH, putL, frρ, dI, dW]
  | true =>
    have hF := fit_small hs hsm
    have R2 := c_wh_Right w hs hF.le
    rw [hsm] at S0
    cases hr : rightB w with
    | false =>
      rw [hr] at R2
      rw [e] at S0 R2 ⊢
      refine CSpec.of_awp envOf_ok hmix Try.func6 rfl (fun args w => Try.call6 args w) (by simp [Try.f6]) ?_
      simp only [Try.f6]
      simp (maxSteps := 2000000) -implicitDefEqProofs only [zz, zE, evop, ev, ofVal, tget, tput, ok, V.isUndef, intBin, guardOf, initT, Ch.on, calleeOf, withArgs, told, xport, xports, tids, tidss, hget, hput, Blk.ice, freeze, V.cells, D.cells, V.isAgg, V.one, V.clo, clos, V.toD, loadD, structAt, eqCells, D.scalarEq, sliceOf, partsD, partsV, bound, isPtr, Blk.width, elems, lenOf, splice, D.over, resOf, resV, resVs, ↓reduceIte, reduceCtorEq, ↓reduceDIte, Nat.reduceLT, Nat.reduceEqDiff, Nat.reduceAdd, Nat.reduceSub, Nat.reduceMul, Nat.reduceLeDiff, Nat.reduceBEq, Nat.reduceBNe, Int.reduceNeg, Int.reduceAdd, Int.reduceSub, Int.reduceToNat, nilTest, shiftH, Blk.ren, V.ren, renL, initV, frameH, putL, frρ, dI, dW]
      first | refine acall_flat' (S0) rfl ?_ | refine dcall_flat' (S0) rfl ?_ | refine acall_ice' (S0) ?_ | refine dcall_still' (S0) rfl ?_
      try simp (maxSteps := 2000000) -implicitDefEqProofs only [zz, zE, evop, ev, ofVal, tget, tput, ok, V.isUndef, intBin, guardOf, initT, Ch.on, calleeOf, withArgs, told, xport, xports, tids, tidss, hget, hput, Blk.ice, freeze, V.cells, D.cells, V.isAgg, V.one, V.clo, clos, V.toD, loadD, structAt, eqCells, D.scalarEq, sliceOf, partsD, partsV, bound, isPtr, Blk.width, elems, lenOf, splice, D.over, resOf, resV, resVs, ↓reduceIte, reduceCtorEq, ↓reduceDIte, Nat.reduceLT, Nat.reduceEqDiff, Nat.reduceAdd, Nat.reduceSub, Nat.reduceMul, Nat.reduceLeDiff, Nat.reduceBEq, Nat.reduceBNe, Int.reduceNeg, Int.reduceAdd, Int.reduceSub, Int.reduceToNat, nilTest, shiftH, Blk.ren, V.ren, renL, initV, frameH, putL, frρ, dI, dW]
      first | refine acall_flat' (R2) rfl ?_ | refine dcall_flat' (R2) rfl ?_ | refine acall_ice' (R2) ?_ | refine dcall_still' (R2) rfl ?_
      try simp (maxSteps := 2000000) -implicitDefEqProofs only [zz, zE, evop, ev, ofVal, tget, tput, ok, V.isUndef, intBin, guardOf, initT, Ch.on, calleeOf, withArgs, told, xport, xports, tids, tidss, hget, hput, Blk.ice, freeze, V.cells, D.cells, V.isAgg, V.one, V.clo, clos, V.toD, loadD, structAt, eqCells, D.scalarEq, sliceOf, partsD, partsV, bound, isPtr, Blk.width, elems, lenOf, splice, D.over, resOf, resV, resVs, ↓reduceIte, reduceCtorEq, ↓reduceDIte, Nat.reduceLT, Nat.reduceEqDiff, Nat.reduceAdd, Nat.reduceSub, Nat.reduceMul, Nat.reduceLeDiff, Nat.reduceBEq, Nat.reduceBNe, Int.reduceNeg, Int.reduceAdd, Int.reduceSub, Int.reduceToNat, nilTest, shiftH, Blk.ren, V.ren, renL, initV, frameH, putL, frρ, dI, dW]
      first | refine acall_flat' (c_awake17) rfl ?_ | refine dcall_flat' (c_awake17) rfl ?_ | refine acall_ice' (c_awake17) ?_ | refine dcall_still' (c_awake17) rfl ?_
      try simp (maxSteps := 2000000) -implicitDefEqProofs only [zz, zE, evop, ev, ofVal, tget, tput, ok, V.isUndef, intBin, guardOf, initT, Ch.on, calleeOf, withArgs, told, xport, xports, tids, tidss, hget, hput, Blk.ice, freeze, V.cells, D.cells, V.isAgg, V.one, V.clo, clos, V.toD, loadD, structAt, eqCells, D.scalarEq, sliceOf, partsD, partsV, bound, isPtr, Blk.width, elems, lenOf, splice, D.over, resOf, resV, resVs, ↓reduceIte, reduceCtorEq, ↓reduceDIte, Nat.reduceLT, Nat.reduceEqDiff, Nat.reduceAdd, Nat.reduceSub, Nat.reduceMul, Nat.reduceLeDiff, Nat.reduceBEq, Nat.reduceBNe, Int.reduceNeg, Int.reduceAdd, Int.reduceSub, Int.reduceToNat, nilTest, shiftH, Blk.ren, V.ren, renL, initV, frameH, putL, frρ, dI, dW]
    | true =>
    rw [hr] at R2
    have hR := (rightB_iff hs).1 hr
    have A1 := c_wh_Set w who k hs hF.le
    have hA := set_fits hF who k
    have hrs := set_two hF who k
    have W3 := c_law17_Ref w hs hF.le
    have W4 := c_r17_Same w w hs hs hF.le hF.le
    have W5 := c_wh_Items w hs hF.le
    rw [sameW_self] at W4
    rw [hr, if_pos rfl] at W5
    have h8 := items_le hr hs
    have L1 := c_law17_Refs (itemsW w) (by omega)
    have L2 := c_r17_List (itemsW w) (itemsW w) (by omega) (by omega)
    rw [decide_eq_true rfl] at L2
    have hsS := hR.sorted
    have huS := hR.whoI
    have hitS : ∀ x ∈ itemsW w, ¬ x.2 ≤ w.now := fun x hx => by have := (hR.item hx).2.2.1; omega
    rw [e] at S0 R2 A1 W3 W4 W5 ⊢
    generalize ha : (setW w who k).1 = a at A1 hA hrs
    generalize (setW w who k).2 = ea at A1 hrs
    refine CSpec.of_awp envOf_ok hmix Try.func6 rfl (fun args w => Try.call6 args w) (by simp [Try.f6]) ?_
    simp only [Try.f6]
    simp (maxSteps := 2000000) -implicitDefEqProofs only [zz, zE, evop, ev, ofVal, tget, tput, ok, V.isUndef, intBin, guardOf, initT, Ch.on, calleeOf, withArgs, told, xport, xports, tids, tidss, hget, hput, Blk.ice, freeze, V.cells, D.cells, V.isAgg, V.one, V.clo, clos, V.toD, loadD, structAt, eqCells, D.scalarEq, sliceOf, partsD, partsV, bound, isPtr, Blk.width, elems, lenOf, splice, D.over, resOf, resV, resVs, ↓reduceIte, reduceCtorEq, ↓reduceDIte, Nat.reduceLT, Nat.reduceEqDiff, Nat.reduceAdd, Nat.reduceSub, Nat.reduceMul, Nat.reduceLeDiff, Nat.reduceBEq, Nat.reduceBNe, Int.reduceNeg, Int.reduceAdd, Int.reduceSub, Int.reduceToNat, nilTest, shiftH, Blk.ren, V.ren, renL, initV, frameH, putL, frρ, dI, dW]
    first | refine acall_flat' (S0) rfl ?_ | refine dcall_flat' (S0) rfl ?_ | refine acall_ice' (S0) ?_ | refine dcall_still' (S0) rfl ?_
    try simp (maxSteps := 2000000) -implicitDefEqProofs only [zz, zE, evop, ev, ofVal, tget, tput, ok, V.isUndef, intBin, guardOf, initT, Ch.on, calleeOf, withArgs, told, xport, xports, tids, tidss, hget, hput, Blk.ice, freeze, V.cells, D.cells, V.isAgg, V.one, V.clo, clos, V.toD, loadD, structAt, eqCells, D.scalarEq, sliceOf, partsD, partsV, bound, isPtr, Blk.width, elems, lenOf, splice, D.over, resOf, resV, resVs, ↓reduceIte, reduceCtorEq, ↓reduceDIte, Nat.reduceLT, Nat.reduceEqDiff, Nat.reduceAdd, Nat.reduceSub, Nat.reduceMul, Nat.reduceLeDiff, Nat.reduceBEq, Nat.reduceBNe, Int.reduceNeg, Int.reduceAdd, Int.reduceSub, Int.reduceToNat, nilTest, shiftH, Blk.ren, V.ren, renL, initV, frameH, putL, frρ, dI, dW]
    first | refine acall_flat' (R2) rfl ?_ | refine dcall_flat' (R2) rfl ?_ | refine acall_ice' (R2) ?_ | refine dcall_still' (R2) rfl ?_
    try simp (maxSteps := 2000000) -implicitDefEqProofs only [zz, zE, evop, ev, ofVal, tget, tput, ok, V.isUndef, intBin, guardOf, initT, Ch.on, calleeOf, withArgs, told, xport, xports, tids, tidss, hget, hput, Blk.ice, freeze, V.cells, D.cells, V.isAgg, V.one, V.clo, clos, V.toD, loadD, structAt, eqCells, D.scalarEq, sliceOf, partsD, partsV, bound, isPtr, Blk.width, elems, lenOf, splice, D.over, resOf, resV, resVs, ↓reduceIte, reduceCtorEq, ↓reduceDIte, Nat.reduceLT, Nat.reduceEqDiff, Nat.reduceAdd, Nat.reduceSub, Nat.reduceMul, Nat.reduceLeDiff, Nat.reduceBEq, Nat.reduceBNe, Int.reduceNeg, Int.reduceAdd, Int.reduceSub, Int.reduceToNat, nilTest, shiftH, Blk.ren, V.ren, renL, initV, frameH, putL, frρ, dI, dW]
    refine acall_ice' (W5) ?_
    try simp (maxSteps := 2000000) -implicitDefEqProofs only [zz, zE, evop, ev, ofVal, tget, tput, ok, V.isUndef, intBin, guardOf, initT, Ch.on, calleeOf, withArgs, told, xport, xports, tids, tidss, hget, hput, Blk.ice, freeze, V.cells, D.cells, V.isAgg, V.one, V.clo, clos, V.toD, loadD, structAt, eqCells, D.scalarEq, sliceOf, partsD, partsV, bound, isPtr, Blk.width, elems, lenOf, splice, D.over, resOf, resV, resVs, ↓reduceIte, reduceCtorEq, ↓reduceDIte, Nat.reduceLT, Nat.reduceEqDiff, Nat.reduceAdd, Nat.reduceSub, Nat.reduceMul, Nat.reduceLeDiff, Nat.reduceBEq, Nat.reduceBNe, Int.reduceNeg, Int.reduceAdd, Int.reduceSub, Int.reduceToNat, nilTest, shiftH, Blk.ren, V.ren, renL, initV, frameH, putL, frρ, dI, dW]
    refine wloop_count (itemsW w).length (fun i => [(31, .d (.int .i64 i)), (30, .d (.int .i64 (itemsW w).length)), (29, .d (.vec ((itemsW w).map dW))), (7, .d (.vec ((itemsW w).map dW))), (3, .ptr 0 0 0), (1, .d (.int .i64 who)), (2, .d (.int .i64 k))]) (fun _ => [.box false [.d (.int .i64 w.now), .d (.vec d0), .d (.vec d1), .d (.vec d2), .d (.vec d3), .d (.vec d4), .d (.vec d5), .d (.vec d6), .d (.vec d7)]]) (fun _ => True) trivial (Weak.sub (by simp [tget])) (fun i hi _ => ?_) (fun _ => ?_)
    · have hx : (itemsW w)[i]? = some (itemsW w)[i] := List.getElem?_eq_getElem hi
      have hxn := hitS _ (List.getElem_mem hi)
      have hz : ∀ z, 0 < i → (itemsW w)[i - 1]? = some z → ltI z (itemsW w)[i] = true := fun z h0 hz => (srt_at hsS hz hx).2 (by omega)
      have hy : ∀ (j : Nat) y, j < i → (itemsW w)[j]? = some y → (y.1 == (itemsW w)[i].1) = false := fun j y hj hy => by
        obtain ⟨hjl, rfl⟩ := List.getElem?_eq_some_iff.1 hy
        have := List.pairwise_iff_getElem.1 huS j i (by simpa using hjl) (by simpa using hi) hj
        simpa using this
      clear hitS
      revert hx hxn hz hy h8
      generalize (itemsW w)[i] = x
      revert hi
      generalize itemsW w = S
      intro hi h8 hx hxn hz hy
      have hil : ((i : Int) < (S.length : Int)) := by omega
      have hwi : IntKind.i64.wrap ((i : Int) + 1) = ((i + 1 : Nat) : Int) := by rw [wrap_in (by omega)]; omega
      simp (maxSteps := 2000000) -implicitDefEqProofs only [zz, zE, evop, ev, ofVal, tget, tput, ok, V.isUndef, intBin, guardOf, initT, Ch.on, calleeOf, withArgs, told, xport, xports, tids, tidss, hget, hput, Blk.ice, freeze, V.cells, D.cells, V.isAgg, V.one, V.clo, clos, V.toD, loadD, structAt, eqCells, D.scalarEq, sliceOf, partsD, partsV, bound, isPtr, Blk.width, elems, lenOf, splice, D.over, resOf, resV, resVs, ↓reduceIte, reduceCtorEq, ↓reduceDIte, Nat.reduceLT, Nat.reduceEqDiff, Nat.reduceAdd, Nat.reduceSub, Nat.reduceMul, Nat.reduceLeDiff, Nat.reduceBEq, Nat.reduceBNe, Int.reduceNeg, Int.reduceAdd, Int.reduceSub, Int.reduceToNat, nilTest, shiftH, Blk.ren, V.ren, renL, initV, frameH, putL, frρ, dI, dW, hil, List.getElem?_map, hx, Option.map_some, Int.natCast_nonneg]
      have hxf : decide (x.2 ≤ w.now) = false := by simpa using hxn
      refine wdraw_plan [⟨[], false, [38, 39], [], false⟩, ⟨[0], false, [38, 39], [], false⟩, ⟨[], false, [36, 37], [0, 1], false⟩, ⟨[2], false, [36, 37], [0, 1], false⟩, ⟨[0, 1, 2, 3], true, [], [], false⟩, ⟨[0, 1, 2, 3, 4], true, [], [], false⟩, ⟨[0, 1, 2, 3, 4, 5], false, [], [], false⟩, ⟨[0, 1, 2, 3, 4, 5, 6], false, [], [], false⟩, ⟨[0, 1, 2, 3, 4, 5, 6, 7], false, [], [], false⟩, ⟨[0, 1, 2, 3, 4, 5, 6, 7, 8], false, [46, 47, 51, 52], [], false⟩, ⟨[0, 1, 2, 3, 4, 5, 6, 7, 8], false, [45, 51, 52], [9], false⟩, ⟨[0, 1, 2, 3, 4, 5, 6, 7, 8, 10], false, [45, 51, 52], [9], false⟩, ⟨[0, 1, 2, 3, 4, 5, 6, 7, 8, 9, 10, 11], false, [51, 52], [], false⟩, ⟨[0, 1, 2, 3, 4, 5, 6, 7, 8, 9, 10, 11, 12], false, [51, 52], [], false⟩, ⟨[0, 1, 2, 3, 4, 5, 6, 7, 8, 9, 10, 11, 12, 13], false, [51, 52], [], false⟩, ⟨[0, 1, 2, 3, 4, 5, 6, 7, 8], false, [45, 46, 47, 48, 49, 50], [9, 10, 11, 12, 13, 14], false⟩, ⟨[0, 1, 2, 3, 4, 5, 6, 7, 8, 15], false, [45, 46, 47, 48, 49, 50], [9, 10, 11, 12, 13, 14], false⟩, ⟨[0, 1, 2, 3, 4, 5, 6, 7, 8, 9, 10, 11, 12, 13, 14, 15, 16], false, [], [], false⟩, ⟨[0, 1, 2, 3, 4, 5, 6, 7, 8, 9, 10, 11, 12, 13, 14, 15, 16, 17], false, [], [], false⟩, ⟨[0, 1, 2, 3, 4, 5, 6, 7, 8, 9, 10, 11, 12, 13, 14, 15, 16, 17, 18], false, [56, 57, 61, 62], [], false⟩, ⟨[0, 1, 2, 3, 4, 5, 6, 7, 8, 9, 10, 11, 12, 13, 14, 15, 16, 17, 18], false, [55, 61, 62], [19], false⟩, ⟨[0, 1, 2, 3, 4, 5, 6, 7, 8, 9, 10, 11, 12, 13, 14, 15, 16, 17, 18, 20], false, [55, 61, 62], [19], false⟩, ⟨[0, 1, 2, 3, 4, 5, 6, 7, 8, 9, 10, 11, 12, 13, 14, 15, 16, 17, 18, 19, 20, 21], false, [61, 62], [], false⟩, ⟨[0, 1, 2, 3, 4, 5, 6, 7, 8, 9, 10, 11, 12, 13, 14, 15, 16, 17, 18, 19, 20, 21, 22], false, [61, 62], [], false⟩, ⟨[0, 1, 2, 3, 4, 5, 6, 7, 8, 9, 10, 11, 12, 13, 14, 15, 16, 17, 18, 19, 20, 21, 22, 23], false, [61, 62], [], false⟩, ⟨[0, 1, 2, 3, 4, 5, 6, 7, 8, 9, 10, 11, 12, 13, 14, 15, 16, 17, 18], false, [55, 56, 57, 58, 59, 60], [19, 20, 21, 22, 23, 24], false⟩, ⟨[0, 1, 2, 3, 4, 5, 6, 7, 8, 9, 10, 11, 12, 13, 14, 15, 16, 17, 18, 25], false, [55, 56, 57, 58, 59, 60], [19, 20, 21, 22, 23, 24], false⟩, ⟨[0, 1, 2, 3, 4, 5, 6, 7, 8, 9, 10, 11, 12, 13, 14, 15, 16, 17, 18, 19, 20, 21, 22, 23, 24, 25, 26], false, [], [], false⟩, ⟨[0, 1, 2, 3, 4, 5, 6, 7, 8, 9, 10, 11, 12, 13, 14, 15, 16, 17, 18, 19, 20, 21, 22, 23, 24, 25, 26, 27], false, [], [], false⟩, ⟨[0, 1, 2, 3, 4, 5, 6, 7, 8, 9, 10, 11, 12, 13, 14, 15, 16, 17, 18, 19, 20, 21, 22, 23, 24, 25, 26, 27, 28], false, [66, 67, 71, 72], [], false⟩, ⟨[0, 1, 2, 3, 4, 5, 6, 7, 8, 9, 10, 11, 12, 13, 14, 15, 16, 17, 18, 19, 20, 21, 22, 23, 24, 25, 26, 27, 28], false, [65, 71, 72], [29], false⟩, ⟨[0, 1, 2, 3, 4, 5, 6, 7, 8, 9, 10, 11, 12, 13, 14, 15, 16, 17, 18, 19, 20, 21, 22, 23, 24, 25, 26, 27, 28, 30], false, [65, 71, 72], [29], false⟩, ⟨[0, 1, 2, 3, 4, 5, 6, 7, 8, 9, 10, 11, 12, 13, 14, 15, 16, 17, 18, 19, 20, 21, 22, 23, 24, 25, 26, 27, 28, 29, 30, 31], false, [71, 72], [], false⟩, ⟨[0, 1, 2, 3, 4, 5, 6, 7, 8, 9, 10, 11, 12, 13, 14, 15, 16, 17, 18, 19, 20, 21, 22, 23, 24, 25, 26, 27, 28, 29, 30, 31, 32], false, [71, 72], [], false⟩, ⟨[0, 1, 2, 3, 4, 5, 6, 7, 8, 9, 10, 11, 12, 13, 14, 15, 16, 17, 18, 19, 20, 21, 22, 23, 24, 25, 26, 27, 28, 29, 30, 31, 32, 33], false, [71, 72], [], false⟩, ⟨[0, 1, 2, 3, 4, 5, 6, 7, 8, 9, 10, 11, 12, 13, 14, 15, 16, 17, 18, 19, 20, 21, 22, 23, 24, 25, 26, 27, 28], false, [65, 66, 67, 68, 69, 70], [29, 30, 31, 32, 33, 34], false⟩, ⟨[0, 1, 2, 3, 4, 5, 6, 7, 8, 9, 10, 11, 12, 13, 14, 15, 16, 17, 18, 19, 20, 21, 22, 23, 24, 25, 26, 27, 28, 35], false, [65, 66, 67, 68, 69, 70], [29, 30, 31, 32, 33, 34], false⟩, ⟨[0, 1, 2, 3, 4, 5, 6, 7, 8, 9, 10, 11, 12, 13, 14, 15, 16, 17, 18, 19, 20, 21, 22, 23, 24, 25, 26, 27, 28, 29, 30, 31, 32, 33, 34, 35, 36], false, [], [], false⟩, ⟨[0, 1, 2, 3, 4, 5, 6, 7, 8, 9, 10, 11, 12, 13, 14, 15, 16, 17, 18, 19, 20, 21, 22, 23, 24, 25, 26, 27, 28, 29, 30, 31, 32, 33, 34, 35, 36, 37], false, [], [], false⟩, ⟨[0, 1, 2, 3, 4, 5, 6, 7, 8, 9, 10, 11, 12, 13, 14, 15, 16, 17, 18, 19, 20, 21, 22, 23, 24, 25, 26, 27, 28, 29, 30, 31, 32, 33, 34, 35, 36, 37, 38], false, [], [], false⟩, ⟨[0, 1, 2, 3, 4, 5, 6, 7, 8, 9, 10, 11, 12, 13, 14, 15, 16, 17, 18, 19, 20, 21, 22, 23, 24, 25, 26, 27, 28, 29, 30, 31, 32, 33, 34, 35, 36, 37, 38, 39], false, [], [], false⟩, ⟨[0, 1, 2, 3, 4, 5, 6, 7, 8, 9, 10, 11, 12, 13, 14, 15, 16, 17, 18, 19, 20, 21, 22, 23, 24, 25, 26, 27, 28, 29, 30, 31, 32, 33, 34, 35, 36, 37, 38, 39, 40], true, [], [], false⟩] (by kernel_rfl) ?_
      by_cases h0 : i = 0
      case' pos =>
        have hg0 : ¬ ((i : Int) > 0) := by omega
        have hg1 : ¬ (0 < (i : Int)) := by omega
        repeat ((first | rw [z2d] | rw [z2c] | rw [z2e] | rw [z2dl]); (simp (maxSteps := 2000000) -implicitDefEqProofs only [zy, zE, evop, ev, ofVal, tget, tput, ok, V.isUndef, intBin, guardOf, initT, Ch.on, calleeOf, withArgs, told, xport, xports, tids, tidss, hget, hput, Blk.ice, freeze, V.cells, D.cells, V.isAgg, V.one, V.clo, clos, V.toD, loadD, structAt, eqCells, D.scalarEq, sliceOf, partsD, partsV, bound, isPtr, Blk.width, elems, lenOf, splice, D.over, resOf, resV, resVs, ↓reduceIte, reduceCtorEq, ↓reduceDIte, Nat.reduceLT, Nat.reduceEqDiff, Nat.reduceAdd, Nat.reduceSub, Nat.reduceMul, Nat.reduceLeDiff, Nat.reduceBEq, Nat.reduceBNe, Int.reduceNeg, Int.reduceAdd, Int.reduceSub, Int.reduceToNat, nilTest, shiftH, Blk.ren, V.ren, renL, initV, frameH, putL, frρ, dI, dW, hil, List.getElem?_map, hx, Option.map_some, Int.natCast_nonneg, Int.toNat_natCast, hxf, hxn, hg0, hg1]))
      case' neg =>
        obtain ⟨z, hzz⟩ : ∃ z, S[i - 1]? = some z := ⟨_, List.getElem?_eq_getElem (by omega)⟩
        have hlt := ltI_iff.1 (hz z (by omega) hzz)
        have hg1 : (0 : Int) < (i : Int) := by omega
        have hw1 : IntKind.i64.wrap ((i : Int) - 1) = ((i - 1 : Nat) : Int) := by rw [wrap_in (by omega)]; omega
        have hzx : ¬ x.2 < z.2 := by omega
        by_cases heq : z.2 = x.2
        case' pos =>
          have hge : ¬ x.1 ≤ z.1 := by omega
          have heq' : (z.2 == x.2) = true := by simpa using heq
          repeat ((first | rw [z2d] | rw [z2c] | rw [z2e] | rw [z2dl]); (simp (maxSteps := 2000000) -implicitDefEqProofs only [zy, zE, evop, ev, ofVal, tget, tput, ok, V.isUndef, intBin, guardOf, initT, Ch.on, calleeOf, withArgs, told, xport, xports, tids, tidss, hget, hput, Blk.ice, freeze, V.cells, D.cells, V.isAgg, V.one, V.clo, clos, V.toD, loadD, structAt, eqCells, D.scalarEq, sliceOf, partsD, partsV, bound, isPtr, Blk.width, elems, lenOf, splice, D.over, resOf, resV, resVs, ↓reduceIte, reduceCtorEq, ↓reduceDIte, Nat.reduceLT, Nat.reduceEqDiff, Nat.reduceAdd, Nat.reduceSub, Nat.reduceMul, Nat.reduceLeDiff, Nat.reduceBEq, Nat.reduceBNe, Int.reduceNeg, Int.reduceAdd, Int.reduceSub, Int.reduceToNat, nilTest, shiftH, Blk.ren, V.ren, renL, initV, frameH, putL, frρ, dI, dW, hil, List.getElem?_map, hx, Option.map_some, Int.natCast_nonneg, Int.toNat_natCast, hxf, hxn, hzz, hw1, hg1, hzx, heq', hge]))
        case' neg =>
          have heq' : (z.2 == x.2) = false := by simpa using heq
          repeat ((first | rw [z2d] | rw [z2c] | rw [z2e] | rw [z2dl]); (simp (maxSteps := 2000000) -implicitDefEqProofs only [zy, zE, evop, ev, ofVal, tget, tput, ok, V.isUndef, intBin, guardOf, initT, Ch.on, calleeOf, withArgs, told, xport, xports, tids, tidss, hget, hput, Blk.ice, freeze, V.cells, D.cells, V.isAgg, V.one, V.clo, clos, V.toD, loadD, structAt, eqCells, D.scalarEq, sliceOf, partsD, partsV, bound, isPtr, Blk.width, elems, lenOf, splice, D.over, resOf, resV, resVs, ↓reduceIte, reduceCtorEq, ↓reduceDIte, Nat.reduceLT, Nat.reduceEqDiff, Nat.reduceAdd, Nat.reduceSub, Nat.reduceMul, Nat.reduceLeDiff, Nat.reduceBEq, Nat.reduceBNe, Int.reduceNeg, Int.reduceAdd, Int.reduceSub, Int.reduceToNat, nilTest, shiftH, Blk.ren, V.ren, renL, initV, frameH, putL, frρ, dI, dW, hil, List.getElem?_map, hx, Option.map_some, Int.natCast_nonneg, Int.toNat_natCast, hxf, hxn, hzz, hw1, hg1, hzx, heq']))
      all_goals
        have hi0 : ((i : Int) - 0).toNat = i := by omega
        have hln : (List.map dW (S.take i)).length = i := by simp; omega
        rw [hi0, ← List.map_take, hln]
        refine ⟨⟨by omega, by omega, two_T S⟩, ?_⟩
        refine wloop_count i (fun j => [(82, .d (.int .i64 j)), (81, .d (.int .i64 i)), (80, .d (.vec ((S.take i).map dW))), (9, .ptr 1 0 0), (31, .d (.int .i64 i)), (30, .d (.int .i64 S.length)), (29, .d (.vec (S.map dW))), (7, .d (.vec (S.map dW))), (3, .ptr 0 0 0), (1, .d (.int .i64 who)), (2, .d (.int .i64 k))]) (fun _ => [.box false [.d (.int .i64 w.now), .d (.vec d0), .d (.vec d1), .d (.vec d2), .d (.vec d3), .d (.vec d4), .d (.vec d5), .d (.vec d6), .d (.vec d7)], .box false [.d (.int .i64 x.1), .d (.int .i64 x.2)]]) (fun _ => True) trivial ?_ (fun j hj _ => ?_) (fun _ => ?_)
        · exact Weak.trims 2 rfl (by simp [tget, V.lower]) (by simp [Blk.lower, lowerL, V.lower])
        · obtain ⟨y, hyS⟩ : ∃ y, S[j]? = some y := ⟨_, List.getElem?_eq_getElem (by omega)⟩
          have hyT : (S.take i)[j]? = some y := by rw [List.getElem?_take, if_pos hj]; exact hyS
          have hyx := hy j y hj hyS
          have hjl : ((j : Int) < (i : Int)) := by omega
          have hwj : IntKind.i64.wrap ((j : Int) + 1) = ((j + 1 : Nat) : Int) := by rw [wrap_in (by omega)]; omega
          have hlt' : (S.take i).length = i := by simp; omega
          try simp (maxSteps := 2000000) -implicitDefEqProofs only [zz, zE, evop, ev, ofVal, tget, tput, ok, V.isUndef, intBin, guardOf, initT, Ch.on, calleeOf, withArgs, told, xport, xports, tids, tidss, hget, hput, Blk.ice, freeze, V.cells, D.cells, V.isAgg, V.one, V.clo, clos, V.toD, loadD, structAt, eqCells, D.scalarEq, sliceOf, partsD, partsV, bound, isPtr, Blk.width, elems, lenOf, splice, D.over, resOf, resV, resVs, ↓reduceIte, reduceCtorEq, ↓reduceDIte, Nat.reduceLT, Nat.reduceEqDiff, Nat.reduceAdd, Nat.reduceSub, Nat.reduceMul, Nat.reduceLeDiff, Nat.reduceBEq, Nat.reduceBNe, Int.reduceNeg, Int.reduceAdd, Int.reduceSub, Int.reduceToNat, nilTest, shiftH, Blk.ren, V.ren, renL, initV, frameH, putL, frρ, dI, dW, hjl, List.getElem?_map, hyT, Option.map_some, Int.natCast_nonneg, hyx, hwj, hlt']
          exact Weak.trims 2 rfl (by simp [tget, V.lower]) (by simp [Blk.lower, lowerL, V.lower])
        · have hjl : ¬ ((i : Int) < (i : Int)) := by omega
          try simp (maxSteps := 2000000) -implicitDefEqProofs only [zz, zE, evop, ev, ofVal, tget, tput, ok, V.isUndef, intBin, guardOf, initT, Ch.on, calleeOf, withArgs, told, xport, xports, tids, tidss, hget, hput, Blk.ice, freeze, V.cells, D.cells, V.isAgg, V.one, V.clo, clos, V.toD, loadD, structAt, eqCells, D.scalarEq, sliceOf, partsD, partsV, bound, isPtr, Blk.width, elems, lenOf, splice, D.over, resOf, resV, resVs, ↓reduceIte, reduceCtorEq, ↓reduceDIte, Nat.reduceLT, Nat.reduceEqDiff, Nat.reduceAdd, Nat.reduceSub, Nat.reduceMul, Nat.reduceLeDiff, Nat.reduceBEq, Nat.reduceBNe, Int.reduceNeg, Int.reduceAdd, Int.reduceSub, Int.reduceToNat, nilTest, shiftH, Blk.ren, V.ren, renL, initV, frameH, putL, frρ, dI, dW, hjl, hwi]
          exact Weak.trims 1 rfl (by simp [tget, V.lower]) (by simp [Blk.lower, lowerL, V.lower])
    · have hil : ¬ (((itemsW w).length : Int) < ((itemsW w).length : Int)) := by omega
      try simp (maxSteps := 2000000) -implicitDefEqProofs only [zz, zE, evop, ev, ofVal, tget, tput, ok, V.isUndef, intBin, guardOf, initT, Ch.on, calleeOf, withArgs, told, xport, xports, tids, tidss, hget, hput, Blk.ice, freeze, V.cells, D.cells, V.isAgg, V.one, V.clo, clos, V.toD, loadD, structAt, eqCells, D.scalarEq, sliceOf, partsD, partsV, bound, isPtr, Blk.width, elems, lenOf, splice, D.over, resOf, resV, resVs, ↓reduceIte, reduceCtorEq, ↓reduceDIte, Nat.reduceLT, Nat.reduceEqDiff, Nat.reduceAdd, Nat.reduceSub, Nat.reduceMul, Nat.reduceLeDiff, Nat.reduceBEq, Nat.reduceBNe, Int.reduceNeg, Int.reduceAdd, Int.reduceSub, Int.reduceToNat, nilTest, shiftH, Blk.ren, V.ren, renL, initV, frameH, putL, frρ, dI, dW, hil]
      rcases hrs with ⟨he, rfl⟩ | ⟨rfl, hO⟩
      · rw [e] at A1
        have he' : (ea != 0) = true := by simpa using he
        refine acall_ice' (A1) ?_
        try simp (maxSteps := 2000000) -implicitDefEqProofs only [zz, zE, evop, ev, ofVal, tget, tput, ok, V.isUndef, intBin, guardOf, initT, Ch.on, calleeOf, withArgs, told, xport, xports, tids, tidss, hget, hput, Blk.ice, freeze, V.cells, D.cells, V.isAgg, V.one, V.clo, clos, V.toD, loadD, structAt, eqCells, D.scalarEq, sliceOf, partsD, partsV, bound, isPtr, Blk.width, elems, lenOf, splice, D.over, resOf, resV, resVs, ↓reduceIte, reduceCtorEq, ↓reduceDIte, Nat.reduceLT, Nat.reduceEqDiff, Nat.reduceAdd, Nat.reduceSub, Nat.reduceMul, Nat.reduceLeDiff, Nat.reduceBEq, Nat.reduceBNe, Int.reduceNeg, Int.reduceAdd, Int.reduceSub, Int.reduceToNat, nilTest, shiftH, Blk.ren, V.ren, renL, initV, frameH, putL, frρ, dI, dW]
        try simp (maxSteps := 2000000) -implicitDefEqProofs only [zz, zE, evop, ev, ofVal, tget, tput, ok, V.isUndef, intBin, guardOf, initT, Ch.on, calleeOf, withArgs, told, xport, xports, tids, tidss, hget, hput, Blk.ice, freeze, V.cells, D.cells, V.isAgg, V.one, V.clo, clos, V.toD, loadD, structAt, eqCells, D.scalarEq, sliceOf, partsD, partsV, bound, isPtr, Blk.width, elems, lenOf, splice, D.over, resOf, resV, resVs, ↓reduceIte, reduceCtorEq, ↓reduceDIte, Nat.reduceLT, Nat.reduceEqDiff, Nat.reduceAdd, Nat.reduceSub, Nat.reduceMul, Nat.reduceLeDiff, Nat.reduceBEq, Nat.reduceBNe, Int.reduceNeg, Int.reduceAdd, Int.reduceSub, Int.reduceToNat, nilTest, shiftH, Blk.ren, V.ren, renL, initV, frameH, putL, frρ, dI, dW, he']
        refine wdraw_plan [⟨[], false, [104], [], false⟩, ⟨[0], false, [104], [], false⟩, ⟨[], false, [102, 103], [0, 1], false⟩, ⟨[0, 1, 2], true, [], [], false⟩, ⟨[0, 1, 2, 3], true, [], [], false⟩, ⟨[0, 1, 2, 3, 4], true, [], [], false⟩, ⟨[0, 1, 2, 3, 4, 5], false, [], [], false⟩, ⟨[0, 1, 2, 3, 4, 5, 6], true, [], [], false⟩, ⟨[0, 1, 2, 3, 4, 5, 6, 7], true, [], [], false⟩] (by kernel_rfl) ?_
        try simp (maxSteps := 2000000) -implicitDefEqProofs only [zz, zE, evop, ev, ofVal, tget, tput, ok, V.isUndef, intBin, guardOf, initT, Ch.on, calleeOf, withArgs, told, xport, xports, tids, tidss, hget, hput, Blk.ice, freeze, V.cells, D.cells, V.isAgg, V.one, V.clo, clos, V.toD, loadD, structAt, eqCells, D.scalarEq, sliceOf, partsD, partsV, bound, isPtr, Blk.width, elems, lenOf, splice, D.over, resOf, resV, resVs, ↓reduceIte, reduceCtorEq, ↓reduceDIte, Nat.reduceLT, Nat.reduceEqDiff, Nat.reduceAdd, Nat.reduceSub, Nat.reduceMul, Nat.reduceLeDiff, Nat.reduceBEq, Nat.reduceBNe, Int.reduceNeg, Int.reduceAdd, Int.reduceSub, Int.reduceToNat, nilTest, shiftH, Blk.ren, V.ren, renL, initV, frameH, putL, frρ, dI, dW]
        first | refine acall_flat' (W3) rfl ?_ | refine dcall_flat' (W3) rfl ?_ | refine acall_ice' (W3) ?_ | refine dcall_still' (W3) rfl ?_
        try simp (maxSteps := 2000000) -implicitDefEqProofs only [zz, zE, evop, ev, ofVal, tget, tput, ok, V.isUndef, intBin, guardOf, initT, Ch.on, calleeOf, withArgs, told, xport, xports, tids, tidss, hget, hput, Blk.ice, freeze, V.cells, D.cells, V.isAgg, V.one, V.clo, clos, V.toD, loadD, structAt, eqCells, D.scalarEq, sliceOf, partsD, partsV, bound, isPtr, Blk.width, elems, lenOf, splice, D.over, resOf, resV, resVs, ↓reduceIte, reduceCtorEq, ↓reduceDIte, Nat.reduceLT, Nat.reduceEqDiff, Nat.reduceAdd, Nat.reduceSub, Nat.reduceMul, Nat.reduceLeDiff, Nat.reduceBEq, Nat.reduceBNe, Int.reduceNeg, Int.reduceAdd, Int.reduceSub, Int.reduceToNat, nilTest, shiftH, Blk.ren, V.ren, renL, initV, frameH, putL, frρ, dI, dW]
        first | refine acall_flat' (W3) rfl ?_ | refine dcall_flat' (W3) rfl ?_ | refine acall_ice' (W3) ?_ | refine dcall_still' (W3) rfl ?_
        try simp (maxSteps := 2000000) -implicitDefEqProofs only [zz, zE, evop, ev, ofVal, tget, tput, ok, V.isUndef, intBin, guardOf, initT, Ch.on, calleeOf, withArgs, told, xport, xports, tids, tidss, hget, hput, Blk.ice, freeze, V.cells, D.cells, V.isAgg, V.one, V.clo, clos, V.toD, loadD, structAt, eqCells, D.scalarEq, sliceOf, partsD, partsV, bound, isPtr, Blk.width, elems, lenOf, splice, D.over, resOf, resV, resVs, ↓reduceIte, reduceCtorEq, ↓reduceDIte, Nat.reduceLT, Nat.reduceEqDiff, Nat.reduceAdd, Nat.reduceSub, Nat.reduceMul, Nat.reduceLeDiff, Nat.reduceBEq, Nat.reduceBNe, Int.reduceNeg, Int.reduceAdd, Int.reduceSub, Int.reduceToNat, nilTest, shiftH, Blk.ren, V.ren, renL, initV, frameH, putL, frρ, dI, dW]
        try simp (maxSteps := 2000000) -implicitDefEqProofs only [zz, zE, evop, ev, ofVal, tget, tput, ok, V.isUndef, intBin, guardOf, initT, Ch.on, calleeOf, withArgs, told, xport, xports, tids, tidss, hget, hput, Blk.ice, freeze, V.cells, D.cells, V.isAgg, V.one, V.clo, clos, V.toD, loadD, structAt, eqCells, D.scalarEq, sliceOf, partsD, partsV, bound, isPtr, Blk.width, elems, lenOf, splice, D.over, resOf, resV, resVs, ↓reduceIte, reduceCtorEq, ↓reduceDIte, Nat.reduceLT, Nat.reduceEqDiff, Nat.reduceAdd, Nat.reduceSub, Nat.reduceMul, Nat.reduceLeDiff, Nat.reduceBEq, Nat.reduceBNe, Int.reduceNeg, Int.reduceAdd, Int.reduceSub, Int.reduceToNat, nilTest, shiftH, Blk.ren, V.ren, renL, initV, frameH, putL, frρ, dI, dW]
        first | refine acall_flat' (W4) rfl ?_ | refine dcall_flat' (W4) rfl ?_ | refine acall_ice' (W4) ?_ | refine dcall_still' (W4) rfl ?_
        try simp (maxSteps := 2000000) -implicitDefEqProofs only [zz, zE, evop, ev, ofVal, tget, tput, ok, V.isUndef, intBin, guardOf, initT, Ch.on, calleeOf, withArgs, told, xport, xports, tids, tidss, hget, hput, Blk.ice, freeze, V.cells, D.cells, V.isAgg, V.one, V.clo, clos, V.toD, loadD, structAt, eqCells, D.scalarEq, sliceOf, partsD, partsV, bound, isPtr, Blk.width, elems, lenOf, splice, D.over, resOf, resV, resVs, ↓reduceIte, reduceCtorEq, ↓reduceDIte, Nat.reduceLT, Nat.reduceEqDiff, Nat.reduceAdd, Nat.reduceSub, Nat.reduceMul, Nat.reduceLeDiff, Nat.reduceBEq, Nat.reduceBNe, Int.reduceNeg, Int.reduceAdd, Int.reduceSub, Int.reduceToNat, nilTest, shiftH, Blk.ren, V.ren, renL, initV, frameH, putL, frρ, dI, dW]
        try simp (maxSteps := 2000000) -implicitDefEqProofs only [zz, zE, evop, ev, ofVal, tget, tput, ok, V.isUndef, intBin, guardOf, initT, Ch.on, calleeOf, withArgs, told, xport, xports, tids, tidss, hget, hput, Blk.ice, freeze, V.cells, D.cells, V.isAgg, V.one, V.clo, clos, V.toD, loadD, structAt, eqCells, D.scalarEq, sliceOf, partsD, partsV, bound, isPtr, Blk.width, elems, lenOf, splice, D.over, resOf, resV, resVs, ↓reduceIte, reduceCtorEq, ↓reduceDIte, Nat.reduceLT, Nat.reduceEqDiff, Nat.reduceAdd, Nat.reduceSub, Nat.reduceMul, Nat.reduceLeDiff, Nat.reduceBEq, Nat.reduceBNe, Int.reduceNeg, Int.reduceAdd, Int.reduceSub, Int.reduceToNat, nilTest, shiftH, Blk.ren, V.ren, renL, initV, frameH, putL, frρ, dI, dW]
        first | refine acall_flat' (c_awake17) rfl ?_ | refine dcall_flat' (c_awake17) rfl ?_ | refine acall_ice' (c_awake17) ?_ | refine dcall_still' (c_awake17) rfl ?_
        try simp (maxSteps := 2000000) -implicitDefEqProofs only [zz, zE, evop, ev, ofVal, tget, tput, ok, V.isUndef, intBin, guardOf, initT, Ch.on, calleeOf, withArgs, told, xport, xports, tids, tidss, hget, hput, Blk.ice, freeze, V.cells, D.cells, V.isAgg, V.one, V.clo, clos, V.toD, loadD, structAt, eqCells, D.scalarEq, sliceOf, partsD, partsV, bound, isPtr, Blk.width, elems, lenOf, splice, D.over, resOf, resV, resVs, ↓reduceIte, reduceCtorEq, ↓reduceDIte, Nat.reduceLT, Nat.reduceEqDiff, Nat.reduceAdd, Nat.reduceSub, Nat.reduceMul, Nat.reduceLeDiff, Nat.reduceBEq, Nat.reduceBNe, Int.reduceNeg, Int.reduceAdd, Int.reduceSub, Int.reduceToNat, nilTest, shiftH, Blk.ren, V.ren, renL, initV, frameH, putL, frρ, dI, dW]
      obtain ⟨a0, a1, a2, a3, a4, a5, a6, a7, eA⟩ := wh8 _ hA.len
      have V5 := c_wh_Items a hA.len hA.le
      have V6 := c_wh_Right a hA.len hA.le
      rw [(rightB_iff hA.len).2 hO.ra] at V5 V6
      rw [if_pos rfl, hO.items] at V5
      rw [eA] at A1 V5 V6
      have e00 : ((0 : Int) != 0) = false := by decide
      have hL9 : (insI (who, w.now + k) (itemsW w)).length ≤ 9 := by rw [ins_len]; omega
      have hfin : (insI (who, w.now + k) (itemsW w)).filter (fun x => !(x.1 == who && x.2 == w.now + k)) = itemsW w := ins_not2 hsS hO.none
      have hany : (insI (who, w.now + k) (itemsW w)).any (fun x => x.1 == who && x.2 == w.now + k) = true := List.any_eq_true.2 ⟨_, mem_insI.2 (.inl rfl), by simp⟩
      have hhi := hO.hi
      have hlo := hO.lo
      have hwk : IntKind.i64.wrap (w.now + k) = w.now + k := by
        have := hR.now
        simp only [tickR, Bool.and_eq_true, decide_eq_true_eq] at this
        rw [wrap_in (by omega)]
      generalize insI (who, w.now + k) (itemsW w) = L at V5 hL9 hfin hany
      refine acall_ice' (A1) ?_
      try simp (maxSteps := 2000000) -implicitDefEqProofs only [zz, zE, evop, ev, ofVal, tget, tput, ok, V.isUndef, intBin, guardOf, initT, Ch.on, calleeOf, withArgs, told, xport, xports, tids, tidss, hget, hput, Blk.ice, freeze, V.cells, D.cells, V.isAgg, V.one, V.clo, clos, V.toD, loadD, structAt, eqCells, D.scalarEq, sliceOf, partsD, partsV, bound, isPtr, Blk.width, elems, lenOf, splice, D.over, resOf, resV, resVs, ↓reduceIte, reduceCtorEq, ↓reduceDIte, Nat.reduceLT, Nat.reduceEqDiff, Nat.reduceAdd, Nat.reduceSub, Nat.reduceMul, Nat.reduceLeDiff, Nat.reduceBEq, Nat.reduceBNe, Int.reduceNeg, Int.reduceAdd, Int.reduceSub, Int.reduceToNat, nilTest, shiftH, Blk.ren, V.ren, renL, initV, frameH, putL, frρ, dI, dW]
      try simp (maxSteps := 2000000) -implicitDefEqProofs only [zz, zE, evop, ev, ofVal, tget, tput, ok, V.isUndef, intBin, guardOf, initT, Ch.on, calleeOf, withArgs, told, xport, xports, tids, tidss, hget, hput, Blk.ice, freeze, V.cells, D.cells, V.isAgg, V.one, V.clo, clos, V.toD, loadD, structAt, eqCells, D.scalarEq, sliceOf, partsD, partsV, bound, isPtr, Blk.width, elems, lenOf, splice, D.over, resOf, resV, resVs, ↓reduceIte, reduceCtorEq, ↓reduceDIte, Nat.reduceLT, Nat.reduceEqDiff, Nat.reduceAdd, Nat.reduceSub, Nat.reduceMul, Nat.reduceLeDiff, Nat.reduceBEq, Nat.reduceBNe, Int.reduceNeg, Int.reduceAdd, Int.reduceSub, Int.reduceToNat, nilTest, shiftH, Blk.ren, V.ren, renL, initV, frameH, putL, frρ, dI, dW, e00]
      refine acall_ice' (V5) ?_
      try simp (maxSteps := 2000000) -implicitDefEqProofs only [zz, zE, evop, ev, ofVal, tget, tput, ok, V.isUndef, intBin, guardOf, initT, Ch.on, calleeOf, withArgs, told, xport, xports, tids, tidss, hget, hput, Blk.ice, freeze, V.cells, D.cells, V.isAgg, V.one, V.clo, clos, V.toD, loadD, structAt, eqCells, D.scalarEq, sliceOf, partsD, partsV, bound, isPtr, Blk.width, elems, lenOf, splice, D.over, resOf, resV, resVs, ↓reduceIte, reduceCtorEq, ↓reduceDIte, Nat.reduceLT, Nat.reduceEqDiff, Nat.reduceAdd, Nat.reduceSub, Nat.reduceMul, Nat.reduceLeDiff, Nat.reduceBEq, Nat.reduceBNe, Int.reduceNeg, Int.reduceAdd, Int.reduceSub, Int.reduceToNat, nilTest, shiftH, Blk.ren, V.ren, renL, initV, frameH, putL, frρ, dI, dW]
      refine wloop_count L.length (fun j => [(113, .d (.int .i64 j)), (112, .d (.int .i64 L.length)), (111, .d (.vec (L.map dW))), (15, .d (.bool ((L.take j).any fun x => x.1 == who && x.2 == w.now + k))), (14, .own 2 0 ((L.take j).filter fun x => !(x.1 == who && x.2 == w.now + k)).length), (12, .ptr 1 0 0), (7, .d (.vec ((itemsW w).map dW))), (3, .ptr 0 0 0), (1, .d (.int .i64 who)), (2, .d (.int .i64 k))]) (fun j => [.box false [.d (.int .i64 w.now), .d (.vec d0), .d (.vec d1), .d (.vec d2), .d (.vec d3), .d (.vec d4), .d (.vec d5), .d (.vec d6), .d (.vec d7)], .box false [.d (.int .i64 a.now), .d (.vec a0), .d (.vec a1), .d (.vec a2), .d (.vec a3), .d (.vec a4), .d (.vec a5), .d (.vec a6), .d (.vec a7)], .dat false 2 (((L.take j).filter fun x => !(x.1 == who && x.2 == w.now + k)).map dW)]) (fun _ => True) trivial ?_ (fun j hj _ => ?_) (fun _ => ?_)
      · refine Weak.pick [0, 1, 20] (by decide) (by simp) rfl (fun q hq => ?_) (fun i hi => ?_)
        · simp only [List.mem_cons, List.not_mem_nil, or_false] at hq
          rcases hq with rfl | rfl | rfl | rfl | rfl | rfl | rfl | rfl | rfl | rfl
          · exact .same _
          · exact .same _
          · exact .same _
          · exact .same _
          · exact .nils 2 2 rfl
          · exact .same _
          · exact .same _
          · exact .same _
          · exact .same _
          · exact .same _
        · match i, hi with
          | 0, _ => exact .box _ _ _ rfl rfl (.cons (.same _) (.cons (.same _) (.cons (.same _) (.cons (.same _) (.cons (.same _) (.cons (.same _) (.cons (.same _) (.cons (.same _) (.cons (.same _) .nil)))))))))
          | 1, _ => exact .box _ _ _ rfl rfl (.cons (.same _) (.cons (.same _) (.cons (.same _) (.cons (.same _) (.cons (.same _) (.cons (.same _) (.cons (.same _) (.cons (.same _) (.cons (.same _) .nil)))))))))
          | 2, _ => exact .virt 2 rfl rfl
          | i + 3, hi => exact absurd hi (by simp)
      · have hx : L[j]? = some L[j] := List.getElem?_eq_getElem hj
        have hT : L.take (j + 1) = L.take j ++ [L[j]] := by rw [List.take_succ, hx]; rfl
        rw [hT, List.any_append, List.filter_append]
        generalize L[j] = y at hx
        have hfl : ((L.take j).filter (fun x => !(x.1 == who && x.2 == w.now + k))).length ≤ 9 := by
          have h1 := List.length_filter_le (fun x : Int × Int => !(x.1 == who && x.2 == w.now + k)) (L.take j)
          have h2 : (L.take j).length ≤ L.length := by simp; omega
          omega
        generalize (L.take j).any (fun x => x.1 == who && x.2 == w.now + k) = q
        generalize (L.take j).filter (fun x => !(x.1 == who && x.2 == w.now + k)) = R at hfl
        have hjl : ((j : Int) < (L.length : Int)) := by omega
        have hwj : IntKind.i64.wrap ((j : Int) + 1) = ((j + 1 : Nat) : Int) := by rw [wrap_in (by omega)]; omega
        by_cases hq : (y.1 == who) = true ∧ (y.2 == w.now + k) = true
        · obtain ⟨q1, q2⟩ := hq
          have e1 : [y].any (fun x => x.1 == who && x.2 == w.now + k) = true := by simp [q1, q2]
          have e2 : [y].filter (fun x => !(x.1 == who && x.2 == w.now + k)) = [] := by simp [List.filter_cons, q1, q2]
          rw [e1, e2, Bool.or_true, List.append_nil]
          try simp (maxSteps := 2000000) -implicitDefEqProofs only [zz, zE, evop, ev, ofVal, tget, tput, ok, V.isUndef, intBin, guardOf, initT, Ch.on, calleeOf, withArgs, told, xport, xports, tids, tidss, hget, hput, Blk.ice, freeze, V.cells, D.cells, V.isAgg, V.one, V.clo, clos, V.toD, loadD, structAt, eqCells, D.scalarEq, sliceOf, partsD, partsV, bound, isPtr, Blk.width, elems, lenOf, splice, D.over, resOf, resV, resVs, ↓reduceIte, reduceCtorEq, ↓reduceDIte, Nat.reduceLT, Nat.reduceEqDiff, Nat.reduceAdd, Nat.reduceSub, Nat.reduceMul, Nat.reduceLeDiff, Nat.reduceBEq, Nat.reduceBNe, Int.reduceNeg, Int.reduceAdd, Int.reduceSub, Int.reduceToNat, nilTest, shiftH, Blk.ren, V.ren, renL, initV, frameH, putL, frρ, dI, dW, hjl, List.getElem?_map, hx, Option.map_some, Int.natCast_nonneg, hwk, hwj, q1, q2, Bool.and_self]
          exact Weak.trims 3 rfl (by simp [tget, V.lower]) (by simp [Blk.lower, lowerL, V.lower])
        · have e1 : [y].any (fun x => x.1 == who && x.2 == w.now + k) = false := by
            cases h1 : (y.1 == who) <;> cases h2 : (y.2 == w.now + k) <;> simp_all
          have e2 : [y].filter (fun x => !(x.1 == who && x.2 == w.now + k)) = [y] := by
            cases h1 : (y.1 == who) <;> cases h2 : (y.2 == w.now + k) <;> simp_all [List.filter_cons]
          rw [e1, e2, Bool.or_false]
          have hqf : ((y.1 == who) && (y.2 == w.now + k)) = false := by
            cases h1 : (y.1 == who) <;> cases h2 : (y.2 == w.now + k) <;> simp_all
          try simp (maxSteps := 2000000) -implicitDefEqProofs only [zz, zE, evop, ev, ofVal, tget, tput, ok, V.isUndef, intBin, guardOf, initT, Ch.on, calleeOf, withArgs, told, xport, xports, tids, tidss, hget, hput, Blk.ice, freeze, V.cells, D.cells, V.isAgg, V.one, V.clo, clos, V.toD, loadD, structAt, eqCells, D.scalarEq, sliceOf, partsD, partsV, bound, isPtr, Blk.width, elems, lenOf, splice, D.over, resOf, resV, resVs, ↓reduceIte, reduceCtorEq, ↓reduceDIte, Nat.reduceLT, Nat.reduceEqDiff, Nat.reduceAdd, Nat.reduceSub, Nat.reduceMul, Nat.reduceLeDiff, Nat.reduceBEq, Nat.reduceBNe, Int.reduceNeg, Int.reduceAdd, Int.reduceSub, Int.reduceToNat, nilTest, shiftH, Blk.ren, V.ren, renL, initV, frameH, putL, frρ, dI, dW, hjl, List.getElem?_map, hx, Option.map_some, Int.natCast_nonneg, hwk, hwj, hqf, tk_all]
          refine ⟨⟨by omega, okEl_T [y]⟩, ?_⟩
          rw [List.length_append, List.map_append]
          refine Weak.pick [0, 1, 5] (by decide) (by simp) rfl (fun q hq => ?_) (fun i hi => ?_)
          · simp only [List.mem_cons, List.not_mem_nil, or_false] at hq
            rcases hq with rfl | rfl | rfl | rfl | rfl | rfl | rfl | rfl | rfl | rfl <;> exact .same _
          · match i, hi with
            | 0, _ => exact .box _ _ _ rfl rfl (.cons (.same _) (.cons (.same _) (.cons (.same _) (.cons (.same _) (.cons (.same _) (.cons (.same _) (.cons (.same _) (.cons (.same _) (.cons (.same _) .nil)))))))))
            | 1, _ => exact .box _ _ _ rfl rfl (.cons (.same _) (.cons (.same _) (.cons (.same _) (.cons (.same _) (.cons (.same _) (.cons (.same _) (.cons (.same _) (.cons (.same _) (.cons (.same _) .nil)))))))))
            | 2, _ => exact .dat _ _ _ rfl rfl
            | i + 3, hi => exact absurd hi (by simp)
      · have hjl : ¬ ((L.length : Int) < (L.length : Int)) := by omega
        rw [List.take_length, hany, hfin]
        try simp (maxSteps := 2000000) -implicitDefEqProofs only [zz, zE, evop, ev, ofVal, tget, tput, ok, V.isUndef, intBin, guardOf, initT, Ch.on, calleeOf, withArgs, told, xport, xports, tids, tidss, hget, hput, Blk.ice, freeze, V.cells, D.cells, V.isAgg, V.one, V.clo, clos, V.toD, loadD, structAt, eqCells, D.scalarEq, sliceOf, partsD, partsV, bound, isPtr, Blk.width, elems, lenOf, splice, D.over, resOf, resV, resVs, ↓reduceIte, reduceCtorEq, ↓reduceDIte, Nat.reduceLT, Nat.reduceEqDiff, Nat.reduceAdd, Nat.reduceSub, Nat.reduceMul, Nat.reduceLeDiff, Nat.reduceBEq, Nat.reduceBNe, Int.reduceNeg, Int.reduceAdd, Int.reduceSub, Int.reduceToNat, nilTest, shiftH, Blk.ren, V.ren, renL, initV, frameH, putL, frρ, dI, dW, hjl, tk_all]
        refine acall_ice (ds := [.vec ((itemsW w).map dW)]) (by simp only [xports, xport, hget, List.drop_zero, tk_all]) L1 ?_
        try simp (maxSteps := 2000000) -implicitDefEqProofs only [zz, zE, evop, ev, ofVal, tget, tput, ok, V.isUndef, intBin, guardOf, initT, Ch.on, calleeOf, withArgs, told, xport, xports, tids, tidss, hget, hput, Blk.ice, freeze, V.cells, D.cells, V.isAgg, V.one, V.clo, clos, V.toD, loadD, structAt, eqCells, D.scalarEq, sliceOf, partsD, partsV, bound, isPtr, Blk.width, elems, lenOf, splice, D.over, resOf, resV, resVs, ↓reduceIte, reduceCtorEq, ↓reduceDIte, Nat.reduceLT, Nat.reduceEqDiff, Nat.reduceAdd, Nat.reduceSub, Nat.reduceMul, Nat.reduceLeDiff, Nat.reduceBEq, Nat.reduceBNe, Int.reduceNeg, Int.reduceAdd, Int.reduceSub, Int.reduceToNat, nilTest, shiftH, Blk.ren, V.ren, renL, initV, frameH, putL, frρ, dI, dW]
        first | refine acall_flat' (L1) rfl ?_ | refine dcall_flat' (L1) rfl ?_ | refine acall_ice' (L1) ?_ | refine dcall_still' (L1) rfl ?_
        try simp (maxSteps := 2000000) -implicitDefEqProofs only [zz, zE, evop, ev, ofVal, tget, tput, ok, V.isUndef, intBin, guardOf, initT, Ch.on, calleeOf, withArgs, told, xport, xports, tids, tidss, hget, hput, Blk.ice, freeze, V.cells, D.cells, V.isAgg, V.one, V.clo, clos, V.toD, loadD, structAt, eqCells, D.scalarEq, sliceOf, partsD, partsV, bound, isPtr, Blk.width, elems, lenOf, splice, D.over, resOf, resV, resVs, ↓reduceIte, reduceCtorEq, ↓reduceDIte, Nat.reduceLT, Nat.reduceEqDiff, Nat.reduceAdd, Nat.reduceSub, Nat.reduceMul, Nat.reduceLeDiff, Nat.reduceBEq, Nat.reduceBNe, Int.reduceNeg, Int.reduceAdd, Int.reduceSub, Int.reduceToNat, nilTest, shiftH, Blk.ren, V.ren, renL, initV, frameH, putL, frρ, dI, dW]
        try simp (maxSteps := 2000000) -implicitDefEqProofs only [zz, zE, evop, ev, ofVal, tget, tput, ok, V.isUndef, intBin, guardOf, initT, Ch.on, calleeOf, withArgs, told, xport, xports, tids, tidss, hget, hput, Blk.ice, freeze, V.cells, D.cells, V.isAgg, V.one, V.clo, clos, V.toD, loadD, structAt, eqCells, D.scalarEq, sliceOf, partsD, partsV, bound, isPtr, Blk.width, elems, lenOf, splice, D.over, resOf, resV, resVs, ↓reduceIte, reduceCtorEq, ↓reduceDIte, Nat.reduceLT, Nat.reduceEqDiff, Nat.reduceAdd, Nat.reduceSub, Nat.reduceMul, Nat.reduceLeDiff, Nat.reduceBEq, Nat.reduceBNe, Int.reduceNeg, Int.reduceAdd, Int.reduceSub, Int.reduceToNat, nilTest, shiftH, Blk.ren, V.ren, renL, initV, frameH, putL, frρ, dI, dW]
        first | refine acall_flat' (L2) rfl ?_ | refine dcall_flat' (L2) rfl ?_ | refine acall_ice' (L2) ?_ | refine dcall_still' (L2) rfl ?_
        try simp (maxSteps := 2000000) -implicitDefEqProofs only [zz, zE, evop, ev, ofVal, tget, tput, ok, V.isUndef, intBin, guardOf, initT, Ch.on, calleeOf, withArgs, told, xport, xports, tids, tidss, hget, hput, Blk.ice, freeze, V.cells, D.cells, V.isAgg, V.one, V.clo, clos, V.toD, loadD, structAt, eqCells, D.scalarEq, sliceOf, partsD, partsV, bound, isPtr, Blk.width, elems, lenOf, splice, D.over, resOf, resV, resVs, ↓reduceIte, reduceCtorEq, ↓reduceDIte, Nat.reduceLT, Nat.reduceEqDiff, Nat.reduceAdd, Nat.reduceSub, Nat.reduceMul, Nat.reduceLeDiff, Nat.reduceBEq, Nat.reduceBNe, Int.reduceNeg, Int.reduceAdd, Int.reduceSub, Int.reduceToNat, nilTest, shiftH, Blk.ren, V.ren, renL, initV, frameH, putL, frρ, dI, dW]
        try simp (maxSteps := 2000000) -implicitDefEqProofs only [zz, zE, evop, ev, ofVal, tget, tput, ok, V.isUndef, intBin, guardOf, initT, Ch.on, calleeOf, withArgs, told, xport, xports, tids, tidss, hget, hput, Blk.ice, freeze, V.cells, D.cells, V.isAgg, V.one, V.clo, clos, V.toD, loadD, structAt, eqCells, D.scalarEq, sliceOf, partsD, partsV, bound, isPtr, Blk.width, elems, lenOf, splice, D.over, resOf, resV, resVs, ↓reduceIte, reduceCtorEq, ↓reduceDIte, Nat.reduceLT, Nat.reduceEqDiff, Nat.reduceAdd, Nat.reduceSub, Nat.reduceMul, Nat.reduceLeDiff, Nat.reduceBEq, Nat.reduceBNe, Int.reduceNeg, Int.reduceAdd, Int.reduceSub, Int.reduceToNat, nilTest, shiftH, Blk.ren, V.ren, renL, initV, frameH, putL, frρ, dI, dW]
        first | refine acall_flat' (V6) rfl ?_ | refine dcall_flat' (V6) rfl ?_ | refine acall_ice' (V6) ?_ | refine dcall_still' (V6) rfl ?_
        try simp (maxSteps := 2000000) -implicitDefEqProofs only [zz, zE, evop, ev, ofVal, tget, tput, ok, V.isUndef, intBin, guardOf, initT, Ch.on, calleeOf, withArgs, told, xport, xports, tids, tidss, hget, hput, Blk.ice, freeze, V.cells, D.cells, V.isAgg, V.one, V.clo, clos, V.toD, loadD, structAt, eqCells, D.scalarEq, sliceOf, partsD, partsV, bound, isPtr, Blk.width, elems, lenOf, splice, D.over, resOf, resV, resVs, ↓reduceIte, reduceCtorEq, ↓reduceDIte, Nat.reduceLT, Nat.reduceEqDiff, Nat.reduceAdd, Nat.reduceSub, Nat.reduceMul, Nat.reduceLeDiff, Nat.reduceBEq, Nat.reduceBNe, Int.reduceNeg, Int.reduceAdd, Int.reduceSub, Int.reduceToNat, nilTest, shiftH, Blk.ren, V.ren, renL, initV, frameH, putL, frρ, dI, dW]
        try simp (maxSteps := 2000000) -implicitDefEqProofs only [zz, zE, evop, ev, ofVal, tget, tput, ok, V.isUndef, intBin, guardOf, initT, Ch.on, calleeOf, withArgs, told, xport, xports, tids, tidss, hget, hput, Blk.ice, freeze, V.cells, D.cells, V.isAgg, V.one, V.clo, clos, V.toD, loadD, structAt, eqCells, D.scalarEq, sliceOf, partsD, partsV, bound, isPtr, Blk.width, elems, lenOf, splice, D.over, resOf, resV, resVs, ↓reduceIte, reduceCtorEq, ↓reduceDIte, Nat.reduceLT, Nat.reduceEqDiff, Nat.reduceAdd, Nat.reduceSub, Nat.reduceMul, Nat.reduceLeDiff, Nat.reduceBEq, Nat.reduceBNe, Int.reduceNeg, Int.reduceAdd, Int.reduceSub, Int.reduceToNat, nilTest, shiftH, Blk.ren, V.ren, renL, initV, frameH, putL, frρ, dI, dW]
        first | refine acall_flat' (c_awake17) rfl ?_ | refine dcall_flat' (c_awake17) rfl ?_ | refine acall_ice' (c_awake17) ?_ | refine dcall_still' (c_awake17) rfl ?_
        try simp (maxSteps := 2000000) -implicitDefEqProofs only [zz, zE, evop, ev, ofVal, tget, tput, ok, V.isUndef, intBin, guardOf, initT, Ch.on, calleeOf, withArgs, told, xport, xports, tids, tidss, hget, hput, Blk.ice, freeze, V.cells, D.cells, V.isAgg, V.one, V.clo, clos, V.toD, loadD, structAt, eqCells, D.scalarEq, sliceOf, partsD, partsV, bound, isPtr, Blk.width, elems, lenOf, splice, D.over, resOf, resV, resVs, ↓reduceIte, reduceCtorEq, ↓reduceDIte, Nat.reduceLT, Nat.reduceEqDiff, Nat.reduceAdd, Nat.reduceSub, Nat.reduceMul, Nat.reduceLeDiff, Nat.reduceBEq, Nat.reduceBNe, Int.reduceNeg, Int.reduceAdd, Int.reduceSub, Int.reduceToNat, nilTest, shiftH, Blk.ren, V.ren, renL, initV, frameH, putL, frρ, dI, dW]
end Go.Proofs.Ytaejlmengfahnaa.AM

set_option linter.all false
set_option maxRecDepth 100000
set_option maxHeartbeats 2000000
namespace Go.Proofs.Ytaejlmengfahnaa.AM
open Go Go.RowKit

def itJ (now : Int) (t : Nat → Int) (j : Nat) : Int × Int := ((j : Int) + 1, now + t j)
structure Has (now : Int) (t : Nat → Int) (w : Wh) (J : List Nat) : Prop where
  right : RightW w
  at_ : w.now = now
  mem : ∀ x, x ∈ itemsW w ↔ ∃ j ∈ J, x = itJ now t j
  len : (itemsW w).length = J.length
theorem Has.zero {now : Int} (h : tickR now = true) (t : Nat → Int) : Has now t (newW now) [] := by
  have h0 : itemsW (newW now) = [] := rfl
  have hn : (newW now).now = now := by simp [newW, h]
  refine ⟨⟨by rw [hn]; exact h, rfl, fun i l hl x hx => ?_, fun l hl => ?_, ?_⟩, hn, fun x => by rw [h0]; simp, by rw [h0]; rfl⟩
  · have : l = [] := List.eq_of_mem_replicate (List.mem_of_getElem? hl)
    subst this; cases hx
  · have : l = [] := List.eq_of_mem_replicate hl
    subst this; exact List.Pairwise.nil
  · show (List.map _ (List.flatten (List.replicate 8 []))).Nodup
    simp
theorem Has.next {now : Int} {t : Nat → Int} {w : Wh} {J : List Nat} (h : Has now t w J) {j : Nat} (hj : j ∉ J) (h8 : j < 8) (ht : 1 ≤ t j ∧ t j ≤ 200) (hn : now + 200 ≤ 2147483647) :
    (setW w ((j : Int) + 1) (t j)).2 = 0 ∧ Has now t (setW w ((j : Int) + 1) (t j)).1 (J ++ [j]) := by
  have hF := right_fit h.right
  have hrn := h.right.now
  simp only [tickR, Bool.and_eq_true, decide_eq_true_eq] at hrn
  have hnn := h.at_
  have hno : hasW w ((j : Int) + 1) = false := by
    unfold hasW
    rw [List.any_eq_false]
    intro x hx
    obtain ⟨i, hi, rfl⟩ := (h.mem x).1 hx
    have : i ≠ j := fun e => hj (e ▸ hi)
    simp only [itJ, beq_iff_eq]; omega
  have hta : tickAfter w.now (t j) = (w.now + t j, 0) := after_in (by omega) (by omega) (by omega)
  have hwb : whB ((j : Int) + 1) = true := by simp [whB]; omega
  have h2 : (setW w ((j : Int) + 1) (t j)).2 = 0 := by
    unfold setW
    rw [if_pos ⟨(rightB_iff h.right.len).2 h.right, hwb⟩, hno, hta]
    simp
  rcases set_two hF ((j : Int) + 1) (t j) with ⟨h3, _⟩ | ⟨_, hO⟩
  · exact absurd h2 h3
  refine ⟨h2, hO.ra, by rw [hO.now, hnn], fun x => ?_, ?_⟩
  · rw [hO.items, mem_insI, h.mem]
    constructor
    · rintro (rfl | ⟨i, hi, rfl⟩)
      · exact ⟨j, by simp, by simp [itJ, hnn]⟩
      · exact ⟨i, by simp [hi], rfl⟩
    · rintro ⟨i, hi, rfl⟩
      rcases List.mem_append.1 hi with g | g
      · exact .inr ⟨i, g, rfl⟩
      · obtain rfl : i = j := by simpa using g
        exact .inl (by simp [itJ, hnn])
  · rw [hO.items, ins_len, h.len]; simp
theorem Has.unique {now : Int} {t : Nat → Int} {w v : Wh} {J K : List Nat} (h : Has now t w J) (h' : Has now t v K) (hm : ∀ j, j ∈ J ↔ j ∈ K) : w = v := by
  have e : itemsW w = itemsW v := srt_unique h.right.sorted h'.right.sorted (fun x => by
    rw [h.mem, h'.mem]
    simp only [hm])
  have e1 := h.right.of
  have e2 := h'.right.of
  rw [h.at_, e] at e1
  rw [h'.at_] at e2
  exact e1.symm.trans e2
theorem Has.turn {now : Int} {t : Nat → Int} {w : Wh} {J : List Nat} (h : Has now t w J) (ht : ∀ j ∈ J, t j ≤ 200) (hn : now + 200 ≤ 2147483647) :
    turnW w 200 = (ofW (now + 200) [], itemsW w, 0) := by
  have hrn := h.right.now
  simp only [tickR, Bool.and_eq_true, decide_eq_true_eq] at hrn
  have hnn := h.at_
  have hta : tickAfter w.now 200 = (w.now + 200, 0) := after_in (by omega) (by omega) (by omega)
  have hall : ∀ x ∈ itemsW w, x.2 ≤ w.now + 200 := fun x hx => by
    obtain ⟨j, hj, rfl⟩ := (h.mem x).1 hx
    have := ht j hj
    simp only [itJ]; omega
  unfold turnW
  rw [if_pos ((rightB_iff h.right.len).2 h.right), hta, if_pos rfl, sieveW_of h.right]
  have e1 : (itemsW w).filter (fun x => !decide (x.2 ≤ w.now + 200)) = [] := List.filter_eq_nil_iff.2 (fun x hx => by simpa using hall x hx)
  have e2 : (itemsW w).filter (fun x => decide (x.2 ≤ w.now + 200)) = itemsW w := List.filter_eq_self.2 (fun x hx => by simpa using hall x hx)
  show (ofW (w.now + 200) _, _, (0 : Int)) = _
  rw [e1, e2, hnn]
def kJ (n : Nat) (by_ : Nat) (i : Nat) : Nat := (n - i + by_) % n
theorem kJ_inj {n b i j : Nat} (hi : i < n) (hj : j < n) (h : kJ n b i = kJ n b j) : i = j := by
  unfold kJ at h
  have hi' : (n - i + b) % n = (n - j + b) % n := h
  rcases Nat.lt_trichotomy i j with g | g | g
  · have e : n - i + b = (n - j + b) + (j - i) := by omega
    rw [e, Nat.add_mod] at hi'
    have h1 : (j - i) % n = j - i := Nat.mod_eq_of_lt (by omega)
    rw [h1] at hi'
    have h2 : (n - j + b) % n < n := Nat.mod_lt _ (by omega)
    generalize (n - j + b) % n = r at hi' h2
    rcases Nat.lt_or_ge (r + (j - i)) n with q | q
    · rw [Nat.mod_eq_of_lt q] at hi'; omega
    · rw [Nat.mod_eq_sub_mod q, Nat.mod_eq_of_lt (by omega)] at hi'; omega
  · exact g
  · have e : n - j + b = (n - i + b) + (i - j) := by omega
    rw [e, Nat.add_mod (n - i + b) (i - j)] at hi'
    have h1 : (i - j) % n = i - j := Nat.mod_eq_of_lt (by omega)
    rw [h1] at hi'
    have h2 : (n - i + b) % n < n := Nat.mod_lt _ (by omega)
    generalize (n - i + b) % n = r at hi' h2
    rcases Nat.lt_or_ge (r + (i - j)) n with q | q
    · rw [Nat.mod_eq_of_lt q] at hi'; omega
    · rw [Nat.mod_eq_sub_mod q, Nat.mod_eq_of_lt (by omega)] at hi'; omega
theorem kJ_lt {n b i : Nat} (hn : 0 < n) : kJ n b i < n := Nat.mod_lt _ hn
def ksJ (n b i : Nat) : List Nat := (List.range i).map (kJ n b)
theorem ksJ_succ (n b i : Nat) : ksJ n b (i + 1) = ksJ n b i ++ [kJ n b i] := by simp [ksJ, List.range_succ]
theorem ksJ_new {n b i : Nat} (hi : i < n) : kJ n b i ∉ ksJ n b i := fun h => by
  obtain ⟨j, hj, e⟩ := List.mem_map.1 h
  have hj' := List.mem_range.1 hj
  have := kJ_inj (by omega) hi e
  omega
theorem ksJ_nodup {n b : Nat} : ∀ i, i ≤ n → (ksJ n b i).Nodup
  | 0, _ => by simp [ksJ]
  | i + 1, h => by
    rw [ksJ_succ, List.nodup_append]
    refine ⟨ksJ_nodup i (by omega), by simp, fun x hx y hy e => ?_⟩
    obtain rfl : y = kJ n b i := by simpa using hy
    exact ksJ_new (by omega) (e ▸ hx)
theorem all_under : ∀ (n : Nat) (l : List Nat), l.Nodup → l.length = n → (∀ x ∈ l, x < n) → ∀ j, j < n → j ∈ l
  | 0, _, _, _, _, j, h => by omega
  | n + 1, l, hn, hl, hb, j, hj => by
    have hmem : n ∈ l := by
      false_or_by_contra
      rename_i hnot
      have hlt : ∀ x ∈ l, x < n := fun x hx => by
        have := hb x hx
        have : x ≠ n := fun e => hnot (e ▸ hx)
        omega
      have := pig n (l.map fun x : Nat => (x : Int) + 1) (by
        rw [List.Nodup, List.pairwise_map]
        exact hn.imp (fun h e => h (by omega))) (fun y hy => by
        obtain ⟨x, hx, rfl⟩ := List.mem_map.1 hy
        have := hlt x hx; omega)
      rw [List.length_map, hl] at this; omega
    by_cases e : j = n
    · rw [e]; exact hmem
    · have h1 := all_under n (l.erase n) (hn.erase n) (by rw [List.length_erase_of_mem hmem]; omega) (fun x hx => by
        have h2 := (List.Nodup.mem_erase_iff hn).1 hx
        have := hb x h2.2
        have := h2.1
        omega) j (by omega)
      exact List.mem_of_mem_erase h1
theorem ksJ_all {n b : Nat} (j : Nat) : j ∈ ksJ n b n ↔ j ∈ List.range n := by
  rw [List.mem_range]
  constructor
  · intro h
    obtain ⟨i, hi, rfl⟩ := List.mem_map.1 h
    have := List.mem_range.1 hi
    exact kJ_lt (by omega)
  · intro h
    exact all_under n _ (ksJ_nodup n (Nat.le_refl n)) (by simp [ksJ]) (fun x hx => by
      obtain ⟨i, hi, rfl⟩ := List.mem_map.1 hx
      have := List.mem_range.1 hi
      exact kJ_lt (by omega)) j h
end Go.Proofs.Ytaejlmengfahnaa.AM
