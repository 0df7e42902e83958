/- The texts Ui, Uj, Uk, Ul, Um, Un, Uo, Up, Uq, Ur, Us, joined. -/
import Derived.Test.YtaejlmengfahnaaJWA3

set_option linter.all false
set_option linter.all false
set_option maxRecDepth 100000
set_option maxHeartbeats 8000000
namespace Go.Proofs.Ytaejlmengfahnaa.AM
open Go Go.RowKit

theorem xports_slots' {H : Heap} {k : Nat} (w : Wh) (hk : 8 < k) (hs : w.slots.length = 8) : xports H k (slotsV w) = some (w.slots.map fun l => D.vec (l.map dW)) := xports_ds _ k (by simp [hs]; exact hk)
def newW (n : Int) : Wh := ⟨if tickR n = true then n else 0, List.replicate 8 []⟩
theorem c_wh_New (n : Int) : CSpec Try.prog 19 [.int .i64 n] (.tuple [dWh (newW n), .int .i64 (if tickR n = true then 0 else 1)]) := by
  have hr := c_tick_Right n
  refine CSpec.of_awp envOf_ok hmix Try.func19 rfl (fun args w => Try.call19 args w) (by simp [Try.f19]) ?_
  simp only [Try.f19]
  simp (maxSteps := 2000000) -implicitDefEqProofs only [zz, zE, evop, ev, ofVal, tget, tput, ok, V.isUndef, intBin, guardOf, initT, Ch.on, calleeOf, withArgs, told, xport, xports, tids, tidss, hget, hput, Blk.ice, freeze, V.cells, D.cells, V.isAgg, V.one, V.clo, clos, V.toD, loadD, structAt, eqCells, D.scalarEq, sliceOf, partsD, partsV, bound, isPtr, Blk.width, elems, lenOf, splice, D.over, resOf, resV, resVs, ↓reduceIte, reduceCtorEq, ↓reduceDIte, Nat.reduceLT, Nat.reduceEqDiff, Nat.reduceAdd, Nat.reduceSub, Nat.reduceMul, Nat.reduceLeDiff, Nat.reduceBEq, Nat.reduceBNe, Int.reduceNeg, Int.reduceAdd, Int.reduceSub, Int.reduceToNat, nilTest, shiftH, Blk.ren, V.ren, renL, initV, frameH, putL, frρ, dI, dW]
  refine acall_flat' (hr) rfl ?_
  try simp (maxSteps := 2000000) -implicitDefEqProofs only [zz, zE, evop, ev, ofVal, tget, tput, ok, V.isUndef, intBin, guardOf, initT, Ch.on, calleeOf, withArgs, told, xport, xports, tids, tidss, hget, hput, Blk.ice, freeze, V.cells, D.cells, V.isAgg, V.one, V.clo, clos, V.toD, loadD, structAt, eqCells, D.scalarEq, sliceOf, partsD, partsV, bound, isPtr, Blk.width, elems, lenOf, splice, D.over, resOf, resV, resVs, ↓reduceIte, reduceCtorEq, ↓reduceDIte, Nat.reduceLT, Nat.reduceEqDiff, Nat.reduceAdd, Nat.reduceSub, Nat.reduceMul, Nat.reduceLeDiff, Nat.reduceBEq, Nat.reduceBNe, Int.reduceNeg, Int.reduceAdd, Int.reduceSub, Int.reduceToNat, nilTest, shiftH, Blk.ren, V.ren, renL, initV, frameH, putL, frρ, dI, dW]
  cases h : tickR n with
  | false =>
    simp (maxSteps := 2000000) -implicitDefEqProofs only [zz, zE, evop, ev, ofVal, tget, tput, ok, V.isUndef, intBin, guardOf, initT, Ch.on, calleeOf, withArgs, told, xport, xports, tids, tidss, hget, hput, Blk.ice, freeze, V.cells, D.cells, V.isAgg, V.one, V.clo, clos, V.toD, loadD, structAt, eqCells, D.scalarEq, sliceOf, partsD, partsV, bound, isPtr, Blk.width, elems, lenOf, splice, D.over, resOf, resV, resVs, ↓reduceIte, reduceCtorEq, ↓reduceDIte, Nat.reduceLT, Nat.reduceEqDiff, Nat.reduceAdd, Nat.reduceSub, Nat.reduceMul, Nat.reduceLeDiff, Nat.reduceBEq, Nat.reduceBNe, Int.reduceNeg, Int.reduceAdd, Int.reduceSub, Int.reduceToNat, nilTest, shiftH, Blk.ren, V.ren, renL, initV, frameH, putL, frρ, dI, dW]
    simp [dWh, newW, h]
  | true =>
    simp (maxSteps := 2000000) -implicitDefEqProofs only [zz, zE, evop, ev, ofVal, tget, tput, ok, V.isUndef, intBin, guardOf, initT, Ch.on, calleeOf, withArgs, told, xport, xports, tids, tidss, hget, hput, Blk.ice, freeze, V.cells, D.cells, V.isAgg, V.one, V.clo, clos, V.toD, loadD, structAt, eqCells, D.scalarEq, sliceOf, partsD, partsV, bound, isPtr, Blk.width, elems, lenOf, splice, D.over, resOf, resV, resVs, ↓reduceIte, reduceCtorEq, ↓reduceDIte, Nat.reduceLT, Nat.reduceEqDiff, Nat.reduceAdd, Nat.reduceSub, Nat.reduceMul, Nat.reduceLeDiff, Nat.reduceBEq, Nat.reduceBNe, Int.reduceNeg, Int.reduceAdd, Int.reduceSub, Int.reduceToNat, nilTest, shiftH, Blk.ren, V.ren, renL, initV, frameH, putL, frρ, dI, dW]
    simp [dWh, newW, h]

theorem c_wh_Items (w : Wh) (hs : w.slots.length = 8) (hl : ∀ l ∈ w.slots, l.length ≤ 1000000) : CSpec Try.prog 20 [dWh w] (.vec ((if rightB w = true then itemsW w else []).map dW)) := by
  have hr := c_wh_Right w hs hl
  have hs8 : 8 ≤ w.slots.length := by omega
  have ht8 : List.take 8 (List.map V.d (List.map (fun l => D.vec (List.map dW l)) w.slots)) = slotsV w := List.take_of_length_le (by simp [hs])
  refine CSpec.of_awp envOf_ok hmix Try.func20 rfl (fun args w => Try.call20 args w) (by simp [Try.f20]) ?_
  simp only [Try.f20]
  simp (maxSteps := 2000000) -implicitDefEqProofs only [zz, zE, evop, ev, ofVal, tget, tput, ok, V.isUndef, intBin, guardOf, initT, Ch.on, calleeOf, withArgs, told, xport, xports, tids, tidss, hget, hput, Blk.ice, freeze, V.cells, D.cells, V.isAgg, V.one, V.clo, clos, V.toD, loadD, structAt, eqCells, D.scalarEq, sliceOf, partsD, partsV, bound, isPtr, Blk.width, elems, lenOf, splice, D.over, resOf, resV, resVs, ↓reduceIte, reduceCtorEq, ↓reduceDIte, Nat.reduceLT, Nat.reduceEqDiff, Nat.reduceAdd, Nat.reduceSub, Nat.reduceMul, Nat.reduceLeDiff, Nat.reduceBEq, Nat.reduceBNe, Int.reduceNeg, Int.reduceAdd, Int.reduceSub, Int.reduceToNat, nilTest, shiftH, Blk.ren, V.ren, renL, initV, frameH, putL, frρ, dI, dW]
  unfold dWh
  try simp (maxSteps := 2000000) -implicitDefEqProofs only [zz, zE, evop, ev, ofVal, tget, tput, ok, V.isUndef, intBin, guardOf, initT, Ch.on, calleeOf, withArgs, told, xport, xports, tids, tidss, hget, hput, Blk.ice, freeze, V.cells, D.cells, V.isAgg, V.one, V.clo, clos, V.toD, loadD, structAt, eqCells, D.scalarEq, sliceOf, partsD, partsV, bound, isPtr, Blk.width, elems, lenOf, splice, D.over, resOf, resV, resVs, ↓reduceIte, reduceCtorEq, ↓reduceDIte, Nat.reduceLT, Nat.reduceEqDiff, Nat.reduceAdd, Nat.reduceSub, Nat.reduceMul, Nat.reduceLeDiff, Nat.reduceBEq, Nat.reduceBNe, Int.reduceNeg, Int.reduceAdd, Int.reduceSub, Int.reduceToNat, nilTest, shiftH, Blk.ren, V.ren, renL, initV, frameH, putL, frρ, dI, dW, hs8, ht8]
  refine acall_flat (ds := [dWh w]) (by simp only [xports, xport_wh w hs]) hr rfl ?_
  cases h : rightB w with
  | false =>
    simp (maxSteps := 2000000) -implicitDefEqProofs only [zz, zE, evop, ev, ofVal, tget, tput, ok, V.isUndef, intBin, guardOf, initT, Ch.on, calleeOf, withArgs, told, xport, xports, tids, tidss, hget, hput, Blk.ice, freeze, V.cells, D.cells, V.isAgg, V.one, V.clo, clos, V.toD, loadD, structAt, eqCells, D.scalarEq, sliceOf, partsD, partsV, bound, isPtr, Blk.width, elems, lenOf, splice, D.over, resOf, resV, resVs, ↓reduceIte, reduceCtorEq, ↓reduceDIte, Nat.reduceLT, Nat.reduceEqDiff, Nat.reduceAdd, Nat.reduceSub, Nat.reduceMul, Nat.reduceLeDiff, Nat.reduceBEq, Nat.reduceBNe, Int.reduceNeg, Int.reduceAdd, Int.reduceSub, Int.reduceToNat, nilTest, shiftH, Blk.ren, V.ren, renL, initV, frameH, putL, frρ, dI, dW]
  | true =>
    have ha := c_wh_all w hs (by have := ((rightB_iff hs).1 h).few; omega)
    simp (maxSteps := 2000000) -implicitDefEqProofs only [zz, zE, evop, ev, ofVal, tget, tput, ok, V.isUndef, intBin, guardOf, initT, Ch.on, calleeOf, withArgs, told, xport, xports, tids, tidss, hget, hput, Blk.ice, freeze, V.cells, D.cells, V.isAgg, V.one, V.clo, clos, V.toD, loadD, structAt, eqCells, D.scalarEq, sliceOf, partsD, partsV, bound, isPtr, Blk.width, elems, lenOf, splice, D.over, resOf, resV, resVs, ↓reduceIte, reduceCtorEq, ↓reduceDIte, Nat.reduceLT, Nat.reduceEqDiff, Nat.reduceAdd, Nat.reduceSub, Nat.reduceMul, Nat.reduceLeDiff, Nat.reduceBEq, Nat.reduceBNe, Int.reduceNeg, Int.reduceAdd, Int.reduceSub, Int.reduceToNat, nilTest, shiftH, Blk.ren, V.ren, renL, initV, frameH, putL, frρ, dI, dW, hs8, ht8]
    refine acall_ice (ds := [dWh w]) (by simp only [xports, xport_wh w hs]) ha ?_
    simp (maxSteps := 2000000) -implicitDefEqProofs only [zz, zE, evop, ev, ofVal, tget, tput, ok, V.isUndef, intBin, guardOf, initT, Ch.on, calleeOf, withArgs, told, xport, xports, tids, tidss, hget, hput, Blk.ice, freeze, V.cells, D.cells, V.isAgg, V.one, V.clo, clos, V.toD, loadD, structAt, eqCells, D.scalarEq, sliceOf, partsD, partsV, bound, isPtr, Blk.width, elems, lenOf, splice, D.over, resOf, resV, resVs, ↓reduceIte, reduceCtorEq, ↓reduceDIte, Nat.reduceLT, Nat.reduceEqDiff, Nat.reduceAdd, Nat.reduceSub, Nat.reduceMul, Nat.reduceLeDiff, Nat.reduceBEq, Nat.reduceBNe, Int.reduceNeg, Int.reduceAdd, Int.reduceSub, Int.reduceToNat, nilTest, shiftH, Blk.ren, V.ren, renL, initV, frameH, putL, frρ, dI, dW, tidss_slots, AM.freeze]

def clearW (w : Wh) (who : Int) : Wh × Int := if rightB w = true then (if hasW w who = true then (sieveW w.now w fun x => !(x.1 == who), 0) else (w, 3)) else (w, 1)
theorem c_wh_Clear (w : Wh) (who : Int) (hs : w.slots.length = 8) (hl : ∀ l ∈ w.slots, l.length ≤ 1000000) : CSpec Try.prog 14 [dWh w, .int .i64 who] (.tuple [dWh (clearW w who).1, .int .i64 (clearW w who).2]) := by
  have hr := c_wh_Right w hs hl
  have hs8 : 8 ≤ w.slots.length := by omega
  have hsl : (slotsV w).length = 8 := by simp [slotsV, hs]
  have ht9 : List.take 8 (slotsV w) = slotsV w := List.take_of_length_le (by omega)
  have ht8 : List.take 8 (List.map V.d (List.map (fun l => D.vec (List.map dW l)) w.slots)) = slotsV w := List.take_of_length_le (by simp [hs])
  refine CSpec.of_awp envOf_ok hmix Try.func14 rfl (fun args w => Try.call14 args w) (by simp [Try.f14]) ?_
  simp only [Try.f14]
  simp (maxSteps := 2000000) -implicitDefEqProofs only [zz, zE, evop, ev, ofVal, tget, tput, ok, V.isUndef, intBin, guardOf, initT, Ch.on, calleeOf, withArgs, told, xport, xports, tids, tidss, hget, hput, Blk.ice, freeze, V.cells, D.cells, V.isAgg, V.one, V.clo, clos, V.toD, loadD, structAt, eqCells, D.scalarEq, sliceOf, partsD, partsV, bound, isPtr, Blk.width, elems, lenOf, splice, D.over, resOf, resV, resVs, ↓reduceIte, reduceCtorEq, ↓reduceDIte, Nat.reduceLT, Nat.reduceEqDiff, Nat.reduceAdd, Nat.reduceSub, Nat.reduceMul, Nat.reduceLeDiff, Nat.reduceBEq, Nat.reduceBNe, Int.reduceNeg, Int.reduceAdd, Int.reduceSub, Int.reduceToNat, nilTest, shiftH, Blk.ren, V.ren, renL, initV, frameH, putL, frρ, dI, dW]
  unfold dWh
  try simp (maxSteps := 2000000) -implicitDefEqProofs only [zz, zE, evop, ev, ofVal, tget, tput, ok, V.isUndef, intBin, guardOf, initT, Ch.on, calleeOf, withArgs, told, xport, xports, tids, tidss, hget, hput, Blk.ice, freeze, V.cells, D.cells, V.isAgg, V.one, V.clo, clos, V.toD, loadD, structAt, eqCells, D.scalarEq, sliceOf, partsD, partsV, bound, isPtr, Blk.width, elems, lenOf, splice, D.over, resOf, resV, resVs, ↓reduceIte, reduceCtorEq, ↓reduceDIte, Nat.reduceLT, Nat.reduceEqDiff, Nat.reduceAdd, Nat.reduceSub, Nat.reduceMul, Nat.reduceLeDiff, Nat.reduceBEq, Nat.reduceBNe, Int.reduceNeg, Int.reduceAdd, Int.reduceSub, Int.reduceToNat, nilTest, shiftH, Blk.ren, V.ren, renL, initV, frameH, putL, frρ, dI, dW, hs8, ht8]
  refine acall_flat (ds := [dWh w]) (by simp only [xports, xport_wh w hs]) hr rfl ?_
  cases h : rightB w with
  | false =>
    have e : clearW w who = (w, 1) := by simp [clearW, h]
    rw [e]
    simp (maxSteps := 2000000) -implicitDefEqProofs only [zz, zE, evop, ev, ofVal, tget, tput, ok, V.isUndef, intBin, guardOf, initT, Ch.on, calleeOf, withArgs, told, xport, xports, tids, tidss, hget, hput, Blk.ice, freeze, V.cells, D.cells, V.isAgg, V.one, V.clo, clos, V.toD, loadD, structAt, eqCells, D.scalarEq, sliceOf, partsD, partsV, bound, isPtr, Blk.width, elems, lenOf, splice, D.over, resOf, resV, resVs, ↓reduceIte, reduceCtorEq, ↓reduceDIte, Nat.reduceLT, Nat.reduceEqDiff, Nat.reduceAdd, Nat.reduceSub, Nat.reduceMul, Nat.reduceLeDiff, Nat.reduceBEq, Nat.reduceBNe, Int.reduceNeg, Int.reduceAdd, Int.reduceSub, Int.reduceToNat, nilTest, shiftH, Blk.ren, V.ren, renL, initV, frameH, putL, frρ, dI, dW, hs8, ht8, ht9, slots_one, hsl, List.length_cons]
    simp only [xports_slots' w (show 8 < 36 by decide) hs, xports_slots' w (show 8 < 37 by decide) hs, xports_slots' w (show 8 < 38 by decide) hs]
  | true =>
    have hh := c_wh_has w who hs (by have := ((rightB_iff hs).1 h).few; omega)
    simp (maxSteps := 2000000) -implicitDefEqProofs only [zz, zE, evop, ev, ofVal, tget, tput, ok, V.isUndef, intBin, guardOf, initT, Ch.on, calleeOf, withArgs, told, xport, xports, tids, tidss, hget, hput, Blk.ice, freeze, V.cells, D.cells, V.isAgg, V.one, V.clo, clos, V.toD, loadD, structAt, eqCells, D.scalarEq, sliceOf, partsD, partsV, bound, isPtr, Blk.width, elems, lenOf, splice, D.over, resOf, resV, resVs, ↓reduceIte, reduceCtorEq, ↓reduceDIte, Nat.reduceLT, Nat.reduceEqDiff, Nat.reduceAdd, Nat.reduceSub, Nat.reduceMul, Nat.reduceLeDiff, Nat.reduceBEq, Nat.reduceBNe, Int.reduceNeg, Int.reduceAdd, Int.reduceSub, Int.reduceToNat, nilTest, shiftH, Blk.ren, V.ren, renL, initV, frameH, putL, frρ, dI, dW, hs8, ht8]
    refine acall_flat (ds := [dWh w, .int .i64 who]) (by simp only [xports, xport_wh w hs]; rfl) hh rfl ?_
    cases h2 : hasW w who with
    | false =>
      have e : clearW w who = (w, 3) := by simp [clearW, h, h2]
      rw [e]
      simp (maxSteps := 2000000) -implicitDefEqProofs only [zz, zE, evop, ev, ofVal, tget, tput, ok, V.isUndef, intBin, guardOf, initT, Ch.on, calleeOf, withArgs, told, xport, xports, tids, tidss, hget, hput, Blk.ice, freeze, V.cells, D.cells, V.isAgg, V.one, V.clo, clos, V.toD, loadD, structAt, eqCells, D.scalarEq, sliceOf, partsD, partsV, bound, isPtr, Blk.width, elems, lenOf, splice, D.over, resOf, resV, resVs, ↓reduceIte, reduceCtorEq, ↓reduceDIte, Nat.reduceLT, Nat.reduceEqDiff, Nat.reduceAdd, Nat.reduceSub, Nat.reduceMul, Nat.reduceLeDiff, Nat.reduceBEq, Nat.reduceBNe, Int.reduceNeg, Int.reduceAdd, Int.reduceSub, Int.reduceToNat, nilTest, shiftH, Blk.ren, V.ren, renL, initV, frameH, putL, frρ, dI, dW, hs8, ht8, ht9, slots_one, hsl, List.length_cons]
      simp only [xports_slots' w (show 8 < 36 by decide) hs, xports_slots' w (show 8 < 37 by decide) hs, xports_slots' w (show 8 < 38 by decide) hs]
    | true =>
      have e : clearW w who = (sieveW w.now w fun x => !(x.1 == who), 0) := by simp [clearW, h, h2]
      have hw := c_wh_without w hs hl 39 (.imm (.agg [.int .i64 who]) 0) (fun x => x.1 == who) (fun x => c_Clear1 x who)
      rw [e]
      simp (maxSteps := 2000000) -implicitDefEqProofs only [zz, zE, evop, ev, ofVal, tget, tput, ok, V.isUndef, intBin, guardOf, initT, Ch.on, calleeOf, withArgs, told, xport, xports, tids, tidss, hget, hput, Blk.ice, freeze, V.cells, D.cells, V.isAgg, V.one, V.clo, clos, V.toD, loadD, structAt, eqCells, D.scalarEq, sliceOf, partsD, partsV, bound, isPtr, Blk.width, elems, lenOf, splice, D.over, resOf, resV, resVs, ↓reduceIte, reduceCtorEq, ↓reduceDIte, Nat.reduceLT, Nat.reduceEqDiff, Nat.reduceAdd, Nat.reduceSub, Nat.reduceMul, Nat.reduceLeDiff, Nat.reduceBEq, Nat.reduceBNe, Int.reduceNeg, Int.reduceAdd, Int.reduceSub, Int.reduceToNat, nilTest, shiftH, Blk.ren, V.ren, renL, initV, frameH, putL, frρ, dI, dW, hs8, ht8]
      refine acall_ice (ds := [dWh w, .func (39, 0) [.imm (.agg [.int .i64 who]) 0]]) (by simp only [xports, xport, hget, xports_slots' w (show 8 < 37 by decide) hs, if_true]; rfl) hw ?_
      have hs2 : (sieveW w.now w fun x => !(x.1 == who)).slots.length = 8 := by simp [sieveW, hs]
      revert hs2
      generalize (sieveW w.now w fun x => !(x.1 == who)) = w2
      intro hs2
      have hsl2 : (slotsV w2).length = 8 := by simp [slotsV, hs2]
      have ht2 : List.take 8 (slotsV w2) = slotsV w2 := List.take_of_length_le (by omega)
      have ht3 : List.take 8 (List.map V.d (List.map (fun l => D.vec (List.map dW l)) w2.slots)) = slotsV w2 := List.take_of_length_le (by simp [hs2])
      have hs28 : 8 ≤ w2.slots.length := by omega
      unfold dWh
      have hm2 : List.map V.d (List.map (fun l => D.vec (List.map dW l)) w2.slots) = slotsV w2 := rfl
      have hdr : List.drop 8 [V.nils, V.nils, V.nils, V.nils, V.nils, V.nils, V.nils, V.nils] = [] := rfl
      simp (maxSteps := 2000000) -implicitDefEqProofs only [zz, zE, evop, ev, ofVal, tget, tput, ok, V.isUndef, intBin, guardOf, initT, Ch.on, calleeOf, withArgs, told, xport, xports, tids, tidss, hget, hput, Blk.ice, freeze, V.cells, D.cells, V.isAgg, V.one, V.clo, clos, V.toD, loadD, structAt, eqCells, D.scalarEq, sliceOf, partsD, partsV, bound, isPtr, Blk.width, elems, lenOf, splice, D.over, resOf, resV, resVs, ↓reduceIte, reduceCtorEq, ↓reduceDIte, Nat.reduceLT, Nat.reduceEqDiff, Nat.reduceAdd, Nat.reduceSub, Nat.reduceMul, Nat.reduceLeDiff, Nat.reduceBEq, Nat.reduceBNe, Int.reduceNeg, Int.reduceAdd, Int.reduceSub, Int.reduceToNat, nilTest, shiftH, Blk.ren, V.ren, renL, initV, frameH, putL, frρ, dI, dW, tidss_slots, tids, tidss, AM.freeze, hs2, hm2, hdr, slots_one, hsl2, ht2, List.append_nil, List.length_cons]
      simp only [xports_slots' w2 (show 8 < 36 by decide) hs2, xports_slots' w2 (show 8 < 37 by decide) hs2, xports_slots' w2 (show 8 < 38 by decide) hs2]
end Go.Proofs.Ytaejlmengfahnaa.AM

set_option linter.all false
set_option maxRecDepth 100000
set_option maxHeartbeats 8000000
namespace Go.Proofs.Ytaejlmengfahnaa.AM
open Go Go.RowKit

theorem after_0 {n k : Int} (h : (tickAfter n k).2 = 0) : tickR n = true ∧ tickR (tickAfter n k).1 = true ∧ n < (tickAfter n k).1 ∧ 1 ≤ k := by
  unfold tickAfter at h ⊢
  split
  · rename_i g
    rw [if_pos g] at h
    split
    · rename_i g2; rw [if_pos g2] at h; cases h
    · rename_i g2
      have g1 := g.1
      simp only [tickR, Bool.and_eq_true, decide_eq_true_eq] at g1 ⊢
      refine ⟨g1, ?_, ?_, g.2⟩ <;> omega
  · rename_i g; rw [if_neg g] at h; cases h
theorem sub_le {w : Wh} {i : Nat} {l : List (Int × Int)} (h : w.slots[i]? = some l) : l.length ≤ w.slots.flatten.length := by
  obtain ⟨hi, rfl⟩ := List.getElem?_eq_some_iff.1 h
  rw [List.length_flatten]
  have : ∀ (ns : List Nat) (n : Nat), n ∈ ns → n ≤ ns.sum := fun ns => by
    induction ns with
    | nil => intro n h; cases h
    | cons m ns ih =>
      intro n h
      rw [List.sum_cons]
      rcases List.mem_cons.1 h with rfl | h
      · omega
      · have := ih n h; omega
  exact this _ _ (List.mem_map.2 ⟨_, List.getElem_mem hi, rfl⟩)

theorem xports_mid {H : Heap} {b m : Nat} {els : List D} (hg : hget H b = .dat false 2 els) : ∀ (A C : List D) (k : Nat), A.length + 1 + C.length < k → xports H k (A.map V.d ++ V.own b 0 m :: C.map V.d) = some (A ++ D.vec (List.take m (List.drop 0 els)) :: C)
  | [], C, k + 1, h => by
    obtain ⟨k', rfl⟩ : ∃ k', k = k' + 1 := ⟨k - 1, by simp at h; omega⟩
    have := xports_ds (H := H) C (k' + 1) (by simp at h; omega)
    simp only [List.map_nil, List.nil_append, xports, xport, hg, this]
  | x :: A, C, k + 1, h => by
    obtain ⟨k', rfl⟩ : ∃ k', k = k' + 1 := ⟨k - 1, by simp at h; omega⟩
    simp only [List.map_cons, List.cons_append, xports, xport, xports_mid hg A C (k' + 1) (by simp at h ⊢; omega)]
  | _, _, 0, h => by simp at h
def setW (w : Wh) (who k : Int) : Wh × Int :=
  if rightB w = true ∧ whB who = true then (if hasW w who = true then (w, 9) else if (tickAfter w.now k).2 = 0 then (putW w (who, (tickAfter w.now k).1), 0) else (w, (tickAfter w.now k).2)) else (w, 1)
theorem c_wh_Set (w : Wh) (who k : Int) (hs : w.slots.length = 8) (hl : ∀ l ∈ w.slots, l.length ≤ 1000000) : CSpec Try.prog 12 [dWh w, .int .i64 who, .int .i64 k] (.tuple [dWh (setW w who k).1, .int .i64 (setW w who k).2]) := by
  have hr := c_wh_Right w hs hl
  have hsb := c_wh_somebody who
  have hta := c_tick_After w.now k
  have hs8 : 8 ≤ w.slots.length := by omega
  have hsl : (slotsV w).length = 8 := by simp [slotsV, hs]
  have ht9 : List.take 8 (slotsV w) = slotsV w := List.take_of_length_le (by omega)
  have ht8 : List.take 8 (List.map V.d (List.map (fun l => D.vec (List.map dW l)) w.slots)) = slotsV w := List.take_of_length_le (by simp [hs])
  refine CSpec.of_awp envOf_ok hmix Try.func12 rfl (fun args w => Try.call12 args w) (by simp [Try.f12]) ?_
  simp only [Try.f12]
  simp (maxSteps := 2000000) -implicitDefEqProofs only [zz, zE, evop, ev, ofVal, tget, tput, ok, V.isUndef, intBin, guardOf, initT, Ch.on, calleeOf, withArgs, told, xport, xports, tids, tidss, hget, hput, Blk.ice, freeze, V.cells, D.cells, V.isAgg, V.one, V.clo, clos, V.toD, loadD, structAt, eqCells, D.scalarEq, sliceOf, partsD, partsV, bound, isPtr, Blk.width, elems, lenOf, splice, D.over, resOf, resV, resVs, ↓reduceIte, reduceCtorEq, ↓reduceDIte, Nat.reduceLT, Nat.reduceEqDiff, Nat.reduceAdd, Nat.reduceSub, Nat.reduceMul, Nat.reduceLeDiff, Nat.reduceBEq, Nat.reduceBNe, Int.reduceNeg, Int.reduceAdd, Int.reduceSub, Int.reduceToNat, nilTest, shiftH, Blk.ren, V.ren, renL, initV, frameH, putL, frρ, dI, dW]
  unfold dWh
  try simp (maxSteps := 2000000) -implicitDefEqProofs only [zz, zE, evop, ev, ofVal, tget, tput, ok, V.isUndef, intBin, guardOf, initT, Ch.on, calleeOf, withArgs, told, xport, xports, tids, tidss, hget, hput, Blk.ice, freeze, V.cells, D.cells, V.isAgg, V.one, V.clo, clos, V.toD, loadD, structAt, eqCells, D.scalarEq, sliceOf, partsD, partsV, bound, isPtr, Blk.width, elems, lenOf, splice, D.over, resOf, resV, resVs, ↓reduceIte, reduceCtorEq, ↓reduceDIte, Nat.reduceLT, Nat.reduceEqDiff, Nat.reduceAdd, Nat.reduceSub, Nat.reduceMul, Nat.reduceLeDiff, Nat.reduceBEq, Nat.reduceBNe, Int.reduceNeg, Int.reduceAdd, Int.reduceSub, Int.reduceToNat, nilTest, shiftH, Blk.ren, V.ren, renL, initV, frameH, putL, frρ, dI, dW, hs8, ht8]
  refine acall_flat (ds := [dWh w]) (by simp only [xports, xport_wh w hs]) hr rfl ?_
  cases h : rightB w with
  | false =>
    have e : setW w who k = (w, 1) := by simp [setW, h]
    rw [e]
    simp (maxSteps := 2000000) -implicitDefEqProofs only [zz, zE, evop, ev, ofVal, tget, tput, ok, V.isUndef, intBin, guardOf, initT, Ch.on, calleeOf, withArgs, told, xport, xports, tids, tidss, hget, hput, Blk.ice, freeze, V.cells, D.cells, V.isAgg, V.one, V.clo, clos, V.toD, loadD, structAt, eqCells, D.scalarEq, sliceOf, partsD, partsV, bound, isPtr, Blk.width, elems, lenOf, splice, D.over, resOf, resV, resVs, ↓reduceIte, reduceCtorEq, ↓reduceDIte, Nat.reduceLT, Nat.reduceEqDiff, Nat.reduceAdd, Nat.reduceSub, Nat.reduceMul, Nat.reduceLeDiff, Nat.reduceBEq, Nat.reduceBNe, Int.reduceNeg, Int.reduceAdd, Int.reduceSub, Int.reduceToNat, nilTest, shiftH, Blk.ren, V.ren, renL, initV, frameH, putL, frρ, dI, dW, hs8, ht8, ht9, slots_one, hsl, List.length_cons]
    simp only [xports_slots' w (show 8 < 36 by decide) hs, xports_slots' w (show 8 < 37 by decide) hs, xports_slots' w (show 8 < 38 by decide) hs]
  | true =>
    have hf := ((rightB_iff hs).1 h).few
    have hh := c_wh_has w who hs (by omega)
    simp (maxSteps := 2000000) -implicitDefEqProofs only [zz, zE, evop, ev, ofVal, tget, tput, ok, V.isUndef, intBin, guardOf, initT, Ch.on, calleeOf, withArgs, told, xport, xports, tids, tidss, hget, hput, Blk.ice, freeze, V.cells, D.cells, V.isAgg, V.one, V.clo, clos, V.toD, loadD, structAt, eqCells, D.scalarEq, sliceOf, partsD, partsV, bound, isPtr, Blk.width, elems, lenOf, splice, D.over, resOf, resV, resVs, ↓reduceIte, reduceCtorEq, ↓reduceDIte, Nat.reduceLT, Nat.reduceEqDiff, Nat.reduceAdd, Nat.reduceSub, Nat.reduceMul, Nat.reduceLeDiff, Nat.reduceBEq, Nat.reduceBNe, Int.reduceNeg, Int.reduceAdd, Int.reduceSub, Int.reduceToNat, nilTest, shiftH, Blk.ren, V.ren, renL, initV, frameH, putL, frρ, dI, dW, hs8, ht8]
    first | refine acall_flat' (hsb) rfl ?_ | refine dcall_flat' (hsb) rfl ?_ | refine acall_ice' (hsb) ?_ | refine dcall_still' (hsb) rfl ?_
    try simp (maxSteps := 2000000) -implicitDefEqProofs only [zz, zE, evop, ev, ofVal, tget, tput, ok, V.isUndef, intBin, guardOf, initT, Ch.on, calleeOf, withArgs, told, xport, xports, tids, tidss, hget, hput, Blk.ice, freeze, V.cells, D.cells, V.isAgg, V.one, V.clo, clos, V.toD, loadD, structAt, eqCells, D.scalarEq, sliceOf, partsD, partsV, bound, isPtr, Blk.width, elems, lenOf, splice, D.over, resOf, resV, resVs, ↓reduceIte, reduceCtorEq, ↓reduceDIte, Nat.reduceLT, Nat.reduceEqDiff, Nat.reduceAdd, Nat.reduceSub, Nat.reduceMul, Nat.reduceLeDiff, Nat.reduceBEq, Nat.reduceBNe, Int.reduceNeg, Int.reduceAdd, Int.reduceSub, Int.reduceToNat, nilTest, shiftH, Blk.ren, V.ren, renL, initV, frameH, putL, frρ, dI, dW]
    cases h1 : whB who with
    | false =>
      have e : setW w who k = (w, 1) := by simp [setW, h, h1]
      rw [e]
      simp (maxSteps := 2000000) -implicitDefEqProofs only [zz, zE, evop, ev, ofVal, tget, tput, ok, V.isUndef, intBin, guardOf, initT, Ch.on, calleeOf, withArgs, told, xport, xports, tids, tidss, hget, hput, Blk.ice, freeze, V.cells, D.cells, V.isAgg, V.one, V.clo, clos, V.toD, loadD, structAt, eqCells, D.scalarEq, sliceOf, partsD, partsV, bound, isPtr, Blk.width, elems, lenOf, splice, D.over, resOf, resV, resVs, ↓reduceIte, reduceCtorEq, ↓reduceDIte, Nat.reduceLT, Nat.reduceEqDiff, Nat.reduceAdd, Nat.reduceSub, Nat.reduceMul, Nat.reduceLeDiff, Nat.reduceBEq, Nat.reduceBNe, Int.reduceNeg, Int.reduceAdd, Int.reduceSub, Int.reduceToNat, nilTest, shiftH, Blk.ren, V.ren, renL, initV, frameH, putL, frρ, dI, dW, hs8, ht8, ht9, slots_one, hsl, List.length_cons]
      simp only [xports_slots' w (show 8 < 36 by decide) hs, xports_slots' w (show 8 < 37 by decide) hs, xports_slots' w (show 8 < 38 by decide) hs]
    | true =>
    simp (maxSteps := 2000000) -implicitDefEqProofs only [zz, zE, evop, ev, ofVal, tget, tput, ok, V.isUndef, intBin, guardOf, initT, Ch.on, calleeOf, withArgs, told, xport, xports, tids, tidss, hget, hput, Blk.ice, freeze, V.cells, D.cells, V.isAgg, V.one, V.clo, clos, V.toD, loadD, structAt, eqCells, D.scalarEq, sliceOf, partsD, partsV, bound, isPtr, Blk.width, elems, lenOf, splice, D.over, resOf, resV, resVs, ↓reduceIte, reduceCtorEq, ↓reduceDIte, Nat.reduceLT, Nat.reduceEqDiff, Nat.reduceAdd, Nat.reduceSub, Nat.reduceMul, Nat.reduceLeDiff, Nat.reduceBEq, Nat.reduceBNe, Int.reduceNeg, Int.reduceAdd, Int.reduceSub, Int.reduceToNat, nilTest, shiftH, Blk.ren, V.ren, renL, initV, frameH, putL, frρ, dI, dW, hs8, ht8, ht9]
    refine acall_flat (ds := [dWh w, .int .i64 who]) (by simp only [xports, xport_wh w hs]; rfl) hh rfl ?_
    cases h2 : hasW w who with
    | true =>
      have e : setW w who k = (w, 9) := by simp [setW, h, h1, h2]
      rw [e]
      simp (maxSteps := 2000000) -implicitDefEqProofs only [zz, zE, evop, ev, ofVal, tget, tput, ok, V.isUndef, intBin, guardOf, initT, Ch.on, calleeOf, withArgs, told, xport, xports, tids, tidss, hget, hput, Blk.ice, freeze, V.cells, D.cells, V.isAgg, V.one, V.clo, clos, V.toD, loadD, structAt, eqCells, D.scalarEq, sliceOf, partsD, partsV, bound, isPtr, Blk.width, elems, lenOf, splice, D.over, resOf, resV, resVs, ↓reduceIte, reduceCtorEq, ↓reduceDIte, Nat.reduceLT, Nat.reduceEqDiff, Nat.reduceAdd, Nat.reduceSub, Nat.reduceMul, Nat.reduceLeDiff, Nat.reduceBEq, Nat.reduceBNe, Int.reduceNeg, Int.reduceAdd, Int.reduceSub, Int.reduceToNat, nilTest, shiftH, Blk.ren, V.ren, renL, initV, frameH, putL, frρ, dI, dW, hs8, ht8, ht9, slots_one, hsl, List.length_cons]
      simp only [xports_slots' w (show 8 < 36 by decide) hs, xports_slots' w (show 8 < 37 by decide) hs, xports_slots' w (show 8 < 38 by decide) hs]
    | false =>
      simp (maxSteps := 2000000) -implicitDefEqProofs only [zz, zE, evop, ev, ofVal, tget, tput, ok, V.isUndef, intBin, guardOf, initT, Ch.on, calleeOf, withArgs, told, xport, xports, tids, tidss, hget, hput, Blk.ice, freeze, V.cells, D.cells, V.isAgg, V.one, V.clo, clos, V.toD, loadD, structAt, eqCells, D.scalarEq, sliceOf, partsD, partsV, bound, isPtr, Blk.width, elems, lenOf, splice, D.over, resOf, resV, resVs, ↓reduceIte, reduceCtorEq, ↓reduceDIte, Nat.reduceLT, Nat.reduceEqDiff, Nat.reduceAdd, Nat.reduceSub, Nat.reduceMul, Nat.reduceLeDiff, Nat.reduceBEq, Nat.reduceBNe, Int.reduceNeg, Int.reduceAdd, Int.reduceSub, Int.reduceToNat, nilTest, shiftH, Blk.ren, V.ren, renL, initV, frameH, putL, frρ, dI, dW, hs8, ht8, ht9]
      first | refine acall_flat' (hta) rfl ?_ | refine dcall_flat' (hta) rfl ?_ | refine acall_ice' (hta) ?_ | refine dcall_still' (hta) rfl ?_
      try simp (maxSteps := 2000000) -implicitDefEqProofs only [zz, zE, evop, ev, ofVal, tget, tput, ok, V.isUndef, intBin, guardOf, initT, Ch.on, calleeOf, withArgs, told, xport, xports, tids, tidss, hget, hput, Blk.ice, freeze, V.cells, D.cells, V.isAgg, V.one, V.clo, clos, V.toD, loadD, structAt, eqCells, D.scalarEq, sliceOf, partsD, partsV, bound, isPtr, Blk.width, elems, lenOf, splice, D.over, resOf, resV, resVs, ↓reduceIte, reduceCtorEq, ↓reduceDIte, Nat.reduceLT, Nat.reduceEqDiff, Nat.reduceAdd, Nat.reduceSub, Nat.reduceMul, Nat.reduceLeDiff, Nat.reduceBEq, Nat.reduceBNe, Int.reduceNeg, Int.reduceAdd, Int.reduceSub, Int.reduceToNat, nilTest, shiftH, Blk.ren, V.ren, renL, initV, frameH, putL, frρ, dI, dW]
      have ha0 := @after_0 w.now k
      have e : setW w who k = if (tickAfter w.now k).2 = 0 then (putW w (who, (tickAfter w.now k).1), 0) else (w, (tickAfter w.now k).2) := by simp [setW, h, h1, h2]
      rw [e]
      revert ha0
      generalize tickAfter w.now k = r
      obtain ⟨a, er⟩ := r
      intro ha0
      by_cases h3 : er = 0
      · subst h3
        obtain ⟨hn, hta, hlt, hk⟩ := ha0 rfl
        simp (maxSteps := 2000000) -implicitDefEqProofs only [zz, zE, evop, ev, ofVal, tget, tput, ok, V.isUndef, intBin, guardOf, initT, Ch.on, calleeOf, withArgs, told, xport, xports, tids, tidss, hget, hput, Blk.ice, freeze, V.cells, D.cells, V.isAgg, V.one, V.clo, clos, V.toD, loadD, structAt, eqCells, D.scalarEq, sliceOf, partsD, partsV, bound, isPtr, Blk.width, elems, lenOf, splice, D.over, resOf, resV, resVs, ↓reduceIte, reduceCtorEq, ↓reduceDIte, Nat.reduceLT, Nat.reduceEqDiff, Nat.reduceAdd, Nat.reduceSub, Nat.reduceMul, Nat.reduceLeDiff, Nat.reduceBEq, Nat.reduceBNe, Int.reduceNeg, Int.reduceAdd, Int.reduceSub, Int.reduceToNat, nilTest, shiftH, Blk.ren, V.ren, renL, initV, frameH, putL, frρ, dI, dW, hs8, ht8, ht9]
        obtain ⟨hn1, hta1⟩ : 0 ≤ w.now ∧ 0 ≤ a := by simp only [tickR, Bool.and_eq_true, decide_eq_true_eq] at hn hta; omega
        have hj0 := Int.tmod_nonneg 8 hta1
        have hj1 := Int.tmod_lt_of_pos a (show (0 : Int) < 8 by omega)
        refine ⟨by decide, ⟨hj0, by omega⟩, ?_⟩
        have hp : putW w (who, a) = ⟨w.now, w.slots.set (a.tmod 8).toNat (insI (who, a) (slotW w (a.tmod 8).toNat))⟩ := rfl
        rw [hp, Nat.mul_one]
        obtain ⟨j, hj⟩ : ∃ j : Nat, (a.tmod 8).toNat = j := ⟨_, rfl⟩
        have hj8 : j < 8 := by omega
        rw [hj]
        obtain ⟨l, hli⟩ : ∃ l, w.slots[j]? = some l := ⟨_, List.getElem?_eq_getElem (by omega)⟩
        have hll := sub_le hli
        rw [slotW_get hli]
        have hls : Srt l := by
          rw [((rightB_iff hs).1 h).slot hli]
          exact srt_filter ((rightB_iff hs).1 h).sorted _
        have hbi := c_Bin_I l (who, a) hls (by omega)
        have hcl := o_Clone_I (l.map dW) (by simp; omega) (okEl_T l)
        rw [List.length_map] at hcl
        have hgi : (V.d (D.int IntKind.i64 w.now) :: slotsV w)[1 + j]? = some (.d (.vec (l.map dW))) := by
          unfold slotsV
          rw [Nat.add_comm, List.getElem?_cons_succ, List.getElem?_map, List.getElem?_map, hli]; rfl
        have hbw : Blk.box false (V.d (D.int IntKind.i64 w.now) :: List.map V.d (List.map (fun l => D.vec (List.map dW l)) w.slots)) = bWh w := rfl
        rw [hbw]
        refine wdraw_plan [⟨[], false, [51], [], false⟩, ⟨[0], false, [51], [], false⟩, ⟨[0, 1], false, [51], [], false⟩, ⟨[], false, [48, 49, 50], [0, 1, 2], false⟩, ⟨[0, 1, 2, 3], true, [], [], false⟩, ⟨[0, 1, 2, 3, 4], true, [], [], false⟩, ⟨[0, 1, 2, 3, 4, 5], false, [54], [], false⟩, ⟨[0, 1, 2, 3, 4, 5], false, [12, 53], [6], false⟩, ⟨[0, 1, 2, 3, 4, 5, 6], false, [54], [7], false⟩, ⟨[0, 1, 2, 3, 4, 5, 6, 7, 8], true, [], [], false⟩] (by decide) ?_
        simp (maxSteps := 2000000) -implicitDefEqProofs only [zz, zE, evop, ev, ofVal, tget, tput, ok, V.isUndef, intBin, guardOf, initT, Ch.on, calleeOf, withArgs, told, xport, xports, tids, tidss, hget, hput, Blk.ice, freeze, V.cells, D.cells, V.isAgg, V.one, V.clo, clos, V.toD, loadD, structAt, eqCells, D.scalarEq, sliceOf, partsD, partsV, bound, isPtr, Blk.width, elems, lenOf, splice, D.over, resOf, resV, resVs, ↓reduceIte, reduceCtorEq, ↓reduceDIte, Nat.reduceLT, Nat.reduceEqDiff, Nat.reduceAdd, Nat.reduceSub, Nat.reduceMul, Nat.reduceLeDiff, Nat.reduceBEq, Nat.reduceBNe, Int.reduceNeg, Int.reduceAdd, Int.reduceSub, Int.reduceToNat, nilTest, shiftH, Blk.ren, V.ren, renL, initV, frameH, putL, frρ, dI, dW, bWh, hsl, hgi, hj8, Nat.mul_one, List.length_cons]
        first | refine acall_flat' (hbi) rfl ?_ | refine dcall_flat' (hbi) rfl ?_ | refine acall_ice' (hbi) ?_ | refine dcall_still' (hbi) rfl ?_
        try simp (maxSteps := 2000000) -implicitDefEqProofs only [zz, zE, evop, ev, ofVal, tget, tput, ok, V.isUndef, intBin, guardOf, initT, Ch.on, calleeOf, withArgs, told, xport, xports, tids, tidss, hget, hput, Blk.ice, freeze, V.cells, D.cells, V.isAgg, V.one, V.clo, clos, V.toD, loadD, structAt, eqCells, D.scalarEq, sliceOf, partsD, partsV, bound, isPtr, Blk.width, elems, lenOf, splice, D.over, resOf, resV, resVs, ↓reduceIte, reduceCtorEq, ↓reduceDIte, Nat.reduceLT, Nat.reduceEqDiff, Nat.reduceAdd, Nat.reduceSub, Nat.reduceMul, Nat.reduceLeDiff, Nat.reduceBEq, Nat.reduceBNe, Int.reduceNeg, Int.reduceAdd, Int.reduceSub, Int.reduceToNat, nilTest, shiftH, Blk.ren, V.ren, renL, initV, frameH, putL, frρ, dI, dW]
        refine wdraw_plan [⟨[], false, [55, 56, 57, 58, 59, 60, 61, 62, 63], [], true⟩, ⟨[], false, [55, 60, 61, 62], [0], false⟩, ⟨[1], false, [55, 60, 61, 62], [0], false⟩, ⟨[1, 2], false, [55, 60, 61, 62], [0], false⟩, ⟨[1, 2, 3], false, [55, 60, 61, 62], [0], false⟩, ⟨[], false, [55, 56, 57, 58, 59, 61, 62], [0, 1, 2, 3, 4], false⟩, ⟨[], false, [55, 56, 57, 58, 59, 60], [0, 1, 2, 3, 4, 5], false⟩, ⟨[6], false, [55, 56, 57, 58, 59, 60], [0, 1, 2, 3, 4, 5], false⟩, ⟨[1, 2, 3, 4, 5, 6, 7], true, [55], [], false⟩, ⟨[0, 1, 2, 3, 4, 5, 6, 7, 8], true, [], [], false⟩, ⟨[0, 1, 2, 3, 4, 5, 6, 7, 8, 9], true, [], [], false⟩] (by decide) ?_
        simp (maxSteps := 2000000) -implicitDefEqProofs only [zz, zE, evop, ev, ofVal, tget, tput, ok, V.isUndef, intBin, guardOf, initT, Ch.on, calleeOf, withArgs, told, xport, xports, tids, tidss, hget, hput, Blk.ice, freeze, V.cells, D.cells, V.isAgg, V.one, V.clo, clos, V.toD, loadD, structAt, eqCells, D.scalarEq, sliceOf, partsD, partsV, bound, isPtr, Blk.width, elems, lenOf, splice, D.over, resOf, resV, resVs, ↓reduceIte, reduceCtorEq, ↓reduceDIte, Nat.reduceLT, Nat.reduceEqDiff, Nat.reduceAdd, Nat.reduceSub, Nat.reduceMul, Nat.reduceLeDiff, Nat.reduceBEq, Nat.reduceBNe, Int.reduceNeg, Int.reduceAdd, Int.reduceSub, Int.reduceToNat, nilTest, shiftH, Blk.ren, V.ren, renL, initV, frameH, putL, frρ, dI, dW, bWh, hsl, hgi, hj8, Nat.mul_one, List.length_cons]
        refine dcall_own' (hcl) rfl ?_
        try simp (maxSteps := 2000000) -implicitDefEqProofs only [zz, zE, evop, ev, ofVal, tget, tput, ok, V.isUndef, intBin, guardOf, initT, Ch.on, calleeOf, withArgs, told, xport, xports, tids, tidss, hget, hput, Blk.ice, freeze, V.cells, D.cells, V.isAgg, V.one, V.clo, clos, V.toD, loadD, structAt, eqCells, D.scalarEq, sliceOf, partsD, partsV, bound, isPtr, Blk.width, elems, lenOf, splice, D.over, resOf, resV, resVs, ↓reduceIte, reduceCtorEq, ↓reduceDIte, Nat.reduceLT, Nat.reduceEqDiff, Nat.reduceAdd, Nat.reduceSub, Nat.reduceMul, Nat.reduceLeDiff, Nat.reduceBEq, Nat.reduceBNe, Int.reduceNeg, Int.reduceAdd, Int.reduceSub, Int.reduceToNat, nilTest, shiftH, Blk.ren, V.ren, renL, initV, frameH, putL, frρ, dI, dW]
        have hcle : (l.filter fun y => ltI y (who, a)).length ≤ l.length := List.length_filter_le _ _
        have hins := r_Insert_I l (who, a) (l.filter fun y => ltI y (who, a)).length hcle (by omega)
        have hij : l.take (l.filter fun y => ltI y (who, a)).length ++ (who, a) :: l.drop (l.filter fun y => ltI y (who, a)).length = insI (who, a) l := by
          have h2 := srt_two hls (who, a)
          have e1 : l.take (l.filter fun y => ltI y (who, a)).length = l.filter fun y => ltI y (who, a) := by
            conv => lhs; arg 2; rw [← h2]
            exact List.take_left
          have e2 : l.drop (l.filter fun y => ltI y (who, a)).length = l.filter fun y => !ltI y (who, a) := by
            conv => lhs; arg 2; rw [← h2]
            exact List.drop_left
          rw [e1, e2]; rfl
        rw [hij] at hins
        refine acall_ref [14, 17] (hins) (by first | rfl | simp [renL, V.ren, frρ, renL_ds]) (by simp) rfl (by simp) (by simp) (by intro j hj; match j, hj with | 0, _ => exact ⟨by simp [hget], rfl⟩ | 1, _ => exact ⟨by simp [hget], rfl⟩) ?_
        try simp (maxSteps := 2000000) -implicitDefEqProofs only [zz, zE, evop, ev, ofVal, tget, tput, ok, V.isUndef, intBin, guardOf, initT, Ch.on, calleeOf, withArgs, told, xport, xports, tids, tidss, hget, hput, Blk.ice, freeze, V.cells, D.cells, V.isAgg, V.one, V.clo, clos, V.toD, loadD, structAt, eqCells, D.scalarEq, sliceOf, partsD, partsV, bound, isPtr, Blk.width, elems, lenOf, splice, D.over, resOf, resV, resVs, ↓reduceIte, reduceCtorEq, ↓reduceDIte, Nat.reduceLT, Nat.reduceEqDiff, Nat.reduceAdd, Nat.reduceSub, Nat.reduceMul, Nat.reduceLeDiff, Nat.reduceBEq, Nat.reduceBNe, Int.reduceNeg, Int.reduceAdd, Int.reduceSub, Int.reduceToNat, nilTest, shiftH, Blk.ren, V.ren, renL, initV, frameH, putL, frρ, dI, dW]
        have h1j : 1 + j ≤ (slotsV w).length := by omega
        obtain ⟨f, hf⟩ : ∃ f : List (Int × Int) → D, f = fun l => D.vec (List.map dW l) := ⟨_, rfl⟩
        have hX : List.take (1 + j) (V.d (D.int IntKind.i64 w.now) :: slotsV w) ++ [V.own 18 0 (l.length + 1)] ++ List.drop (1 + j) (slotsV w) = (D.int .i64 w.now :: (w.slots.take j).map f).map V.d ++ V.own 18 0 (l.length + 1) :: ((w.slots.drop (j + 1)).map f).map V.d := by
          unfold slotsV
          rw [← hf, Nat.add_comm 1 j]
          simp [List.map_take, List.map_drop]
        have hXl : (List.take (1 + j) (V.d (D.int IntKind.i64 w.now) :: slotsV w) ++ [V.own 18 0 (l.length + 1)] ++ List.drop (1 + j) (slotsV w)).length = 9 := by
          simp only [List.length_append, List.length_take, List.length_drop, List.length_cons, List.length_nil, hsl]; omega
        have hXo : (List.take (1 + j) (V.d (D.int IntKind.i64 w.now) :: slotsV w) ++ [V.own 18 0 (l.length + 1)] ++ List.drop (1 + j) (slotsV w)).all V.one = true := by
          rw [hX, hf]
          rw [List.all_eq_true]
          intro v hv
          rw [List.mem_append, List.mem_cons] at hv
          rcases hv with hv | rfl | hv
          · obtain ⟨d, hd, rfl⟩ := List.mem_map.1 hv
            rcases List.mem_cons.1 hd with rfl | hd
            · rfl
            · obtain ⟨l, _, rfl⟩ := List.mem_map.1 hd
              rfl
          · rfl
          · obtain ⟨d, hd, rfl⟩ := List.mem_map.1 hv
            obtain ⟨l, _, rfl⟩ := List.mem_map.1 hd
            rfl
        have hXx : ∀ (H : Heap) (k : Nat), hget H 18 = .dat false 2 (List.map dW (insI (who, a) l)) → 10 < k → xports H k (List.take (1 + j) (V.d (D.int IntKind.i64 w.now) :: slotsV w) ++ [V.own 18 0 (l.length + 1)] ++ List.drop (1 + j) (slotsV w)) = some (D.int IntKind.i64 w.now :: (w.slots.set j (insI (who, a) l)).map fun l => D.vec (List.map dW l)) := fun H k hg hk => by
          rw [hX, xports_mid hg _ _ k (by simp [hs]; omega)]
          have ht : List.take (l.length + 1) (List.map dW (insI (who, a) l)) = List.map dW (insI (who, a) l) := List.take_of_length_le (by rw [List.length_map, ← hij, List.length_append, List.length_cons, List.length_take, List.length_drop]; omega)
          rw [List.drop_zero, ht, ← hf]
          rw [List.set_eq_take_append_cons_drop, if_pos (by omega), List.map_append, List.map_cons, hf]
          rfl
        clear hX
        revert hXl hXo hXx
        generalize List.take (1 + j) (V.d (D.int IntKind.i64 w.now) :: slotsV w) ++ [V.own 18 0 (l.length + 1)] ++ List.drop (1 + j) (slotsV w) = X
        intro hXl hXo hXx
        have hX9 : List.take 9 X = X := List.take_of_length_le (by omega)
        have hX8 : 9 ≤ X.length := by omega
        simp (maxSteps := 2000000) -implicitDefEqProofs only [zz, zE, evop, ev, ofVal, tget, tput, ok, V.isUndef, intBin, guardOf, initT, Ch.on, calleeOf, withArgs, told, xport, xports, tids, tidss, hget, hput, Blk.ice, freeze, V.cells, D.cells, V.isAgg, V.one, V.clo, clos, V.toD, loadD, structAt, eqCells, D.scalarEq, sliceOf, partsD, partsV, bound, isPtr, Blk.width, elems, lenOf, splice, D.over, resOf, resV, resVs, ↓reduceIte, reduceCtorEq, ↓reduceDIte, Nat.reduceLT, Nat.reduceEqDiff, Nat.reduceAdd, Nat.reduceSub, Nat.reduceMul, Nat.reduceLeDiff, Nat.reduceBEq, Nat.reduceBNe, Int.reduceNeg, Int.reduceAdd, Int.reduceSub, Int.reduceToNat, nilTest, shiftH, Blk.ren, V.ren, renL, initV, frameH, putL, frρ, dI, dW, h1j, hXl, hXo, hX9, hX8]
        rw [hXx [Blk.box false X, Blk.box false X, Blk.box false [V.d (D.int IntKind.i64 who), V.d (D.int IntKind.i64 a)], Blk.dead, Blk.dead, Blk.dead, Blk.dead, Blk.dead, Blk.dead, Blk.dead, Blk.dead, Blk.dead, Blk.dead, Blk.dead, Blk.dead, Blk.dead, Blk.dead, Blk.dead, Blk.dat false 2 (List.map dW (insI (who, a) l))] 37 rfl (by decide)]
      · have h3' : (er == 0) = false := by simpa using h3
        have h3'' : (er != 0) = true := by simpa using h3
        simp (maxSteps := 2000000) -implicitDefEqProofs only [zz, zE, evop, ev, ofVal, tget, tput, ok, V.isUndef, intBin, guardOf, initT, Ch.on, calleeOf, withArgs, told, xport, xports, tids, tidss, hget, hput, Blk.ice, freeze, V.cells, D.cells, V.isAgg, V.one, V.clo, clos, V.toD, loadD, structAt, eqCells, D.scalarEq, sliceOf, partsD, partsV, bound, isPtr, Blk.width, elems, lenOf, splice, D.over, resOf, resV, resVs, ↓reduceIte, reduceCtorEq, ↓reduceDIte, Nat.reduceLT, Nat.reduceEqDiff, Nat.reduceAdd, Nat.reduceSub, Nat.reduceMul, Nat.reduceLeDiff, Nat.reduceBEq, Nat.reduceBNe, Int.reduceNeg, Int.reduceAdd, Int.reduceSub, Int.reduceToNat, nilTest, shiftH, Blk.ren, V.ren, renL, initV, frameH, putL, frρ, dI, dW, hs8, ht8, ht9, h3, h3', h3'', slots_one, hsl, List.length_cons]
        simp only [xports_slots' w (show 8 < 36 by decide) hs, xports_slots' w (show 8 < 37 by decide) hs, xports_slots' w (show 8 < 38 by decide) hs]
end Go.Proofs.Ytaejlmengfahnaa.AM

set_option linter.all false
set_option maxRecDepth 100000
set_option maxHeartbeats 8000000
namespace Go.Proofs.Ytaejlmengfahnaa.AM
open Go Go.RowKit

def turnW (w : Wh) (k : Int) : Wh × List (Int × Int) × Int :=
  if rightB w = true then (if (tickAfter w.now k).2 = 0 then (sieveW (tickAfter w.now k).1 w (fun x => !decide (x.2 ≤ (tickAfter w.now k).1)), (itemsW w).filter (fun x => decide (x.2 ≤ (tickAfter w.now k).1)), 0) else (w, [], (tickAfter w.now k).2)) else (w, [], 1)
theorem c_wh_Turn (w : Wh) (k : Int) (hs : w.slots.length = 8) (hl : ∀ l ∈ w.slots, l.length ≤ 1000000) : CSpec Try.prog 16 [dWh w, .int .i64 k] (.tuple [dWh (turnW w k).1, .vec ((turnW w k).2.1.map dW), .int .i64 (turnW w k).2.2]) := by
  have hr := c_wh_Right w hs hl
  have hta := c_tick_After w.now k
  have hs8 : 8 ≤ w.slots.length := by omega
  have hsl : (slotsV w).length = 8 := by simp [slotsV, hs]
  have ht9 : List.take 8 (slotsV w) = slotsV w := List.take_of_length_le (by omega)
  have ht8 : List.take 8 (List.map V.d (List.map (fun l => D.vec (List.map dW l)) w.slots)) = slotsV w := List.take_of_length_le (by simp [hs])
  refine CSpec.of_snd envOf_ok hmix Try.func16 rfl (fun args w => Try.call16 args w) (by simp [Try.f16]) ?_
  simp only [Try.f16]
  refine Snd.upto envOf_ok hmix 4 _ ?_
  simp only [hdN, tlN]
  unfold dWh
  try simp (maxSteps := 2000000) -implicitDefEqProofs only [zz, zE, evop, ev, ofVal, tget, tput, ok, V.isUndef, intBin, guardOf, initT, Ch.on, calleeOf, withArgs, told, xport, xports, tids, tidss, hget, hput, Blk.ice, freeze, V.cells, D.cells, V.isAgg, V.one, V.clo, clos, V.toD, loadD, structAt, eqCells, D.scalarEq, sliceOf, partsD, partsV, bound, isPtr, Blk.width, elems, lenOf, splice, D.over, resOf, resV, resVs, ↓reduceIte, reduceCtorEq, ↓reduceDIte, Nat.reduceLT, Nat.reduceEqDiff, Nat.reduceAdd, Nat.reduceSub, Nat.reduceMul, Nat.reduceLeDiff, Nat.reduceBEq, Nat.reduceBNe, Int.reduceNeg, Int.reduceAdd, Int.reduceSub, Int.reduceToNat, nilTest, shiftH, Blk.ren, V.ren, renL, initV, frameH, putL, frρ, dI, dW, hs8, ht8]
  refine acall_flat (ds := [dWh w]) (by simp only [xports, xport_wh w hs]) hr rfl ?_
  cases h : rightB w with
  | false =>
    have e : turnW w k = (w, [], 1) := by simp [turnW, h]
    rw [e]
    simp (maxSteps := 2000000) -implicitDefEqProofs only [zz, zE, evop, ev, ofVal, tget, tput, ok, V.isUndef, intBin, guardOf, initT, Ch.on, calleeOf, withArgs, told, xport, xports, tids, tidss, hget, hput, Blk.ice, freeze, V.cells, D.cells, V.isAgg, V.one, V.clo, clos, V.toD, loadD, structAt, eqCells, D.scalarEq, sliceOf, partsD, partsV, bound, isPtr, Blk.width, elems, lenOf, splice, D.over, resOf, resV, resVs, ↓reduceIte, reduceCtorEq, ↓reduceDIte, Nat.reduceLT, Nat.reduceEqDiff, Nat.reduceAdd, Nat.reduceSub, Nat.reduceMul, Nat.reduceLeDiff, Nat.reduceBEq, Nat.reduceBNe, Int.reduceNeg, Int.reduceAdd, Int.reduceSub, Int.reduceToNat, nilTest, shiftH, Blk.ren, V.ren, renL, initV, frameH, putL, frρ, dI, dW, hs8, ht8, ht9, slots_one, hsl, List.length_cons]
    simp only [cutK]
    simp (maxSteps := 2000000) -implicitDefEqProofs only [zz, zE, evop, ev, ofVal, tget, tput, ok, V.isUndef, intBin, guardOf, initT, Ch.on, calleeOf, withArgs, told, xport, xports, tids, tidss, hget, hput, Blk.ice, freeze, V.cells, D.cells, V.isAgg, V.one, V.clo, clos, V.toD, loadD, structAt, eqCells, D.scalarEq, sliceOf, partsD, partsV, bound, isPtr, Blk.width, elems, lenOf, splice, D.over, resOf, resV, resVs, ↓reduceIte, reduceCtorEq, ↓reduceDIte, Nat.reduceLT, Nat.reduceEqDiff, Nat.reduceAdd, Nat.reduceSub, Nat.reduceMul, Nat.reduceLeDiff, Nat.reduceBEq, Nat.reduceBNe, Int.reduceNeg, Int.reduceAdd, Int.reduceSub, Int.reduceToNat, nilTest, shiftH, Blk.ren, V.ren, renL, initV, frameH, putL, frρ, dI, dW, hs8, ht8, ht9, slots_one, hsl, List.length_cons]
    simp only [xports_slots' w (show 8 < 35 by decide) hs, xports_slots' w (show 8 < 36 by decide) hs, xports_slots' w (show 8 < 37 by decide) hs, xports_slots' w (show 8 < 38 by decide) hs]
  | true =>
    have hf := ((rightB_iff hs).1 h).few
    simp (maxSteps := 2000000) -implicitDefEqProofs only [zz, zE, evop, ev, ofVal, tget, tput, ok, V.isUndef, intBin, guardOf, initT, Ch.on, calleeOf, withArgs, told, xport, xports, tids, tidss, hget, hput, Blk.ice, freeze, V.cells, D.cells, V.isAgg, V.one, V.clo, clos, V.toD, loadD, structAt, eqCells, D.scalarEq, sliceOf, partsD, partsV, bound, isPtr, Blk.width, elems, lenOf, splice, D.over, resOf, resV, resVs, ↓reduceIte, reduceCtorEq, ↓reduceDIte, Nat.reduceLT, Nat.reduceEqDiff, Nat.reduceAdd, Nat.reduceSub, Nat.reduceMul, Nat.reduceLeDiff, Nat.reduceBEq, Nat.reduceBNe, Int.reduceNeg, Int.reduceAdd, Int.reduceSub, Int.reduceToNat, nilTest, shiftH, Blk.ren, V.ren, renL, initV, frameH, putL, frρ, dI, dW, hs8, ht8, ht9]
    first | refine acall_flat' (hta) rfl ?_ | refine dcall_flat' (hta) rfl ?_ | refine acall_ice' (hta) ?_ | refine dcall_still' (hta) rfl ?_
    try simp (maxSteps := 2000000) -implicitDefEqProofs only [zz, zE, evop, ev, ofVal, tget, tput, ok, V.isUndef, intBin, guardOf, initT, Ch.on, calleeOf, withArgs, told, xport, xports, tids, tidss, hget, hput, Blk.ice, freeze, V.cells, D.cells, V.isAgg, V.one, V.clo, clos, V.toD, loadD, structAt, eqCells, D.scalarEq, sliceOf, partsD, partsV, bound, isPtr, Blk.width, elems, lenOf, splice, D.over, resOf, resV, resVs, ↓reduceIte, reduceCtorEq, ↓reduceDIte, Nat.reduceLT, Nat.reduceEqDiff, Nat.reduceAdd, Nat.reduceSub, Nat.reduceMul, Nat.reduceLeDiff, Nat.reduceBEq, Nat.reduceBNe, Int.reduceNeg, Int.reduceAdd, Int.reduceSub, Int.reduceToNat, nilTest, shiftH, Blk.ren, V.ren, renL, initV, frameH, putL, frρ, dI, dW]
    have e : turnW w k = if (tickAfter w.now k).2 = 0 then (sieveW (tickAfter w.now k).1 w (fun x => !decide (x.2 ≤ (tickAfter w.now k).1)), (itemsW w).filter (fun x => decide (x.2 ≤ (tickAfter w.now k).1)), 0) else (w, [], (tickAfter w.now k).2) := by simp [turnW, h]
    rw [e]
    generalize tickAfter w.now k = r
    obtain ⟨a, er⟩ := r
    by_cases h3 : er = 0
    · subst h3
      simp (maxSteps := 2000000) -implicitDefEqProofs only [zz, zE, evop, ev, ofVal, tget, tput, ok, V.isUndef, intBin, guardOf, initT, Ch.on, calleeOf, withArgs, told, xport, xports, tids, tidss, hget, hput, Blk.ice, freeze, V.cells, D.cells, V.isAgg, V.one, V.clo, clos, V.toD, loadD, structAt, eqCells, D.scalarEq, sliceOf, partsD, partsV, bound, isPtr, Blk.width, elems, lenOf, splice, D.over, resOf, resV, resVs, ↓reduceIte, reduceCtorEq, ↓reduceDIte, Nat.reduceLT, Nat.reduceEqDiff, Nat.reduceAdd, Nat.reduceSub, Nat.reduceMul, Nat.reduceLeDiff, Nat.reduceBEq, Nat.reduceBNe, Int.reduceNeg, Int.reduceAdd, Int.reduceSub, Int.reduceToNat, nilTest, shiftH, Blk.ren, V.ren, renL, initV, frameH, putL, frρ, dI, dW, hs8, ht8, ht9]
      refine Snd.weak (E := envOf Try.prog) (T' := [(7, .d (.imm (.agg [.int .i64 a]) 0)), (2, .ptr 0 0 0), (4, .ptr 1 0 0)]) (H' := [bWh w, .box false (V.d (D.int IntKind.i64 0) :: List.replicate 8 (.d (.vec [])))]) ?_ ?_
      · refine Weak.close [2] 2 (by simp) ?_ (by simp [tget, sealF, xport, xports, tids, tidss, hget, V.lower, dI]) (by simp [Blk.lower, lowerL, V.lower, bWh, lower_slots])
        simp [sealH, sealB, sealF, freeze, hput, hget, Blk.ice, bWh]
        unfold slotsV; rw [List.map_map]; exact List.map_congr_left (fun l _ => rfl)
      refine Snd.upto envOf_ok hmix 1 _ ?_
      simp only [hdN, tlN]
      simp (maxSteps := 2000000) -implicitDefEqProofs only [zz, zE, evop, ev, ofVal, tget, tput, ok, V.isUndef, intBin, guardOf, initT, Ch.on, calleeOf, withArgs, told, xport, xports, tids, tidss, hget, hput, Blk.ice, freeze, V.cells, D.cells, V.isAgg, V.one, V.clo, clos, V.toD, loadD, structAt, eqCells, D.scalarEq, sliceOf, partsD, partsV, bound, isPtr, Blk.width, elems, lenOf, splice, D.over, resOf, resV, resVs, ↓reduceIte, reduceCtorEq, ↓reduceDIte, Nat.reduceLT, Nat.reduceEqDiff, Nat.reduceAdd, Nat.reduceSub, Nat.reduceMul, Nat.reduceLeDiff, Nat.reduceBEq, Nat.reduceBNe, Int.reduceNeg, Int.reduceAdd, Int.reduceSub, Int.reduceToNat, nilTest, shiftH, Blk.ren, V.ren, renL, initV, frameH, putL, frρ, dI, dW, E_pred]
      refine Snd.weak (E := envOf Try.prog) (T' := [(9, .d (.imm (.agg [.func (40, 0) [.imm (.agg [.int .i64 a]) 0]]) 0)), (7, .d (.imm (.agg [.int .i64 a]) 0)), (2, .ptr 0 0 0), (4, .ptr 1 0 0)]) (H' := [bWh w, .box false (V.d (D.int IntKind.i64 0) :: List.replicate 8 (.d (.vec [])))]) ?_ ?_
      · refine Weak.close [2] 2 (by simp) ?_ (by simp [tget, sealF, xport, xports, tids, tidss, hget, V.lower, dI]) (by simp [Blk.lower, lowerL, V.lower, bWh, lower_slots])
        simp [sealH, sealB, sealF, freeze, hput, hget, Blk.ice, bWh, seal_slots]
      refine Snd.of_awp envOf_ok hmix ?_
      have hoa := o_wh_all w hs (by omega)
      rw [← itemsW_len w] at hoa
      have hil := itemsW_len w
      have hdv := r_Del_v (itemsW w) 43 (.imm (.agg [.func (40, 0) [.imm (.agg [.int .i64 a]) 0]]) 0) (fun x => !decide (x.2 ≤ a)) (by omega) (fun x => c_Turn2 x a)
      have hwo := c_wh_without w hs hl 40 (.imm (.agg [.int .i64 a]) 0) (fun x => decide (x.2 ≤ a)) (fun x => c_Turn1 x a)
      unfold bWh
      simp (maxSteps := 2000000) -implicitDefEqProofs only [zz, zE, evop, ev, ofVal, tget, tput, ok, V.isUndef, intBin, guardOf, initT, Ch.on, calleeOf, withArgs, told, xport, xports, tids, tidss, hget, hput, Blk.ice, freeze, V.cells, D.cells, V.isAgg, V.one, V.clo, clos, V.toD, loadD, structAt, eqCells, D.scalarEq, sliceOf, partsD, partsV, bound, isPtr, Blk.width, elems, lenOf, splice, D.over, resOf, resV, resVs, ↓reduceIte, reduceCtorEq, ↓reduceDIte, Nat.reduceLT, Nat.reduceEqDiff, Nat.reduceAdd, Nat.reduceSub, Nat.reduceMul, Nat.reduceLeDiff, Nat.reduceBEq, Nat.reduceBNe, Int.reduceNeg, Int.reduceAdd, Int.reduceSub, Int.reduceToNat, nilTest, shiftH, Blk.ren, V.ren, renL, initV, frameH, putL, frρ, dI, dW, hs8, ht8, ht9, hsl, List.length_cons]
      refine acall_own (ds := [dWh w]) (by simp only [xports, xport_wh w hs]) hoa ?_
      simp (maxSteps := 2000000) -implicitDefEqProofs only [zz, zE, evop, ev, ofVal, tget, tput, ok, V.isUndef, intBin, guardOf, initT, Ch.on, calleeOf, withArgs, told, xport, xports, tids, tidss, hget, hput, Blk.ice, freeze, V.cells, D.cells, V.isAgg, V.one, V.clo, clos, V.toD, loadD, structAt, eqCells, D.scalarEq, sliceOf, partsD, partsV, bound, isPtr, Blk.width, elems, lenOf, splice, D.over, resOf, resV, resVs, ↓reduceIte, reduceCtorEq, ↓reduceDIte, Nat.reduceLT, Nat.reduceEqDiff, Nat.reduceAdd, Nat.reduceSub, Nat.reduceMul, Nat.reduceLeDiff, Nat.reduceBEq, Nat.reduceBNe, Int.reduceNeg, Int.reduceAdd, Int.reduceSub, Int.reduceToNat, nilTest, shiftH, Blk.ren, V.ren, renL, initV, frameH, putL, frρ, dI, dW, tidss_slots, AM.freeze]
      refine acall_ref [2] (hdv) (by first | rfl | simp [renL, V.ren, frρ, renL_ds]) (by simp) rfl (by simp) (by simp) (by intro j hj; match j, hj with | 0, _ => exact ⟨by simp [hget], rfl⟩) ?_
      try simp (maxSteps := 2000000) -implicitDefEqProofs only [zz, zE, evop, ev, ofVal, tget, tput, ok, V.isUndef, intBin, guardOf, initT, Ch.on, calleeOf, withArgs, told, xport, xports, tids, tidss, hget, hput, Blk.ice, freeze, V.cells, D.cells, V.isAgg, V.one, V.clo, clos, V.toD, loadD, structAt, eqCells, D.scalarEq, sliceOf, partsD, partsV, bound, isPtr, Blk.width, elems, lenOf, splice, D.over, resOf, resV, resVs, ↓reduceIte, reduceCtorEq, ↓reduceDIte, Nat.reduceLT, Nat.reduceEqDiff, Nat.reduceAdd, Nat.reduceSub, Nat.reduceMul, Nat.reduceLeDiff, Nat.reduceBEq, Nat.reduceBNe, Int.reduceNeg, Int.reduceAdd, Int.reduceSub, Int.reduceToNat, nilTest, shiftH, Blk.ren, V.ren, renL, initV, frameH, putL, frρ, dI, dW]
      simp (maxSteps := 2000000) -implicitDefEqProofs only [zz, zE, evop, ev, ofVal, tget, tput, ok, V.isUndef, intBin, guardOf, initT, Ch.on, calleeOf, withArgs, told, xport, xports, tids, tidss, hget, hput, Blk.ice, freeze, V.cells, D.cells, V.isAgg, V.one, V.clo, clos, V.toD, loadD, structAt, eqCells, D.scalarEq, sliceOf, partsD, partsV, bound, isPtr, Blk.width, elems, lenOf, splice, D.over, resOf, resV, resVs, ↓reduceIte, reduceCtorEq, ↓reduceDIte, Nat.reduceLT, Nat.reduceEqDiff, Nat.reduceAdd, Nat.reduceSub, Nat.reduceMul, Nat.reduceLeDiff, Nat.reduceBEq, Nat.reduceBNe, Int.reduceNeg, Int.reduceAdd, Int.reduceSub, Int.reduceToNat, nilTest, shiftH, Blk.ren, V.ren, renL, initV, frameH, putL, frρ, dI, dW, hsl, ht9, tidss_slots, E_pred]
      refine acall_ice (ds := [dWh w, .func (40, 0) [.imm (.agg [.int .i64 a]) 0]]) (by simp only [xports, xport, hget, xports_slots' w (show 8 < 37 by decide) hs, if_true]; rfl) hwo ?_
      have hsw : sieveW a w (fun x => !decide (x.2 ≤ a)) = ⟨a, (sieveW w.now w fun x => !decide (x.2 ≤ a)).slots⟩ := rfl
      rw [hsw]
      have hnw : (sieveW w.now w fun x => !decide (x.2 ≤ a)).now = w.now := rfl
      have hs2 : (sieveW w.now w fun x => !decide (x.2 ≤ a)).slots.length = 8 := by simp [sieveW, hs]
      have hdl : (delR (fun x => !decide (x.2 ≤ a)) (itemsW w)).take ((itemsW w).filter fun x => decide (x.2 ≤ a)).length = ((itemsW w).filter fun x => decide (x.2 ≤ a)).map dW := by
        have := take_delR (fun x => !decide (x.2 ≤ a)) (itemsW w)
        simpa using this
      simp only [Bool.not_not]
      revert hs2 hdl hnw
      generalize (sieveW w.now w fun x => !decide (x.2 ≤ a)) = w2
      generalize (delR (fun x => !decide (x.2 ≤ a)) (itemsW w)) = dR
      generalize ((itemsW w).filter fun x => decide (x.2 ≤ a)) = due
      intro hnw hs2 hdl
      have hsl2 : (slotsV w2).length = 8 := by simp [slotsV, hs2]
      have ht2 : List.take 8 (slotsV w2) = slotsV w2 := List.take_of_length_le (by omega)
      have hm2 : List.map V.d (List.map (fun l => D.vec (List.map dW l)) w2.slots) = slotsV w2 := rfl
      have hd8 : List.drop 8 [V.nils, V.nils, V.nils, V.nils, V.nils, V.nils, V.nils, V.nils] = [] := rfl
      have hr8 : List.drop 8 (List.replicate 8 (V.d (.vec []))) = [] := rfl
      unfold dWh
      simp (maxSteps := 2000000) -implicitDefEqProofs only [zz, zE, evop, ev, ofVal, tget, tput, ok, V.isUndef, intBin, guardOf, initT, Ch.on, calleeOf, withArgs, told, xport, xports, tids, tidss, hget, hput, Blk.ice, freeze, V.cells, D.cells, V.isAgg, V.one, V.clo, clos, V.toD, loadD, structAt, eqCells, D.scalarEq, sliceOf, partsD, partsV, bound, isPtr, Blk.width, elems, lenOf, splice, D.over, resOf, resV, resVs, ↓reduceIte, reduceCtorEq, ↓reduceDIte, Nat.reduceLT, Nat.reduceEqDiff, Nat.reduceAdd, Nat.reduceSub, Nat.reduceMul, Nat.reduceLeDiff, Nat.reduceBEq, Nat.reduceBNe, Int.reduceNeg, Int.reduceAdd, Int.reduceSub, Int.reduceToNat, nilTest, shiftH, Blk.ren, V.ren, renL, initV, frameH, putL, frρ, dI, dW, tidss_slots, tids, tidss, AM.freeze, hs2, hm2, hd8, hr8, slots_one, hsl2, ht2, List.append_nil, List.length_cons, List.length_replicate, List.drop_zero, hdl]
      simp only [xports_slots' w2 (show 8 < 35 by decide) hs2, xports_slots' w2 (show 8 < 36 by decide) hs2, xports_slots' w2 (show 8 < 37 by decide) hs2, xports_slots' w2 (show 8 < 38 by decide) hs2]
    · have h3' : (er == 0) = false := by simpa using h3
      have h3'' : (er != 0) = true := by simpa using h3
      simp (maxSteps := 2000000) -implicitDefEqProofs only [zz, zE, evop, ev, ofVal, tget, tput, ok, V.isUndef, intBin, guardOf, initT, Ch.on, calleeOf, withArgs, told, xport, xports, tids, tidss, hget, hput, Blk.ice, freeze, V.cells, D.cells, V.isAgg, V.one, V.clo, clos, V.toD, loadD, structAt, eqCells, D.scalarEq, sliceOf, partsD, partsV, bound, isPtr, Blk.width, elems, lenOf, splice, D.over, resOf, resV, resVs, ↓reduceIte, reduceCtorEq, ↓reduceDIte, Nat.reduceLT, Nat.reduceEqDiff, Nat.reduceAdd, Nat.reduceSub, Nat.reduceMul, Nat.reduceLeDiff, Nat.reduceBEq, Nat.reduceBNe, Int.reduceNeg, Int.reduceAdd, Int.reduceSub, Int.reduceToNat, nilTest, shiftH, Blk.ren, V.ren, renL, initV, frameH, putL, frρ, dI, dW, hs8, ht8, ht9, h3, h3', h3'', slots_one, hsl, List.length_cons]
      simp only [cutK]
      simp (maxSteps := 2000000) -implicitDefEqProofs only [zz, zE, evop, ev, ofVal, tget, tput, ok, V.isUndef, intBin, guardOf, initT, Ch.on, calleeOf, withArgs, told, xport, xports, tids, tidss, hget, hput, Blk.ice, freeze, V.cells, D.cells, V.isAgg, V.one, V.clo, clos, V.toD, loadD, structAt, eqCells, D.scalarEq, sliceOf, partsD, partsV, bound, isPtr, Blk.width, elems, lenOf, splice, D.over, resOf, resV, resVs, ↓reduceIte, reduceCtorEq, ↓reduceDIte, Nat.reduceLT, Nat.reduceEqDiff, Nat.reduceAdd, Nat.reduceSub, Nat.reduceMul, Nat.reduceLeDiff, Nat.reduceBEq, Nat.reduceBNe, Int.reduceNeg, Int.reduceAdd, Int.reduceSub, Int.reduceToNat, nilTest, shiftH, Blk.ren, V.ren, renL, initV, frameH, putL, frρ, dI, dW, hs8, ht8, ht9, slots_one, hsl, List.length_cons]
      simp only [xports_slots' w (show 8 < 35 by decide) hs, xports_slots' w (show 8 < 36 by decide) hs, xports_slots' w (show 8 < 37 by decide) hs, xports_slots' w (show 8 < 38 by decide) hs]
end Go.Proofs.Ytaejlmengfahnaa.AM

set_option linter.all false
set_option maxRecDepth 100000
set_option maxHeartbeats 8000000
namespace Go.Proofs.Ytaejlmengfahnaa.AM
open Go Go.RowKit

theorem c_r17_ahead (x y : Int × Int) : CSpec Try.prog 27 [dW x, dW y] (.bool (ltI x y)) := by
  refine CSpec.of_awp envOf_ok hmix Try.func27 rfl (fun args w => Try.call27 args w) (by simp [Try.f27]) ?_
  simp only [Try.f27]
  simp (maxSteps := 2000000) -implicitDefEqProofs only [zz, zE, evop, ev, ofVal, tget, tput, ok, V.isUndef, intBin, guardOf, initT, Ch.on, calleeOf, withArgs, told, xport, xports, tids, tidss, hget, hput, Blk.ice, freeze, V.cells, D.cells, V.isAgg, V.one, V.clo, clos, V.toD, loadD, structAt, eqCells, D.scalarEq, sliceOf, partsD, partsV, bound, isPtr, Blk.width, elems, lenOf, splice, D.over, resOf, resV, resVs, ↓reduceIte, reduceCtorEq, ↓reduceDIte, Nat.reduceLT, Nat.reduceEqDiff, Nat.reduceAdd, Nat.reduceSub, Nat.reduceMul, Nat.reduceLeDiff, Nat.reduceBEq, Nat.reduceBNe, Int.reduceNeg, Int.reduceAdd, Int.reduceSub, Int.reduceToNat, nilTest, shiftH, Blk.ren, V.ren, renL, initV, frameH, putL, frρ, dI, dW]
  try unfold ltI
  (repeat' split) <;> (first | rfl | (simp_all [IntKind.wrap_i64]; done) | (simp [IntKind.wrap_i64] at * <;> omega) | (simp_all [IntKind.wrap_i64] <;> omega) | (congr 2; rw [Bool.eq_iff_iff]; simp_all; omega) | grind)

theorem c_r03_Who (n : Int) : CSpec Try.prog 25 [.int .i64 n] (.bool (whB n)) := by
  refine CSpec.of_awp envOf_ok hmix Try.func25 rfl (fun args w => Try.call25 args w) (by simp [Try.f25]) ?_
  simp only [Try.f25]
  simp (maxSteps := 2000000) -implicitDefEqProofs only [zz, zE, evop, ev, ofVal, tget, tput, ok, V.isUndef, intBin, guardOf, initT, Ch.on, calleeOf, withArgs, told, xport, xports, tids, tidss, hget, hput, Blk.ice, freeze, V.cells, D.cells, V.isAgg, V.one, V.clo, clos, V.toD, loadD, structAt, eqCells, D.scalarEq, sliceOf, partsD, partsV, bound, isPtr, Blk.width, elems, lenOf, splice, D.over, resOf, resV, resVs, ↓reduceIte, reduceCtorEq, ↓reduceDIte, Nat.reduceLT, Nat.reduceEqDiff, Nat.reduceAdd, Nat.reduceSub, Nat.reduceMul, Nat.reduceLeDiff, Nat.reduceBEq, Nat.reduceBNe, Int.reduceNeg, Int.reduceAdd, Int.reduceSub, Int.reduceToNat, nilTest, shiftH, Blk.ren, V.ren, renL, initV, frameH, putL, frρ, dI, dW]
  try unfold whB
  (repeat' split) <;> (first | rfl | (simp_all [IntKind.wrap_i64]; done) | (simp [IntKind.wrap_i64] at * <;> omega) | (simp_all [IntKind.wrap_i64] <;> omega) | (congr 2; rw [Bool.eq_iff_iff]; simp_all; omega) | grind)

theorem c_r17_List (a b : List (Int × Int)) (ha : a.length ≤ 1000000) (hb : b.length ≤ 1000000) : CSpec Try.prog 23 [.vec (a.map dW), .vec (b.map dW)] (.bool (decide (a = b))) := by
  refine CSpec.of_awp envOf_ok hmix Try.func23 rfl (fun args w => Try.call23 args w) (by simp [Try.f23]) ?_
  simp only [Try.f23]
  simp (maxSteps := 2000000) -implicitDefEqProofs only [zz, zE, evop, ev, ofVal, tget, tput, ok, V.isUndef, intBin, guardOf, initT, Ch.on, calleeOf, withArgs, told, xport, xports, tids, tidss, hget, hput, Blk.ice, freeze, V.cells, D.cells, V.isAgg, V.one, V.clo, clos, V.toD, loadD, structAt, eqCells, D.scalarEq, sliceOf, partsD, partsV, bound, isPtr, Blk.width, elems, lenOf, splice, D.over, resOf, resV, resVs, ↓reduceIte, reduceCtorEq, ↓reduceDIte, Nat.reduceLT, Nat.reduceEqDiff, Nat.reduceAdd, Nat.reduceSub, Nat.reduceMul, Nat.reduceLeDiff, Nat.reduceBEq, Nat.reduceBNe, Int.reduceNeg, Int.reduceAdd, Int.reduceSub, Int.reduceToNat, nilTest, shiftH, Blk.ren, V.ren, renL, initV, frameH, putL, frρ, dI, dW]
  split
  · rename_i h
    have : a ≠ b := fun e => by subst e; simp at h
    simp [this]
  · rename_i h
    have hab : a.length = b.length := by simp at h; omega
    refine wloop_count a.length (fun i => [(5, .d (.int .i64 i)), (0, .d (.vec (a.map dW))), (1, .d (.vec (b.map dW)))]) (fun _ => []) (fun i => ∀ j < i, a[j]? = b[j]?) (fun j hj => by omega) (Weak.sub (by simp [tget])) (fun i hi hI => ?_) (fun hI => ?_)
    · have hx : a[i]? = some a[i] := List.getElem?_eq_getElem hi
      have hy : b[i]? = some b[i] := List.getElem?_eq_getElem (by omega)
      have h' : ((i : Int) < (a.length : Int)) := by omega
      simp (maxSteps := 2000000) -implicitDefEqProofs only [zz, zE, evop, ev, ofVal, tget, tput, ok, V.isUndef, intBin, guardOf, initT, Ch.on, calleeOf, withArgs, told, xport, xports, tids, tidss, hget, hput, Blk.ice, freeze, V.cells, D.cells, V.isAgg, V.one, V.clo, clos, V.toD, loadD, structAt, eqCells, D.scalarEq, sliceOf, partsD, partsV, bound, isPtr, Blk.width, elems, lenOf, splice, D.over, resOf, resV, resVs, ↓reduceIte, reduceCtorEq, ↓reduceDIte, Nat.reduceLT, Nat.reduceEqDiff, Nat.reduceAdd, Nat.reduceSub, Nat.reduceMul, Nat.reduceLeDiff, Nat.reduceBEq, Nat.reduceBNe, Int.reduceNeg, Int.reduceAdd, Int.reduceSub, Int.reduceToNat, nilTest, shiftH, Blk.ren, V.ren, renL, initV, frameH, putL, frρ, dI, dW, h', List.getElem?_map, hx, hy, Option.map_some]
      refine wdraw_plan [⟨[], false, [18, 21, 22, 23, 24], [], false⟩, ⟨[], false, [17, 21, 22, 23, 24], [0], false⟩, ⟨[0, 1], false, [21, 22, 23, 24], [], false⟩, ⟨[0, 1, 2], false, [21, 22, 23, 24], [], false⟩, ⟨[], false, [17, 18, 19, 20, 22], [0, 1, 2, 3], false⟩, ⟨[], false, [17, 18, 19, 20, 21], [0, 1, 2, 3, 4], false⟩, ⟨[4, 5], false, [17, 18, 19, 20], [0, 1, 2, 3], false⟩, ⟨[4, 5, 6], false, [17, 18, 19, 20], [0, 1, 2, 3], false⟩, ⟨[0, 1, 2, 3, 4, 5, 6, 7], true, [], [], false⟩] (by decide) ?_
      simp (maxSteps := 2000000) -implicitDefEqProofs only [zz, zE, evop, ev, ofVal, tget, tput, ok, V.isUndef, intBin, guardOf, initT, Ch.on, calleeOf, withArgs, told, xport, xports, tids, tidss, hget, hput, Blk.ice, freeze, V.cells, D.cells, V.isAgg, V.one, V.clo, clos, V.toD, loadD, structAt, eqCells, D.scalarEq, sliceOf, partsD, partsV, bound, isPtr, Blk.width, elems, lenOf, splice, D.over, resOf, resV, resVs, ↓reduceIte, reduceCtorEq, ↓reduceDIte, Nat.reduceLT, Nat.reduceEqDiff, Nat.reduceAdd, Nat.reduceSub, Nat.reduceMul, Nat.reduceLeDiff, Nat.reduceBEq, Nat.reduceBNe, Int.reduceNeg, Int.reduceAdd, Int.reduceSub, Int.reduceToNat, nilTest, shiftH, Blk.ren, V.ren, renL, initV, frameH, putL, frρ, dI, dW, h', List.getElem?_map, hx, hy, Option.map_some, Int.natCast_nonneg]
      have hw : IntKind.i64.wrap ((i : Int) + 1) = ((i + 1 : Nat) : Int) := by rw [wrap_in (by omega)]; omega
      split
      · rename_i hne
        have : a ≠ b := fun e => by subst e; simp at hne
        simp [this]
      · rename_i heq
        have heq' : a[i] = b[i] := by simp at heq; exact Prod.ext heq.1 heq.2
        refine ⟨fun j hj => ?_, Weak.trims 0 rfl (by simp [tget, hw, V.lower]) (by simp)⟩
        by_cases e : j = i
        · subst e; rw [hx, hy, heq']
        · exact hI j (by omega)
    · have h' : ¬ ((a.length : Int) < (a.length : Int)) := by omega
      simp (maxSteps := 2000000) -implicitDefEqProofs only [zz, zE, evop, ev, ofVal, tget, tput, ok, V.isUndef, intBin, guardOf, initT, Ch.on, calleeOf, withArgs, told, xport, xports, tids, tidss, hget, hput, Blk.ice, freeze, V.cells, D.cells, V.isAgg, V.one, V.clo, clos, V.toD, loadD, structAt, eqCells, D.scalarEq, sliceOf, partsD, partsV, bound, isPtr, Blk.width, elems, lenOf, splice, D.over, resOf, resV, resVs, ↓reduceIte, reduceCtorEq, ↓reduceDIte, Nat.reduceLT, Nat.reduceEqDiff, Nat.reduceAdd, Nat.reduceSub, Nat.reduceMul, Nat.reduceLeDiff, Nat.reduceBEq, Nat.reduceBNe, Int.reduceNeg, Int.reduceAdd, Int.reduceSub, Int.reduceToNat, nilTest, shiftH, Blk.ren, V.ren, renL, initV, frameH, putL, frρ, dI, dW, h']
      have : a = b := List.ext_getElem? (fun j => by
        rcases Nat.lt_or_ge j a.length with h | h
        · exact hI j h
        · rw [List.getElem?_eq_none h, List.getElem?_eq_none (by omega)])
      simp [this]

theorem c_r17_find (l : List (Int × Int)) (who : Int) (hl : l.length ≤ 1000000) : CSpec Try.prog 35 [.vec (l.map dW), .int .i64 who] (.int .i64 (idxOf (fun x => x.1 == who) l)) := by
  refine CSpec.of_awp envOf_ok hmix Try.func35 rfl (fun args w => Try.call35 args w) (by simp [Try.f35]) ?_
  simp only [Try.f35]
  simp (maxSteps := 2000000) -implicitDefEqProofs only [zz, zE, evop, ev, ofVal, tget, tput, ok, V.isUndef, intBin, guardOf, initT, Ch.on, calleeOf, withArgs, told, xport, xports, tids, tidss, hget, hput, Blk.ice, freeze, V.cells, D.cells, V.isAgg, V.one, V.clo, clos, V.toD, loadD, structAt, eqCells, D.scalarEq, sliceOf, partsD, partsV, bound, isPtr, Blk.width, elems, lenOf, splice, D.over, resOf, resV, resVs, ↓reduceIte, reduceCtorEq, ↓reduceDIte, Nat.reduceLT, Nat.reduceEqDiff, Nat.reduceAdd, Nat.reduceSub, Nat.reduceMul, Nat.reduceLeDiff, Nat.reduceBEq, Nat.reduceBNe, Int.reduceNeg, Int.reduceAdd, Int.reduceSub, Int.reduceToNat, nilTest, shiftH, Blk.ren, V.ren, renL, initV, frameH, putL, frρ, dI, dW]
  refine wloop_count l.length (fun i => [(5, .d (.int .i64 i)), (0, .d (.vec (l.map dW))), (1, .d (.int .i64 who))]) (fun _ => []) (fun i => ∀ j < i, ∀ x, l[j]? = some x → (x.1 == who) = false) (fun j hj => by omega) (Weak.sub (by simp [tget])) (fun i hi hI => ?_) (fun hI => ?_)
  · have hx : l[i]? = some l[i] := List.getElem?_eq_getElem hi
    have h' : ((i : Int) < (l.length : Int)) := by omega
    have hw : IntKind.i64.wrap ((i : Int) + 1) = ((i + 1 : Nat) : Int) := by rw [wrap_in (by omega)]; omega
    simp (maxSteps := 2000000) -implicitDefEqProofs only [zz, zE, evop, ev, ofVal, tget, tput, ok, V.isUndef, intBin, guardOf, initT, Ch.on, calleeOf, withArgs, told, xport, xports, tids, tidss, hget, hput, Blk.ice, freeze, V.cells, D.cells, V.isAgg, V.one, V.clo, clos, V.toD, loadD, structAt, eqCells, D.scalarEq, sliceOf, partsD, partsV, bound, isPtr, Blk.width, elems, lenOf, splice, D.over, resOf, resV, resVs, ↓reduceIte, reduceCtorEq, ↓reduceDIte, Nat.reduceLT, Nat.reduceEqDiff, Nat.reduceAdd, Nat.reduceSub, Nat.reduceMul, Nat.reduceLeDiff, Nat.reduceBEq, Nat.reduceBNe, Int.reduceNeg, Int.reduceAdd, Int.reduceSub, Int.reduceToNat, nilTest, shiftH, Blk.ren, V.ren, renL, initV, frameH, putL, frρ, dI, dW, h', List.getElem?_map, hx, Option.map_some, Int.natCast_nonneg]
    split
    · rename_i he
      simp only [idxOf, findIdx_at hi hI he]
    · rename_i he
      refine ⟨fun j hj x hxj => ?_, Weak.sub (by simp [tget, hw])⟩
      rcases Nat.lt_or_ge j i with g | g
      · exact hI j g x hxj
      · obtain rfl : j = i := by omega
        rw [hx] at hxj; cases hxj
        simpa using he
  · have h' : ¬ ((l.length : Int) < (l.length : Int)) := by omega
    simp (maxSteps := 2000000) -implicitDefEqProofs only [zz, zE, evop, ev, ofVal, tget, tput, ok, V.isUndef, intBin, guardOf, initT, Ch.on, calleeOf, withArgs, told, xport, xports, tids, tidss, hget, hput, Blk.ice, freeze, V.cells, D.cells, V.isAgg, V.one, V.clo, clos, V.toD, loadD, structAt, eqCells, D.scalarEq, sliceOf, partsD, partsV, bound, isPtr, Blk.width, elems, lenOf, splice, D.over, resOf, resV, resVs, ↓reduceIte, reduceCtorEq, ↓reduceDIte, Nat.reduceLT, Nat.reduceEqDiff, Nat.reduceAdd, Nat.reduceSub, Nat.reduceMul, Nat.reduceLeDiff, Nat.reduceBEq, Nat.reduceBNe, Int.reduceNeg, Int.reduceAdd, Int.reduceSub, Int.reduceToNat, nilTest, shiftH, Blk.ren, V.ren, renL, initV, frameH, putL, frρ, dI, dW, h']
    have : l.findIdx? (fun x => x.1 == who) = none := by
      rw [List.findIdx?_eq_none_iff]
      intro x hx
      obtain ⟨i, hi, rfl⟩ := List.getElem_of_mem hx
      exact hI i hi _ (List.getElem?_eq_getElem hi)
    simp only [idxOf, this]

def smallW (w : Wh) : Bool := w.slots.all fun l => decide (l.length ≤ 20)
theorem c_small (w : Wh) (hs : w.slots.length = 8) (hl : ∀ l ∈ w.slots, l.length < 9223372036854775808) : CSpec Try.prog 8 [dWh w] (.bool (smallW w)) := by
  have hsl : (slotsV w).length = 8 := by simp [slotsV, hs]
  have hs8 : 8 ≤ w.slots.length := by omega
  have ht8 : List.take 8 (List.map V.d (List.map (fun l => D.vec (List.map dW l)) w.slots)) = slotsV w := List.take_of_length_le (by simp [hs])
  refine CSpec.of_awp envOf_ok hmix Try.func8 rfl (fun args w => Try.call8 args w) (by simp [Try.f8]) ?_
  simp only [Try.f8]
  simp (maxSteps := 2000000) -implicitDefEqProofs only [zz, zE, evop, ev, ofVal, tget, tput, ok, V.isUndef, intBin, guardOf, initT, Ch.on, calleeOf, withArgs, told, xport, xports, tids, tidss, hget, hput, Blk.ice, freeze, V.cells, D.cells, V.isAgg, V.one, V.clo, clos, V.toD, loadD, structAt, eqCells, D.scalarEq, sliceOf, partsD, partsV, bound, isPtr, Blk.width, elems, lenOf, splice, D.over, resOf, resV, resVs, ↓reduceIte, reduceCtorEq, ↓reduceDIte, Nat.reduceLT, Nat.reduceEqDiff, Nat.reduceAdd, Nat.reduceSub, Nat.reduceMul, Nat.reduceLeDiff, Nat.reduceBEq, Nat.reduceBNe, Int.reduceNeg, Int.reduceAdd, Int.reduceSub, Int.reduceToNat, nilTest, shiftH, Blk.ren, V.ren, renL, initV, frameH, putL, frρ, dI, dW]
  unfold dWh
  simp (maxSteps := 2000000) -implicitDefEqProofs only [zz, zE, evop, ev, ofVal, tget, tput, ok, V.isUndef, intBin, guardOf, initT, Ch.on, calleeOf, withArgs, told, xport, xports, tids, tidss, hget, hput, Blk.ice, freeze, V.cells, D.cells, V.isAgg, V.one, V.clo, clos, V.toD, loadD, structAt, eqCells, D.scalarEq, sliceOf, partsD, partsV, bound, isPtr, Blk.width, elems, lenOf, splice, D.over, resOf, resV, resVs, ↓reduceIte, reduceCtorEq, ↓reduceDIte, Nat.reduceLT, Nat.reduceEqDiff, Nat.reduceAdd, Nat.reduceSub, Nat.reduceMul, Nat.reduceLeDiff, Nat.reduceBEq, Nat.reduceBNe, Int.reduceNeg, Int.reduceAdd, Int.reduceSub, Int.reduceToNat, nilTest, shiftH, Blk.ren, V.ren, renL, initV, frameH, putL, frρ, dI, dW, hs8, ht8]
  refine wloop_count 8 (fun i => [(7, .d (.int .i64 i)), (6, .agg (slotsV w))]) (fun i => []) (fun i => ∀ j < i, ∀ l, w.slots[j]? = some l → l.length ≤ 20) (fun j hj => by omega) ?_ (fun i hi hI => ?_) (fun hI => ?_)
  · exact Weak.trims 0 rfl (by simp [tget, V.lower, lower_slots]) (by simp)
  · obtain ⟨l, hli⟩ : ∃ l, w.slots[i]? = some l := ⟨_, List.getElem?_eq_getElem (by omega)⟩
    have hll := hl l (List.mem_of_getElem? hli)
    have h' : ((i : Int) < 8) := by omega
    have hgi : (slotsV w).getD i (.d .undef) = .d (.vec (l.map dW)) := by
      unfold slotsV
      rw [List.getD_eq_getElem?_getD, List.getElem?_map, List.getElem?_map, hli]; rfl
    have hwi : IntKind.i64.wrap ((i : Int) + 1) = ((i + 1 : Nat) : Int) := by rw [wrap_in (by omega)]; omega
    simp (maxSteps := 2000000) -implicitDefEqProofs only [zz, zE, evop, ev, ofVal, tget, tput, ok, V.isUndef, intBin, guardOf, initT, Ch.on, calleeOf, withArgs, told, xport, xports, tids, tidss, hget, hput, Blk.ice, freeze, V.cells, D.cells, V.isAgg, V.one, V.clo, clos, V.toD, loadD, structAt, eqCells, D.scalarEq, sliceOf, partsD, partsV, bound, isPtr, Blk.width, elems, lenOf, splice, D.over, resOf, resV, resVs, ↓reduceIte, reduceCtorEq, ↓reduceDIte, Nat.reduceLT, Nat.reduceEqDiff, Nat.reduceAdd, Nat.reduceSub, Nat.reduceMul, Nat.reduceLeDiff, Nat.reduceBEq, Nat.reduceBNe, Int.reduceNeg, Int.reduceAdd, Int.reduceSub, Int.reduceToNat, nilTest, shiftH, Blk.ren, V.ren, renL, initV, frameH, putL, frρ, dI, dW, h', hsl, hgi, Int.toNat_natCast, hwi]
    refine ⟨⟨by omega, by omega⟩, ?_⟩
    split
    · rename_i he
      have : smallW w = false := by
        cases e : smallW w with
        | false => rfl
        | true =>
          have := of_decide_eq_true (List.all_eq_true.1 e l (List.mem_of_getElem? hli))
          omega
      rw [this]
    · refine ⟨fun j hj x hxj => ?_, Weak.sub (by simp [tget])⟩
      rcases Nat.lt_or_ge j i with g | g
      · exact hI j g x hxj
      · obtain rfl : j = i := by omega
        rw [hli] at hxj; cases hxj
        omega
  · have h' : ¬ (((8 : Nat) : Int) < 8) := by omega
    simp (maxSteps := 2000000) -implicitDefEqProofs only [zz, zE, evop, ev, ofVal, tget, tput, ok, V.isUndef, intBin, guardOf, initT, Ch.on, calleeOf, withArgs, told, xport, xports, tids, tidss, hget, hput, Blk.ice, freeze, V.cells, D.cells, V.isAgg, V.one, V.clo, clos, V.toD, loadD, structAt, eqCells, D.scalarEq, sliceOf, partsD, partsV, bound, isPtr, Blk.width, elems, lenOf, splice, D.over, resOf, resV, resVs, ↓reduceIte, reduceCtorEq, ↓reduceDIte, Nat.reduceLT, Nat.reduceEqDiff, Nat.reduceAdd, Nat.reduceSub, Nat.reduceMul, Nat.reduceLeDiff, Nat.reduceBEq, Nat.reduceBNe, Int.reduceNeg, Int.reduceAdd, Int.reduceSub, Int.reduceToNat, nilTest, shiftH, Blk.ren, V.ren, renL, initV, frameH, putL, frρ, dI, dW, h']
    have : smallW w = true := by
      refine List.all_eq_true.2 fun l hm => ?_
      obtain ⟨i, hi, rfl⟩ := List.getElem_of_mem hm
      exact decide_eq_true (hI i (by omega) _ (List.getElem?_eq_getElem hi))
    rw [this]

def sameW (a b : Wh) : Bool := decide (a.now = b.now) && decide (a.slots = b.slots)
theorem sameW_iff {a b : Wh} : sameW a b = true ↔ a = b := by
  obtain ⟨n, l⟩ := a
  obtain ⟨n', l'⟩ := b
  simp [sameW]
theorem sameW_self (a : Wh) : sameW a a = true := sameW_iff.2 rfl
theorem c_r17_Same (a b : Wh) (hs : a.slots.length = 8) (hs' : b.slots.length = 8) (hl : ∀ l ∈ a.slots, l.length ≤ 1000000) (hl' : ∀ l ∈ b.slots, l.length ≤ 1000000) : CSpec Try.prog 22 [dWh a, dWh b] (.bool (sameW a b)) := by
  have hsl : (slotsV a).length = 8 := by simp [slotsV, hs]
  have hsl' : (slotsV b).length = 8 := by simp [slotsV, hs']
  refine CSpec.of_awp envOf_ok hmix Try.func22 rfl (fun args w => Try.call22 args w) (by simp [Try.f22]) ?_
  simp only [Try.f22]
  simp (maxSteps := 2000000) -implicitDefEqProofs only [zz, zE, evop, ev, ofVal, tget, tput, ok, V.isUndef, intBin, guardOf, initT, Ch.on, calleeOf, withArgs, told, xport, xports, tids, tidss, hget, hput, Blk.ice, freeze, V.cells, D.cells, V.isAgg, V.one, V.clo, clos, V.toD, loadD, structAt, eqCells, D.scalarEq, sliceOf, partsD, partsV, bound, isPtr, Blk.width, elems, lenOf, splice, D.over, resOf, resV, resVs, ↓reduceIte, reduceCtorEq, ↓reduceDIte, Nat.reduceLT, Nat.reduceEqDiff, Nat.reduceAdd, Nat.reduceSub, Nat.reduceMul, Nat.reduceLeDiff, Nat.reduceBEq, Nat.reduceBNe, Int.reduceNeg, Int.reduceAdd, Int.reduceSub, Int.reduceToNat, nilTest, shiftH, Blk.ren, V.ren, renL, initV, frameH, putL, frρ, dI, dW]
  unfold dWh
  simp (maxSteps := 2000000) -implicitDefEqProofs only [zz, zE, evop, ev, ofVal, tget, tput, ok, V.isUndef, intBin, guardOf, initT, Ch.on, calleeOf, withArgs, told, xport, xports, tids, tidss, hget, hput, Blk.ice, freeze, V.cells, D.cells, V.isAgg, V.one, V.clo, clos, V.toD, loadD, structAt, eqCells, D.scalarEq, sliceOf, partsD, partsV, bound, isPtr, Blk.width, elems, lenOf, splice, D.over, resOf, resV, resVs, ↓reduceIte, reduceCtorEq, ↓reduceDIte, Nat.reduceLT, Nat.reduceEqDiff, Nat.reduceAdd, Nat.reduceSub, Nat.reduceMul, Nat.reduceLeDiff, Nat.reduceBEq, Nat.reduceBNe, Int.reduceNeg, Int.reduceAdd, Int.reduceSub, Int.reduceToNat, nilTest, shiftH, Blk.ren, V.ren, renL, initV, frameH, putL, frρ, dI, dW]
  have hba : Blk.box false (V.d (D.int IntKind.i64 a.now) :: List.map V.d (List.map (fun l => D.vec (List.map dW l)) a.slots)) = bWh a := rfl
  have hbb : Blk.box false (V.d (D.int IntKind.i64 b.now) :: List.map V.d (List.map (fun l => D.vec (List.map dW l)) b.slots)) = bWh b := rfl
  rw [hba, hbb]
  refine wloop_count 8 (fun i => [(5, .d (.int .i64 i)), (2, .ptr 0 0 0), (3, .ptr 1 0 0)]) (fun i => [bWh a, bWh b]) (fun i => ∀ j < i, a.slots[j]? = b.slots[j]?) (fun j hj => by omega) (Weak.sub (by simp [tget])) (fun i hi hI => ?_) (fun hI => ?_)
  · obtain ⟨l, hli⟩ : ∃ l, a.slots[i]? = some l := ⟨_, List.getElem?_eq_getElem (by omega)⟩
    obtain ⟨l', hli'⟩ : ∃ l, b.slots[i]? = some l := ⟨_, List.getElem?_eq_getElem (by omega)⟩
    have hgi : (V.d (D.int IntKind.i64 a.now) :: slotsV a)[1 + i]? = some (.d (.vec (l.map dW))) := by
      unfold slotsV
      rw [Nat.add_comm, List.getElem?_cons_succ, List.getElem?_map, List.getElem?_map, hli]; rfl
    have hgi' : (V.d (D.int IntKind.i64 b.now) :: slotsV b)[1 + i]? = some (.d (.vec (l'.map dW))) := by
      unfold slotsV
      rw [Nat.add_comm, List.getElem?_cons_succ, List.getElem?_map, List.getElem?_map, hli']; rfl
    have hwi : IntKind.i64.wrap ((i : Int) + 1) = ((i + 1 : Nat) : Int) := by rw [wrap_in (by omega)]; omega
    have hL := c_r17_List l l' (hl l (List.mem_of_getElem? hli)) (hl' l' (List.mem_of_getElem? hli'))
    have h' : ((i : Int) < 8) := by omega
    simp (maxSteps := 2000000) -implicitDefEqProofs only [zz, zE, evop, ev, ofVal, tget, tput, ok, V.isUndef, intBin, guardOf, initT, Ch.on, calleeOf, withArgs, told, xport, xports, tids, tidss, hget, hput, Blk.ice, freeze, V.cells, D.cells, V.isAgg, V.one, V.clo, clos, V.toD, loadD, structAt, eqCells, D.scalarEq, sliceOf, partsD, partsV, bound, isPtr, Blk.width, elems, lenOf, splice, D.over, resOf, resV, resVs, ↓reduceIte, reduceCtorEq, ↓reduceDIte, Nat.reduceLT, Nat.reduceEqDiff, Nat.reduceAdd, Nat.reduceSub, Nat.reduceMul, Nat.reduceLeDiff, Nat.reduceBEq, Nat.reduceBNe, Int.reduceNeg, Int.reduceAdd, Int.reduceSub, Int.reduceToNat, nilTest, shiftH, Blk.ren, V.ren, renL, initV, frameH, putL, frρ, dI, dW, h']
    refine wdraw_plan [⟨[], false, [12, 15, 16, 17, 18], [], false⟩, ⟨[], false, [11, 15, 16, 17, 18], [0], false⟩, ⟨[0, 1], false, [15, 16, 17, 18], [], false⟩, ⟨[0, 1, 2], false, [15, 16, 17, 18], [], false⟩, ⟨[], false, [11, 12, 13, 14, 16], [0, 1, 2, 3], false⟩, ⟨[], false, [11, 12, 13, 14, 15], [0, 1, 2, 3, 4], false⟩, ⟨[4, 5], false, [11, 12, 13, 14], [0, 1, 2, 3], false⟩, ⟨[4, 5, 6], false, [11, 12, 13, 14], [0, 1, 2, 3], false⟩, ⟨[0, 1, 2, 3, 4, 5, 6, 7], true, [], [], false⟩, ⟨[0, 1, 2, 3, 4, 5, 6, 7, 8], true, [], [], false⟩] (by decide) ?_
    simp (maxSteps := 2000000) -implicitDefEqProofs only [zz, zE, evop, ev, ofVal, tget, tput, ok, V.isUndef, intBin, guardOf, initT, Ch.on, calleeOf, withArgs, told, xport, xports, tids, tidss, hget, hput, Blk.ice, freeze, V.cells, D.cells, V.isAgg, V.one, V.clo, clos, V.toD, loadD, structAt, eqCells, D.scalarEq, sliceOf, partsD, partsV, bound, isPtr, Blk.width, elems, lenOf, splice, D.over, resOf, resV, resVs, ↓reduceIte, reduceCtorEq, ↓reduceDIte, Nat.reduceLT, Nat.reduceEqDiff, Nat.reduceAdd, Nat.reduceSub, Nat.reduceMul, Nat.reduceLeDiff, Nat.reduceBEq, Nat.reduceBNe, Int.reduceNeg, Int.reduceAdd, Int.reduceSub, Int.reduceToNat, nilTest, shiftH, Blk.ren, V.ren, renL, initV, frameH, putL, frρ, dI, dW, h', bWh, hgi, hgi', Int.toNat_natCast, hwi, Nat.mul_one]
    refine ⟨⟨by omega, by omega⟩, ⟨by omega, by omega⟩, ?_⟩
    first | refine acall_flat' (hL) rfl ?_ | refine dcall_flat' (hL) rfl ?_ | refine acall_ice' (hL) ?_ | refine dcall_still' (hL) rfl ?_
    try simp (maxSteps := 2000000) -implicitDefEqProofs only [zz, zE, evop, ev, ofVal, tget, tput, ok, V.isUndef, intBin, guardOf, initT, Ch.on, calleeOf, withArgs, told, xport, xports, tids, tidss, hget, hput, Blk.ice, freeze, V.cells, D.cells, V.isAgg, V.one, V.clo, clos, V.toD, loadD, structAt, eqCells, D.scalarEq, sliceOf, partsD, partsV, bound, isPtr, Blk.width, elems, lenOf, splice, D.over, resOf, resV, resVs, ↓reduceIte, reduceCtorEq, ↓reduceDIte, Nat.reduceLT, Nat.reduceEqDiff, Nat.reduceAdd, Nat.reduceSub, Nat.reduceMul, Nat.reduceLeDiff, Nat.reduceBEq, Nat.reduceBNe, Int.reduceNeg, Int.reduceAdd, Int.reduceSub, Int.reduceToNat, nilTest, shiftH, Blk.ren, V.ren, renL, initV, frameH, putL, frρ, dI, dW]
    by_cases e : l = l'
    · subst e
      have hd : decide (l = l) = true := by simp
      simp (maxSteps := 2000000) -implicitDefEqProofs only [zz, zE, evop, ev, ofVal, tget, tput, ok, V.isUndef, intBin, guardOf, initT, Ch.on, calleeOf, withArgs, told, xport, xports, tids, tidss, hget, hput, Blk.ice, freeze, V.cells, D.cells, V.isAgg, V.one, V.clo, clos, V.toD, loadD, structAt, eqCells, D.scalarEq, sliceOf, partsD, partsV, bound, isPtr, Blk.width, elems, lenOf, splice, D.over, resOf, resV, resVs, ↓reduceIte, reduceCtorEq, ↓reduceDIte, Nat.reduceLT, Nat.reduceEqDiff, Nat.reduceAdd, Nat.reduceSub, Nat.reduceMul, Nat.reduceLeDiff, Nat.reduceBEq, Nat.reduceBNe, Int.reduceNeg, Int.reduceAdd, Int.reduceSub, Int.reduceToNat, nilTest, shiftH, Blk.ren, V.ren, renL, initV, frameH, putL, frρ, dI, dW, hd, hwi]
      refine ⟨fun j hj => ?_, Weak.trims 2 rfl (by simp [tget, hwi, V.lower]) (by simp [Blk.lower, lowerL, V.lower, lower_slots])⟩
      rcases Nat.lt_or_ge j i with g | g
      · exact hI j g
      · obtain rfl : j = i := by omega
        rw [hli, hli']
    · have hd : decide (l = l') = false := by simp [e]
      have hsm : sameW a b = false := by
        cases e2 : sameW a b with
        | false => rfl
        | true =>
          have := sameW_iff.1 e2
          subst this
          rw [hli] at hli'; cases hli'; exact absurd rfl e
      simp (maxSteps := 2000000) -implicitDefEqProofs only [zz, zE, evop, ev, ofVal, tget, tput, ok, V.isUndef, intBin, guardOf, initT, Ch.on, calleeOf, withArgs, told, xport, xports, tids, tidss, hget, hput, Blk.ice, freeze, V.cells, D.cells, V.isAgg, V.one, V.clo, clos, V.toD, loadD, structAt, eqCells, D.scalarEq, sliceOf, partsD, partsV, bound, isPtr, Blk.width, elems, lenOf, splice, D.over, resOf, resV, resVs, ↓reduceIte, reduceCtorEq, ↓reduceDIte, Nat.reduceLT, Nat.reduceEqDiff, Nat.reduceAdd, Nat.reduceSub, Nat.reduceMul, Nat.reduceLeDiff, Nat.reduceBEq, Nat.reduceBNe, Int.reduceNeg, Int.reduceAdd, Int.reduceSub, Int.reduceToNat, nilTest, shiftH, Blk.ren, V.ren, renL, initV, frameH, putL, frρ, dI, dW, hd]
      rw [hsm]
  · have h' : ¬ (((8 : Nat) : Int) < 8) := by omega
    simp (maxSteps := 2000000) -implicitDefEqProofs only [zz, zE, evop, ev, ofVal, tget, tput, ok, V.isUndef, intBin, guardOf, initT, Ch.on, calleeOf, withArgs, told, xport, xports, tids, tidss, hget, hput, Blk.ice, freeze, V.cells, D.cells, V.isAgg, V.one, V.clo, clos, V.toD, loadD, structAt, eqCells, D.scalarEq, sliceOf, partsD, partsV, bound, isPtr, Blk.width, elems, lenOf, splice, D.over, resOf, resV, resVs, ↓reduceIte, reduceCtorEq, ↓reduceDIte, Nat.reduceLT, Nat.reduceEqDiff, Nat.reduceAdd, Nat.reduceSub, Nat.reduceMul, Nat.reduceLeDiff, Nat.reduceBEq, Nat.reduceBNe, Int.reduceNeg, Int.reduceAdd, Int.reduceSub, Int.reduceToNat, nilTest, shiftH, Blk.ren, V.ren, renL, initV, frameH, putL, frρ, dI, dW, h', bWh]
    have : a.slots = b.slots := List.ext_getElem? fun j => by
      rcases Nat.lt_or_ge j 8 with g | g
      · exact hI j g
      · rw [List.getElem?_eq_none (by omega), List.getElem?_eq_none (by omega)]
    simp only [sameW, this, decide_true, Bool.and_true]
    congr 2
    try (rw [Bool.eq_iff_iff]; simp)
end Go.Proofs.Ytaejlmengfahnaa.AM

set_option linter.all false
set_option maxRecDepth 100000
set_option maxHeartbeats 8000000
namespace Go.Proofs.Ytaejlmengfahnaa.AM
open Go Go.RowKit

theorem c_law17_Refs (t : List (Int × Int)) (hl : t.length ≤ 1000000) : CSpec Try.prog 24 [.vec (t.map dW)] (.vec (t.map dW)) := by
  refine CSpec.of_awp envOf_ok hmix Try.func24 rfl (fun args w => Try.call24 args w) (by simp [Try.f24]) ?_
  simp only [Try.f24]
  simp (maxSteps := 2000000) -implicitDefEqProofs only [zz, zE, evop, ev, ofVal, tget, tput, ok, V.isUndef, intBin, guardOf, initT, Ch.on, calleeOf, withArgs, told, xport, xports, tids, tidss, hget, hput, Blk.ice, freeze, V.cells, D.cells, V.isAgg, V.one, V.clo, clos, V.toD, loadD, structAt, eqCells, D.scalarEq, sliceOf, partsD, partsV, bound, isPtr, Blk.width, elems, lenOf, splice, D.over, resOf, resV, resVs, ↓reduceIte, reduceCtorEq, ↓reduceDIte, Nat.reduceLT, Nat.reduceEqDiff, Nat.reduceAdd, Nat.reduceSub, Nat.reduceMul, Nat.reduceLeDiff, Nat.reduceBEq, Nat.reduceBNe, Int.reduceNeg, Int.reduceAdd, Int.reduceSub, Int.reduceToNat, nilTest, shiftH, Blk.ren, V.ren, renL, initV, frameH, putL, frρ, dI, dW]
  refine wloop_count t.length (fun i => [(8, .d (.int .i64 i)), (7, .d (.int .i64 t.length)), (6, .d (.vec (t.map dW))), (3, .own 0 0 i)]) (fun i => [.dat false 2 ((t.take i).map dW)]) (fun _ => True) trivial ?_ (fun i hi _ => ?_) (fun _ => ?_)
  · refine Weak.pick [7] (by simp) (by simp) rfl (fun q hq => ?_) (fun i hi => ?_)
    · simp only [List.mem_cons, List.not_mem_nil, or_false] at hq
      rcases hq with rfl | rfl | rfl | rfl
      · exact .same _
      · exact .same _
      · exact .same _
      · exact .nils 0 2 rfl
    · obtain rfl : i = 0 := by simpa using hi
      exact .virt 2 rfl rfl
  · have hx : t[i]? = some t[i] := List.getElem?_eq_getElem hi
    have h' : ((i : Int) < (t.length : Int)) := by omega
    have hw : IntKind.i64.wrap ((i : Int) + 1) = ((i + 1 : Nat) : Int) := by rw [wrap_in (by omega)]; omega
    have hT : t.take (i + 1) = t.take i ++ [t[i]] := by rw [List.take_succ, hx]; rfl
    have e6 : List.take i ((t.take i).map dW) = (t.take i).map dW := by rw [List.take_of_length_le]; rw [List.length_map, List.length_take]; omega
    simp (maxSteps := 2000000) -implicitDefEqProofs only [zz, zE, evop, ev, ofVal, tget, tput, ok, V.isUndef, intBin, guardOf, initT, Ch.on, calleeOf, withArgs, told, xport, xports, tids, tidss, hget, hput, Blk.ice, freeze, V.cells, D.cells, V.isAgg, V.one, V.clo, clos, V.toD, loadD, structAt, eqCells, D.scalarEq, sliceOf, partsD, partsV, bound, isPtr, Blk.width, elems, lenOf, splice, D.over, resOf, resV, resVs, ↓reduceIte, reduceCtorEq, ↓reduceDIte, Nat.reduceLT, Nat.reduceEqDiff, Nat.reduceAdd, Nat.reduceSub, Nat.reduceMul, Nat.reduceLeDiff, Nat.reduceBEq, Nat.reduceBNe, Int.reduceNeg, Int.reduceAdd, Int.reduceSub, Int.reduceToNat, nilTest, shiftH, Blk.ren, V.ren, renL, initV, frameH, putL, frρ, dI, dW, h', List.getElem?_map, hx, Option.map_some, Int.natCast_nonneg]
    refine ⟨⟨by omega, okEl_T [t[i]]⟩, ?_⟩
    rw [hw, hT, e6, List.map_append]
    refine Weak.pick [3] (by decide) (by simp) rfl (fun q hq => ?_) (fun i hi => ?_)
    · simp only [List.mem_cons, List.not_mem_nil, or_false] at hq
      rcases hq with rfl | rfl | rfl | rfl <;> exact .same _
    · match i, hi with
      | 0, _ => exact .dat _ _ _ rfl rfl
      | i + 1, hi => exact absurd hi (by simp)
  · have h' : ¬ ((t.length : Int) < (t.length : Int)) := by omega
    rw [List.take_length]
    simp (maxSteps := 2000000) -implicitDefEqProofs only [zz, zE, evop, ev, ofVal, tget, tput, ok, V.isUndef, intBin, guardOf, initT, Ch.on, calleeOf, withArgs, told, xport, xports, tids, tidss, hget, hput, Blk.ice, freeze, V.cells, D.cells, V.isAgg, V.one, V.clo, clos, V.toD, loadD, structAt, eqCells, D.scalarEq, sliceOf, partsD, partsV, bound, isPtr, Blk.width, elems, lenOf, splice, D.over, resOf, resV, resVs, ↓reduceIte, reduceCtorEq, ↓reduceDIte, Nat.reduceLT, Nat.reduceEqDiff, Nat.reduceAdd, Nat.reduceSub, Nat.reduceMul, Nat.reduceLeDiff, Nat.reduceBEq, Nat.reduceBNe, Int.reduceNeg, Int.reduceAdd, Int.reduceSub, Int.reduceToNat, nilTest, shiftH, Blk.ren, V.ren, renL, initV, frameH, putL, frρ, dI, dW, h']
    rw [List.take_of_length_le (by simp)]

def upW (w : Wh) (i : Nat) : Wh := ⟨w.now, w.slots.take i ++ List.replicate (8 - i) []⟩
theorem upW_len {w : Wh} {i : Nat} (hs : w.slots.length = 8) (hi : i ≤ 8) : (upW w i).slots.length = 8 := by simp [upW, hs]; omega
theorem upW_all {w : Wh} (hs : w.slots.length = 8) : upW w 8 = w := by
  obtain ⟨n, l⟩ := w
  have : l.take 8 = l := List.take_of_length_le (by simp at hs; omega)
  simp [upW, this]
theorem upW_set {w : Wh} {i : Nat} {l : List (Int × Int)} (hs : w.slots.length = 8) (hi : i < 8) (hli : w.slots[i]? = some l) : (upW w i).slots.set i l = (upW w (i + 1)).slots := by
  unfold upW
  simp only
  have h1 : (w.slots.take i).length = i := by simp; omega
  have e8 : 8 - i = (8 - (i + 1)) + 1 := by omega
  rw [e8, List.replicate_succ, List.set_append_right _ _ (by omega), h1, Nat.sub_self, List.set_cons_zero, List.take_succ, hli]
  simp
theorem c_law17_Ref (w : Wh) (hs : w.slots.length = 8) (hl : ∀ l ∈ w.slots, l.length ≤ 1000000) : CSpec Try.prog 10 [dWh w] (dWh w) := by
  have hsl : (slotsV w).length = 8 := by simp [slotsV, hs]
  have hs8 : 8 ≤ w.slots.length := by omega
  have ht8 : List.take 8 (List.map V.d (List.map (fun l => D.vec (List.map dW l)) w.slots)) = slotsV w := List.take_of_length_le (by simp [hs])
  refine CSpec.of_awp envOf_ok hmix Try.func10 rfl (fun args w => Try.call10 args w) (by simp [Try.f10]) ?_
  simp only [Try.f10]
  simp (maxSteps := 2000000) -implicitDefEqProofs only [zz, zE, evop, ev, ofVal, tget, tput, ok, V.isUndef, intBin, guardOf, initT, Ch.on, calleeOf, withArgs, told, xport, xports, tids, tidss, hget, hput, Blk.ice, freeze, V.cells, D.cells, V.isAgg, V.one, V.clo, clos, V.toD, loadD, structAt, eqCells, D.scalarEq, sliceOf, partsD, partsV, bound, isPtr, Blk.width, elems, lenOf, splice, D.over, resOf, resV, resVs, ↓reduceIte, reduceCtorEq, ↓reduceDIte, Nat.reduceLT, Nat.reduceEqDiff, Nat.reduceAdd, Nat.reduceSub, Nat.reduceMul, Nat.reduceLeDiff, Nat.reduceBEq, Nat.reduceBNe, Int.reduceNeg, Int.reduceAdd, Int.reduceSub, Int.reduceToNat, nilTest, shiftH, Blk.ren, V.ren, renL, initV, frameH, putL, frρ, dI, dW]
  unfold dWh
  simp (maxSteps := 2000000) -implicitDefEqProofs only [zz, zE, evop, ev, ofVal, tget, tput, ok, V.isUndef, intBin, guardOf, initT, Ch.on, calleeOf, withArgs, told, xport, xports, tids, tidss, hget, hput, Blk.ice, freeze, V.cells, D.cells, V.isAgg, V.one, V.clo, clos, V.toD, loadD, structAt, eqCells, D.scalarEq, sliceOf, partsD, partsV, bound, isPtr, Blk.width, elems, lenOf, splice, D.over, resOf, resV, resVs, ↓reduceIte, reduceCtorEq, ↓reduceDIte, Nat.reduceLT, Nat.reduceEqDiff, Nat.reduceAdd, Nat.reduceSub, Nat.reduceMul, Nat.reduceLeDiff, Nat.reduceBEq, Nat.reduceBNe, Int.reduceNeg, Int.reduceAdd, Int.reduceSub, Int.reduceToNat, nilTest, shiftH, Blk.ren, V.ren, renL, initV, frameH, putL, frρ, dI, dW, hs8, ht8]
  refine wloop_count 8 (fun i => [(11, .d (.int .i64 i)), (10, .agg (slotsV w)), (2, .ptr 1 0 0), (3, .ptr 2 0 0)]) (fun i => [bWh w, .box false [V.d (D.int IntKind.i64 0), V.d (.vec []), V.d (.vec []), V.d (.vec []), V.d (.vec []), V.d (.vec []), V.d (.vec []), V.d (.vec []), V.d (.vec [])], bWh (upW w i)]) (fun _ => True) trivial ?_ (fun i hi _ => ?_) (fun _ => ?_)
  · refine Weak.trans' (Weak.sealed (T' := [(11, .d (.int .i64 0)), (10, .agg (slotsV w)), (2, .ptr 1 0 0), (3, .ptr 2 0 0)]) [] (by simp [tget, sealF])) ?_
    have hS : ∀ (X Y Z : List V), sealH [.box false X, .box false Y, .box false Z] [] = [.box false (X.map (sealF [.box false X, .box false Y, .box false Z] [])), .box false (Y.map (sealF [.box false X, .box false Y, .box false Z] [])), .box false (Z.map (sealF [.box false X, .box false Y, .box false Z] []))] := fun _ _ _ => rfl
    have h1 : ∀ H, (V.d (.int .i64 w.now) :: List.map V.d (List.map (fun l => D.vec (List.map dW l)) w.slots)).map (sealF H []) = V.d (.int .i64 w.now) :: slotsV w := fun H => by
      rw [List.map_cons]
      have := seal_slots (H := H) (ids := []) w
      unfold slotsV at this
      rw [this]; rfl
    rw [hS, h1]
    exact Weak.sub (by simp [tget])
  · obtain ⟨l, hli⟩ : ∃ l, w.slots[i]? = some l := ⟨_, List.getElem?_eq_getElem (by omega)⟩
    have hll := hl l (List.mem_of_getElem? hli)
    have h' : ((i : Int) < 8) := by omega
    have hgi : (slotsV w).getD i (.d .undef) = .d (.vec (l.map dW)) := by
      unfold slotsV
      rw [List.getD_eq_getElem?_getD, List.getElem?_map, List.getElem?_map, hli]; rfl
    have hwi : IntKind.i64.wrap ((i : Int) + 1) = ((i + 1 : Nat) : Int) := by rw [wrap_in (by omega)]; omega
    have hR := c_law17_Refs l hll
    have hul := upW_len (w := w) (i := i) hs (by omega)
    have husl : (slotsV (upW w i)).length = 8 := by simp [slotsV, hul]
    have hj9 : 1 + i + 1 ≤ 9 := by omega
    simp (maxSteps := 2000000) -implicitDefEqProofs only [zz, zE, evop, ev, ofVal, tget, tput, ok, V.isUndef, intBin, guardOf, initT, Ch.on, calleeOf, withArgs, told, xport, xports, tids, tidss, hget, hput, Blk.ice, freeze, V.cells, D.cells, V.isAgg, V.one, V.clo, clos, V.toD, loadD, structAt, eqCells, D.scalarEq, sliceOf, partsD, partsV, bound, isPtr, Blk.width, elems, lenOf, splice, D.over, resOf, resV, resVs, ↓reduceIte, reduceCtorEq, ↓reduceDIte, Nat.reduceLT, Nat.reduceEqDiff, Nat.reduceAdd, Nat.reduceSub, Nat.reduceMul, Nat.reduceLeDiff, Nat.reduceBEq, Nat.reduceBNe, Int.reduceNeg, Int.reduceAdd, Int.reduceSub, Int.reduceToNat, nilTest, shiftH, Blk.ren, V.ren, renL, initV, frameH, putL, frρ, dI, dW, h', hsl, hgi, Int.toNat_natCast, hwi]
    refine ⟨⟨by omega, by omega⟩, ?_⟩
    first | refine acall_flat' (hR) rfl ?_ | refine dcall_flat' (hR) rfl ?_ | refine acall_ice' (hR) ?_ | refine dcall_still' (hR) rfl ?_
    try simp (maxSteps := 2000000) -implicitDefEqProofs only [zz, zE, evop, ev, ofVal, tget, tput, ok, V.isUndef, intBin, guardOf, initT, Ch.on, calleeOf, withArgs, told, xport, xports, tids, tidss, hget, hput, Blk.ice, freeze, V.cells, D.cells, V.isAgg, V.one, V.clo, clos, V.toD, loadD, structAt, eqCells, D.scalarEq, sliceOf, partsD, partsV, bound, isPtr, Blk.width, elems, lenOf, splice, D.over, resOf, resV, resVs, ↓reduceIte, reduceCtorEq, ↓reduceDIte, Nat.reduceLT, Nat.reduceEqDiff, Nat.reduceAdd, Nat.reduceSub, Nat.reduceMul, Nat.reduceLeDiff, Nat.reduceBEq, Nat.reduceBNe, Int.reduceNeg, Int.reduceAdd, Int.reduceSub, Int.reduceToNat, nilTest, shiftH, Blk.ren, V.ren, renL, initV, frameH, putL, frρ, dI, dW]
    simp (maxSteps := 2000000) -implicitDefEqProofs only [zz, zE, evop, ev, ofVal, tget, tput, ok, V.isUndef, intBin, guardOf, initT, Ch.on, calleeOf, withArgs, told, xport, xports, tids, tidss, hget, hput, Blk.ice, freeze, V.cells, D.cells, V.isAgg, V.one, V.clo, clos, V.toD, loadD, structAt, eqCells, D.scalarEq, sliceOf, partsD, partsV, bound, isPtr, Blk.width, elems, lenOf, splice, D.over, resOf, resV, resVs, ↓reduceIte, reduceCtorEq, ↓reduceDIte, Nat.reduceLT, Nat.reduceEqDiff, Nat.reduceAdd, Nat.reduceSub, Nat.reduceMul, Nat.reduceLeDiff, Nat.reduceBEq, Nat.reduceBNe, Int.reduceNeg, Int.reduceAdd, Int.reduceSub, Int.reduceToNat, nilTest, shiftH, Blk.ren, V.ren, renL, initV, frameH, putL, frρ, dI, dW, bWh, husl, hj9, Nat.mul_one, List.length_cons, hwi]
    have hss := slots_set (w := upW w i) (i := i) (l := l) (by omega) rfl
    rw [List.drop_succ_cons] at hss
    rw [hss, upW_set hs hi hli]
    exact ⟨⟨by omega, by omega⟩, Weak.sub (by simp [tget])⟩
  · have h' : ¬ (((8 : Nat) : Int) < 8) := by omega
    rw [upW_all hs]
    have hs9 : 8 ≤ (slotsV w).length := by omega
    have ht9 : List.take 8 (slotsV w) = slotsV w := List.take_of_length_le (by omega)
    simp (maxSteps := 2000000) -implicitDefEqProofs only [zz, zE, evop, ev, ofVal, tget, tput, ok, V.isUndef, intBin, guardOf, initT, Ch.on, calleeOf, withArgs, told, xport, xports, tids, tidss, hget, hput, Blk.ice, freeze, V.cells, D.cells, V.isAgg, V.one, V.clo, clos, V.toD, loadD, structAt, eqCells, D.scalarEq, sliceOf, partsD, partsV, bound, isPtr, Blk.width, elems, lenOf, splice, D.over, resOf, resV, resVs, ↓reduceIte, reduceCtorEq, ↓reduceDIte, Nat.reduceLT, Nat.reduceEqDiff, Nat.reduceAdd, Nat.reduceSub, Nat.reduceMul, Nat.reduceLeDiff, Nat.reduceBEq, Nat.reduceBNe, Int.reduceNeg, Int.reduceAdd, Int.reduceSub, Int.reduceToNat, nilTest, shiftH, Blk.ren, V.ren, renL, initV, frameH, putL, frρ, dI, dW, h', bWh, hsl, ht9, List.length_cons, slots_one]
    simp only [xports_slots _ hs]
end Go.Proofs.Ytaejlmengfahnaa.AM

set_option linter.all false
set_option maxRecDepth 100000
set_option maxHeartbeats 8000000
namespace Go.Proofs.Ytaejlmengfahnaa.AM
open Go Go.RowKit

def cntB (ws : List Int) : List Int := (List.range 9).map fun (k : Nat) => if (k : Int) ∈ ws then 1 else 0
def bCnt (ws : List Int) : Blk := .box false ((cntB ws).map fun n => V.d (.int .i64 n))
theorem cntB_get {ws : List Int} {n : Int} (h0 : 0 ≤ n) (h1 : n ≤ 8) : (cntB ws)[n.toNat]? = some (if n ∈ ws then 1 else 0) := by
  unfold cntB
  rw [List.getElem?_map, List.getElem?_range (by omega), Option.map_some]
  have : ((n.toNat : Nat) : Int) = n := by omega
  rw [this]
theorem cntB_set {ws : List Int} {n : Int} (h0 : 0 ≤ n) (h1 : n ≤ 8) : (cntB ws).set n.toNat 1 = cntB (ws ++ [n]) := by
  refine List.ext_getElem? (fun i => ?_)
  have hl : (cntB ws).length = 9 := by simp [cntB]
  have hl2 : (cntB (ws ++ [n])).length = 9 := by simp [cntB]
  rcases Nat.lt_or_ge i 9 with g | g
  · have hr : (cntB (ws ++ [n]))[i]? = some (if (i : Int) ∈ ws ++ [n] then 1 else 0) := by
      unfold cntB; rw [List.getElem?_map, List.getElem?_range g]; rfl
    rw [hr]
    by_cases e : n.toNat = i
    · subst e
      rw [List.getElem?_set_self (by omega)]
      have : ((n.toNat : Nat) : Int) = n := by omega
      rw [this]; simp
    · rw [List.getElem?_set_ne e]
      have hr' : (cntB ws)[i]? = some (if (i : Int) ∈ ws then 1 else 0) := by
        unfold cntB; rw [List.getElem?_map, List.getElem?_range g]; rfl
      rw [hr']
      have : (i : Int) ≠ n := by omega
      simp [this]
  · rw [List.getElem?_eq_none (by rw [List.length_set]; omega), List.getElem?_eq_none (by omega)]
theorem spl_get {α : Type} {L : List α} {n : Nat} {v : α} (h : n < L.length) : (List.take n L ++ [v] ++ List.drop (n + 1) L)[n]? = some v := by
  have h1 : (List.take n L).length = n := by simp; omega
  rw [List.append_assoc, List.getElem?_append_right (by omega), h1, Nat.sub_self]; rfl
theorem lowerL_i (n : Nat) : ∀ l : List Int, lowerL n (l.map fun b => V.d (.int .i64 b)) = true
  | [] => rfl
  | b :: r => by simp only [List.map_cons, lowerL, V.lower, lowerL_i n r]; rfl

theorem c_r17_Right (w : Wh) (hs : w.slots.length = 8) (hl : ∀ l ∈ w.slots, l.length ≤ 1000000) : CSpec Try.prog 11 [dWh w] (.bool (rightB w)) := by
  have hsl : (slotsV w).length = 8 := by simp [slotsV, hs]
  have hs8 : 8 ≤ w.slots.length := by omega
  have hb0 : Blk.box false [V.d (D.int .i64 0), V.d (D.int .i64 0), V.d (D.int .i64 0), V.d (D.int .i64 0), V.d (D.int .i64 0), V.d (D.int .i64 0), V.d (D.int .i64 0), V.d (D.int .i64 0), V.d (D.int .i64 0)] = bCnt (whosU w 0 0) := rfl
  have hbw : Blk.box false (V.d (D.int IntKind.i64 w.now) :: List.map V.d (List.map (fun l => D.vec (List.map dW l)) w.slots)) = bWh w := rfl
  refine CSpec.of_awp envOf_ok hmix Try.func11 rfl (fun args w => Try.call11 args w) (by simp [Try.f11]) ?_
  simp only [Try.f11]
  simp (maxSteps := 2000000) -implicitDefEqProofs only [zz, zE, evop, ev, ofVal, tget, tput, ok, V.isUndef, intBin, guardOf, initT, Ch.on, calleeOf, withArgs, told, xport, xports, tids, tidss, hget, hput, Blk.ice, freeze, V.cells, D.cells, V.isAgg, V.one, V.clo, clos, V.toD, loadD, structAt, eqCells, D.scalarEq, sliceOf, partsD, partsV, bound, isPtr, Blk.width, elems, lenOf, splice, D.over, resOf, resV, resVs, ↓reduceIte, reduceCtorEq, ↓reduceDIte, Nat.reduceLT, Nat.reduceEqDiff, Nat.reduceAdd, Nat.reduceSub, Nat.reduceMul, Nat.reduceLeDiff, Nat.reduceBEq, Nat.reduceBNe, Int.reduceNeg, Int.reduceAdd, Int.reduceSub, Int.reduceToNat, nilTest, shiftH, Blk.ren, V.ren, renL, initV, frameH, putL, frρ, dI, dW]
  unfold dWh
  simp (maxSteps := 2000000) -implicitDefEqProofs only [zz, zE, evop, ev, ofVal, tget, tput, ok, V.isUndef, intBin, guardOf, initT, Ch.on, calleeOf, withArgs, told, xport, xports, tids, tidss, hget, hput, Blk.ice, freeze, V.cells, D.cells, V.isAgg, V.one, V.clo, clos, V.toD, loadD, structAt, eqCells, D.scalarEq, sliceOf, partsD, partsV, bound, isPtr, Blk.width, elems, lenOf, splice, D.over, resOf, resV, resVs, ↓reduceIte, reduceCtorEq, ↓reduceDIte, Nat.reduceLT, Nat.reduceEqDiff, Nat.reduceAdd, Nat.reduceSub, Nat.reduceMul, Nat.reduceLeDiff, Nat.reduceBEq, Nat.reduceBNe, Int.reduceNeg, Int.reduceAdd, Int.reduceSub, Int.reduceToNat, nilTest, shiftH, Blk.ren, V.ren, renL, initV, frameH, putL, frρ, dI, dW, hs8]
  rw [hb0, hbw]
  refine wloop_count 8 (fun i => [(4, .d (.int .i64 i)), (1, .ptr 0 0 0), (3, .ptr 1 0 0)]) (fun i => [bWh w, bCnt (whosU w i 0)]) (fun i => Good w i 0) (Good.zero w) (Weak.sub (by simp [tget])) (fun i hi hG => ?_) (fun hG => ?_)
  case refine_2 =>
    have h' : ¬ (((8 : Nat) : Int) < 8) := by omega
    have hr := c_r04_Right w.now
    simp (maxSteps := 2000000) -implicitDefEqProofs only [zz, zE, evop, ev, ofVal, tget, tput, ok, V.isUndef, intBin, guardOf, initT, Ch.on, calleeOf, withArgs, told, xport, xports, tids, tidss, hget, hput, Blk.ice, freeze, V.cells, D.cells, V.isAgg, V.one, V.clo, clos, V.toD, loadD, structAt, eqCells, D.scalarEq, sliceOf, partsD, partsV, bound, isPtr, Blk.width, elems, lenOf, splice, D.over, resOf, resV, resVs, ↓reduceIte, reduceCtorEq, ↓reduceDIte, Nat.reduceLT, Nat.reduceEqDiff, Nat.reduceAdd, Nat.reduceSub, Nat.reduceMul, Nat.reduceLeDiff, Nat.reduceBEq, Nat.reduceBNe, Int.reduceNeg, Int.reduceAdd, Int.reduceSub, Int.reduceToNat, nilTest, shiftH, Blk.ren, V.ren, renL, initV, frameH, putL, frρ, dI, dW, h', bWh]
    refine acall_flat' (hr) rfl ?_
    try simp (maxSteps := 2000000) -implicitDefEqProofs only [zz, zE, evop, ev, ofVal, tget, tput, ok, V.isUndef, intBin, guardOf, initT, Ch.on, calleeOf, withArgs, told, xport, xports, tids, tidss, hget, hput, Blk.ice, freeze, V.cells, D.cells, V.isAgg, V.one, V.clo, clos, V.toD, loadD, structAt, eqCells, D.scalarEq, sliceOf, partsD, partsV, bound, isPtr, Blk.width, elems, lenOf, splice, D.over, resOf, resV, resVs, ↓reduceIte, reduceCtorEq, ↓reduceDIte, Nat.reduceLT, Nat.reduceEqDiff, Nat.reduceAdd, Nat.reduceSub, Nat.reduceMul, Nat.reduceLeDiff, Nat.reduceBEq, Nat.reduceBNe, Int.reduceNeg, Int.reduceAdd, Int.reduceSub, Int.reduceToNat, nilTest, shiftH, Blk.ren, V.ren, renL, initV, frameH, putL, frρ, dI, dW]
    rw [Good.all hs hG]
  obtain ⟨l, hli⟩ : ∃ l, w.slots[i]? = some l := ⟨_, List.getElem?_eq_getElem (by omega)⟩
  have hll := hl l (List.mem_of_getElem? hli)
  have h' : ((i : Int) < 8) := by omega
  have hgi : (V.d (D.int IntKind.i64 w.now) :: slotsV w)[1 + i]? = some (.d (.vec (l.map dW))) := by
    unfold slotsV
    rw [Nat.add_comm, List.getElem?_cons_succ, List.getElem?_map, List.getElem?_map, hli]; rfl
  have hwi : IntKind.i64.wrap ((i : Int) + 1) = ((i + 1 : Nat) : Int) := by rw [wrap_in (by omega)]; omega
  simp (maxSteps := 2000000) -implicitDefEqProofs only [zz, zE, evop, ev, ofVal, tget, tput, ok, V.isUndef, intBin, guardOf, initT, Ch.on, calleeOf, withArgs, told, xport, xports, tids, tidss, hget, hput, Blk.ice, freeze, V.cells, D.cells, V.isAgg, V.one, V.clo, clos, V.toD, loadD, structAt, eqCells, D.scalarEq, sliceOf, partsD, partsV, bound, isPtr, Blk.width, elems, lenOf, splice, D.over, resOf, resV, resVs, ↓reduceIte, reduceCtorEq, ↓reduceDIte, Nat.reduceLT, Nat.reduceEqDiff, Nat.reduceAdd, Nat.reduceSub, Nat.reduceMul, Nat.reduceLeDiff, Nat.reduceBEq, Nat.reduceBNe, Int.reduceNeg, Int.reduceAdd, Int.reduceSub, Int.reduceToNat, nilTest, shiftH, Blk.ren, V.ren, renL, initV, frameH, putL, frρ, dI, dW, h']
  refine wloop_count l.length (fun k => [(5, .d (.int .i64 k)), (4, .d (.int .i64 i)), (1, .ptr 0 0 0), (3, .ptr 1 0 0)]) (fun k => [bWh w, bCnt (whosU w i k)]) (fun k => Good w i k) hG (Weak.sub (by simp [tget])) (fun k hk hG => ?_) (fun hG => ?_)
  case refine_2 =>
    have hnl : ¬ ((l.length : Int) < (l.length : Int)) := by omega
    have hu : whosU w i l.length = whosU w (i + 1) 0 := by
      unfold whosU
      rw [slotW_get hli, List.take_length, List.take_zero, List.append_nil, List.take_succ, hli]
      simp
    simp (maxSteps := 2000000) -implicitDefEqProofs only [zz, zE, evop, ev, ofVal, tget, tput, ok, V.isUndef, intBin, guardOf, initT, Ch.on, calleeOf, withArgs, told, xport, xports, tids, tidss, hget, hput, Blk.ice, freeze, V.cells, D.cells, V.isAgg, V.one, V.clo, clos, V.toD, loadD, structAt, eqCells, D.scalarEq, sliceOf, partsD, partsV, bound, isPtr, Blk.width, elems, lenOf, splice, D.over, resOf, resV, resVs, ↓reduceIte, reduceCtorEq, ↓reduceDIte, Nat.reduceLT, Nat.reduceEqDiff, Nat.reduceAdd, Nat.reduceSub, Nat.reduceMul, Nat.reduceLeDiff, Nat.reduceBEq, Nat.reduceBNe, Int.reduceNeg, Int.reduceAdd, Int.reduceSub, Int.reduceToNat, nilTest, shiftH, Blk.ren, V.ren, renL, initV, frameH, putL, frρ, dI, dW, bWh, hgi, Int.toNat_natCast, Nat.mul_one, hnl, hwi]
    rw [hu]
    exact ⟨⟨by omega, by omega⟩, Good.up hli hG, Weak.sub (by simp [tget, hwi])⟩
  have hx : l[k]? = some l[k] := List.getElem?_eq_getElem hk
  generalize l[k] = x at hx
  have bad : ¬ (itemOk w.now i x = true ∧ x.1 ∉ whosU w i k ∧ ∀ y, 0 < k → l[k - 1]? = some y → ltI y x = true) → rightB w = false := fun h => by
    cases e : rightB w with
    | false => rfl
    | true => exact absurd (right_item ((rightB_iff hs).1 e) hli hx) h
  have hkl : ((k : Int) < (l.length : Int)) := by omega
  have hwk : IntKind.i64.wrap ((k : Int) + 1) = ((k + 1 : Nat) : Int) := by rw [wrap_in (by omega)]; omega
  have c1 := c_r03_Who x.1
  have c2 := c_r04_Right x.2
  simp (maxSteps := 2000000) -implicitDefEqProofs only [zz, zE, evop, ev, ofVal, tget, tput, ok, V.isUndef, intBin, guardOf, initT, Ch.on, calleeOf, withArgs, told, xport, xports, tids, tidss, hget, hput, Blk.ice, freeze, V.cells, D.cells, V.isAgg, V.one, V.clo, clos, V.toD, loadD, structAt, eqCells, D.scalarEq, sliceOf, partsD, partsV, bound, isPtr, Blk.width, elems, lenOf, splice, D.over, resOf, resV, resVs, ↓reduceIte, reduceCtorEq, ↓reduceDIte, Nat.reduceLT, Nat.reduceEqDiff, Nat.reduceAdd, Nat.reduceSub, Nat.reduceMul, Nat.reduceLeDiff, Nat.reduceBEq, Nat.reduceBNe, Int.reduceNeg, Int.reduceAdd, Int.reduceSub, Int.reduceToNat, nilTest, shiftH, Blk.ren, V.ren, renL, initV, frameH, putL, frρ, dI, dW, bWh, hgi, Int.toNat_natCast, Nat.mul_one, hkl, List.getElem?_map, hx, Option.map_some, Int.natCast_nonneg]
  refine ⟨by omega, by omega, ?_⟩
  refine wdraw_plan [⟨[], false, [33, 34], [], false⟩, ⟨[0], false, [33, 34], [], false⟩, ⟨[0, 1], false, [33, 34], [], false⟩, ⟨[], false, [30, 31, 32], [0, 1, 2], false⟩, ⟨[3], false, [30, 31, 32], [0, 1, 2], false⟩, ⟨[0, 1, 2, 3, 4], true, [], [], false⟩, ⟨[0, 1, 2, 3, 4, 5], true, [], [], false⟩, ⟨[0, 1, 2, 3, 4, 5, 6], true, [], [], false⟩] (by decide) ?_
  simp (maxSteps := 2000000) -implicitDefEqProofs only [zz, zE, evop, ev, ofVal, tget, tput, ok, V.isUndef, intBin, guardOf, initT, Ch.on, calleeOf, withArgs, told, xport, xports, tids, tidss, hget, hput, Blk.ice, freeze, V.cells, D.cells, V.isAgg, V.one, V.clo, clos, V.toD, loadD, structAt, eqCells, D.scalarEq, sliceOf, partsD, partsV, bound, isPtr, Blk.width, elems, lenOf, splice, D.over, resOf, resV, resVs, ↓reduceIte, reduceCtorEq, ↓reduceDIte, Nat.reduceLT, Nat.reduceEqDiff, Nat.reduceAdd, Nat.reduceSub, Nat.reduceMul, Nat.reduceLeDiff, Nat.reduceBEq, Nat.reduceBNe, Int.reduceNeg, Int.reduceAdd, Int.reduceSub, Int.reduceToNat, nilTest, shiftH, Blk.ren, V.ren, renL, initV, frameH, putL, frρ, dI, dW]
  first | refine acall_flat' (c1) rfl ?_ | refine dcall_flat' (c1) rfl ?_ | refine acall_ice' (c1) ?_ | refine dcall_still' (c1) rfl ?_
  try simp (maxSteps := 2000000) -implicitDefEqProofs only [zz, zE, evop, ev, ofVal, tget, tput, ok, V.isUndef, intBin, guardOf, initT, Ch.on, calleeOf, withArgs, told, xport, xports, tids, tidss, hget, hput, Blk.ice, freeze, V.cells, D.cells, V.isAgg, V.one, V.clo, clos, V.toD, loadD, structAt, eqCells, D.scalarEq, sliceOf, partsD, partsV, bound, isPtr, Blk.width, elems, lenOf, splice, D.over, resOf, resV, resVs, ↓reduceIte, reduceCtorEq, ↓reduceDIte, Nat.reduceLT, Nat.reduceEqDiff, Nat.reduceAdd, Nat.reduceSub, Nat.reduceMul, Nat.reduceLeDiff, Nat.reduceBEq, Nat.reduceBNe, Int.reduceNeg, Int.reduceAdd, Int.reduceSub, Int.reduceToNat, nilTest, shiftH, Blk.ren, V.ren, renL, initV, frameH, putL, frρ, dI, dW]
  first | refine acall_flat' (c2) rfl ?_ | refine dcall_flat' (c2) rfl ?_ | refine acall_ice' (c2) ?_ | refine dcall_still' (c2) rfl ?_
  try simp (maxSteps := 2000000) -implicitDefEqProofs only [zz, zE, evop, ev, ofVal, tget, tput, ok, V.isUndef, intBin, guardOf, initT, Ch.on, calleeOf, withArgs, told, xport, xports, tids, tidss, hget, hput, Blk.ice, freeze, V.cells, D.cells, V.isAgg, V.one, V.clo, clos, V.toD, loadD, structAt, eqCells, D.scalarEq, sliceOf, partsD, partsV, bound, isPtr, Blk.width, elems, lenOf, splice, D.over, resOf, resV, resVs, ↓reduceIte, reduceCtorEq, ↓reduceDIte, Nat.reduceLT, Nat.reduceEqDiff, Nat.reduceAdd, Nat.reduceSub, Nat.reduceMul, Nat.reduceLeDiff, Nat.reduceBEq, Nat.reduceBNe, Int.reduceNeg, Int.reduceAdd, Int.reduceSub, Int.reduceToNat, nilTest, shiftH, Blk.ren, V.ren, renL, initV, frameH, putL, frρ, dI, dW]
  cases e1 : whB x.1 with
  | false =>
    simp (maxSteps := 2000000) -implicitDefEqProofs only [zz, zE, evop, ev, ofVal, tget, tput, ok, V.isUndef, intBin, guardOf, initT, Ch.on, calleeOf, withArgs, told, xport, xports, tids, tidss, hget, hput, Blk.ice, freeze, V.cells, D.cells, V.isAgg, V.one, V.clo, clos, V.toD, loadD, structAt, eqCells, D.scalarEq, sliceOf, partsD, partsV, bound, isPtr, Blk.width, elems, lenOf, splice, D.over, resOf, resV, resVs, ↓reduceIte, reduceCtorEq, ↓reduceDIte, Nat.reduceLT, Nat.reduceEqDiff, Nat.reduceAdd, Nat.reduceSub, Nat.reduceMul, Nat.reduceLeDiff, Nat.reduceBEq, Nat.reduceBNe, Int.reduceNeg, Int.reduceAdd, Int.reduceSub, Int.reduceToNat, nilTest, shiftH, Blk.ren, V.ren, renL, initV, frameH, putL, frρ, dI, dW]
    rw [bad (fun h => by have := h.1; simp [itemOk, e1] at this)]
  | true =>
  have hx8 : 1 ≤ x.1 ∧ x.1 ≤ 8 := by simpa [whB] using e1
  cases e3 : tickR x.2 with
  | false =>
    simp (maxSteps := 2000000) -implicitDefEqProofs only [zz, zE, evop, ev, ofVal, tget, tput, ok, V.isUndef, intBin, guardOf, initT, Ch.on, calleeOf, withArgs, told, xport, xports, tids, tidss, hget, hput, Blk.ice, freeze, V.cells, D.cells, V.isAgg, V.one, V.clo, clos, V.toD, loadD, structAt, eqCells, D.scalarEq, sliceOf, partsD, partsV, bound, isPtr, Blk.width, elems, lenOf, splice, D.over, resOf, resV, resVs, ↓reduceIte, reduceCtorEq, ↓reduceDIte, Nat.reduceLT, Nat.reduceEqDiff, Nat.reduceAdd, Nat.reduceSub, Nat.reduceMul, Nat.reduceLeDiff, Nat.reduceBEq, Nat.reduceBNe, Int.reduceNeg, Int.reduceAdd, Int.reduceSub, Int.reduceToNat, nilTest, shiftH, Blk.ren, V.ren, renL, initV, frameH, putL, frρ, dI, dW]
    rw [bad (fun h => by have := h.1; simp [itemOk, e3] at this)]
  | true =>
  by_cases e4 : x.2 ≤ w.now
  · simp (maxSteps := 2000000) -implicitDefEqProofs only [zz, zE, evop, ev, ofVal, tget, tput, ok, V.isUndef, intBin, guardOf, initT, Ch.on, calleeOf, withArgs, told, xport, xports, tids, tidss, hget, hput, Blk.ice, freeze, V.cells, D.cells, V.isAgg, V.one, V.clo, clos, V.toD, loadD, structAt, eqCells, D.scalarEq, sliceOf, partsD, partsV, bound, isPtr, Blk.width, elems, lenOf, splice, D.over, resOf, resV, resVs, ↓reduceIte, reduceCtorEq, ↓reduceDIte, Nat.reduceLT, Nat.reduceEqDiff, Nat.reduceAdd, Nat.reduceSub, Nat.reduceMul, Nat.reduceLeDiff, Nat.reduceBEq, Nat.reduceBNe, Int.reduceNeg, Int.reduceAdd, Int.reduceSub, Int.reduceToNat, nilTest, shiftH, Blk.ren, V.ren, renL, initV, frameH, putL, frρ, dI, dW, bWh, e4]
    rw [bad (fun h => by have := h.1; simp [itemOk] at this; omega)]
  by_cases e5 : x.2.tmod 8 = (i : Int)
  case neg =>
    have e5' : (x.2.tmod 8 != (i : Int)) = true := by simpa using e5
    simp (maxSteps := 2000000) -implicitDefEqProofs only [zz, zE, evop, ev, ofVal, tget, tput, ok, V.isUndef, intBin, guardOf, initT, Ch.on, calleeOf, withArgs, told, xport, xports, tids, tidss, hget, hput, Blk.ice, freeze, V.cells, D.cells, V.isAgg, V.one, V.clo, clos, V.toD, loadD, structAt, eqCells, D.scalarEq, sliceOf, partsD, partsV, bound, isPtr, Blk.width, elems, lenOf, splice, D.over, resOf, resV, resVs, ↓reduceIte, reduceCtorEq, ↓reduceDIte, Nat.reduceLT, Nat.reduceEqDiff, Nat.reduceAdd, Nat.reduceSub, Nat.reduceMul, Nat.reduceLeDiff, Nat.reduceBEq, Nat.reduceBNe, Int.reduceNeg, Int.reduceAdd, Int.reduceSub, Int.reduceToNat, nilTest, shiftH, Blk.ren, V.ren, renL, initV, frameH, putL, frρ, dI, dW, bWh, e4, e5']
    refine ⟨by decide, ?_⟩
    rw [bad (fun h => e5 (itemOk_mod h.1))]
  have e5' : (x.2.tmod 8 != (i : Int)) = false := by simpa using e5
  have hio : itemOk w.now i x = true := by
    have : w.now < x.2 := by omega
    simp [itemOk, e1, e3, e5, this]
  have hsg := cntB_get (ws := whosU w i k) (n := x.1) (by omega) (by omega)
  have hst := cntB_set (ws := whosU w i k) (n := x.1) (by omega) (by omega)
  have hlen9 : (cntB (whosU w i k)).length = 9 := by simp [cntB]
  have hj9 : x.1.toNat + 1 ≤ 9 := by omega
  have hus := whosU_succ hli hx
  simp (maxSteps := 2000000) -implicitDefEqProofs only [zz, zE, evop, ev, ofVal, tget, tput, ok, V.isUndef, intBin, guardOf, initT, Ch.on, calleeOf, withArgs, told, xport, xports, tids, tidss, hget, hput, Blk.ice, freeze, V.cells, D.cells, V.isAgg, V.one, V.clo, clos, V.toD, loadD, structAt, eqCells, D.scalarEq, sliceOf, partsD, partsV, bound, isPtr, Blk.width, elems, lenOf, splice, D.over, resOf, resV, resVs, ↓reduceIte, reduceCtorEq, ↓reduceDIte, Nat.reduceLT, Nat.reduceEqDiff, Nat.reduceAdd, Nat.reduceSub, Nat.reduceMul, Nat.reduceLeDiff, Nat.reduceBEq, Nat.reduceBNe, Int.reduceNeg, Int.reduceAdd, Int.reduceSub, Int.reduceToNat, nilTest, shiftH, Blk.ren, V.ren, renL, initV, frameH, putL, frρ, dI, dW, bWh, e4, e5']
  refine ⟨by decide, ?_⟩
  refine wdraw_plan [⟨[], true, [], [], false⟩, ⟨[0], true, [], [], false⟩, ⟨[0, 1], true, [], [], false⟩, ⟨[0, 1, 2], false, [60, 63, 64, 67], [], false⟩, ⟨[0, 1, 2], false, [59, 63, 64, 67], [3], false⟩, ⟨[0, 1, 2, 3, 4], false, [63, 64, 67], [], false⟩, ⟨[0, 1, 2, 3, 4, 5], false, [63, 64, 67], [], false⟩, ⟨[0, 1, 2], false, [59, 60, 61, 62, 67], [3, 4, 5, 6], false⟩, ⟨[0, 1, 2, 7], false, [59, 60, 61, 62, 67], [3, 4, 5, 6], false⟩, ⟨[0, 1, 2, 3, 4, 5, 6, 7, 8], false, [67], [], false⟩, ⟨[0, 1, 2, 3, 4, 5, 6, 7, 8, 9], false, [67], [], false⟩, ⟨[0, 1, 2], false, [59, 60, 61, 62, 63, 64, 65, 66], [3, 4, 5, 6, 7, 8, 9, 10], false⟩, ⟨[0, 1, 2, 3, 4, 5, 6, 7, 8, 9, 10, 11], false, [], [], false⟩, ⟨[0, 1, 2, 3, 4, 5, 6, 7, 8, 9, 10, 11, 12], false, [], [], false⟩, ⟨[0, 1, 2, 3, 4, 5, 6, 7, 8, 9, 10, 11, 12, 13], true, [], [], false⟩] (by decide) ?_
  have hsl9 : x.1.toNat < ((cntB (whosU w i k)).map fun n => V.d (.int .i64 n)).length := by simp [cntB]; omega
  have hre := fun v => spl_get (v := v) hsl9
  have hspl : List.take x.1.toNat (List.map (fun n => V.d (.int .i64 n)) (cntB (whosU w i k))) ++ [V.d (.int .i64 1)] ++ List.drop (x.1.toNat + 1) (List.map (fun n => V.d (.int .i64 n)) (cntB (whosU w i k))) = (cntB (whosU w i (k + 1))).map fun n => V.d (.int .i64 n) := by
    rw [hus, ← hst, List.map_set, List.set_eq_take_append_cons_drop, if_pos hsl9]
    simp
  have hsg2 := cntB_get (ws := whosU w i (k + 1)) (n := x.1) (by omega) (by omega)
  have hin : x.1 ∈ whosU w i (k + 1) := by rw [hus]; simp
  rw [if_pos hin] at hsg2
  have hwz : IntKind.i64.wrap 1 = 1 := by rw [wrap_in (by omega)]
  have hwo : IntKind.i64.wrap 2 = 2 := by rw [wrap_in (by omega)]
  rcases Nat.eq_zero_or_pos k with h0 | h0
  · have hk0 : ¬ ((0 : Int) < (k : Int)) := by omega
    by_cases e2 : x.1 ∈ whosU w i k
    · rw [if_pos e2] at hsg
      simp (maxSteps := 2000000) -implicitDefEqProofs only [zz, zE, evop, ev, ofVal, tget, tput, ok, V.isUndef, intBin, guardOf, initT, Ch.on, calleeOf, withArgs, told, xport, xports, tids, tidss, hget, hput, Blk.ice, freeze, V.cells, D.cells, V.isAgg, V.one, V.clo, clos, V.toD, loadD, structAt, eqCells, D.scalarEq, sliceOf, partsD, partsV, bound, isPtr, Blk.width, elems, lenOf, splice, D.over, resOf, resV, resVs, ↓reduceIte, reduceCtorEq, ↓reduceDIte, Nat.reduceLT, Nat.reduceEqDiff, Nat.reduceAdd, Nat.reduceSub, Nat.reduceMul, Nat.reduceLeDiff, Nat.reduceBEq, Nat.reduceBNe, Int.reduceNeg, Int.reduceAdd, Int.reduceSub, Int.reduceToNat, nilTest, shiftH, Blk.ren, V.ren, renL, initV, frameH, putL, frρ, dI, dW, hk0, bCnt, Nat.mul_one, List.getElem?_map, hsg, Option.map_some, hwo, List.length_map, hlen9, hj9, hre]
      refine ⟨⟨by omega, by omega⟩, ⟨by omega, by omega⟩, ⟨by omega, by omega⟩, ?_⟩
      rw [bad (fun h => h.2.1 e2), if_pos (by decide)]
    · rw [if_neg e2] at hsg
      have hgood := hG.next hli hx hio e2 (fun y hy => by omega)
      simp (maxSteps := 2000000) -implicitDefEqProofs only [zz, zE, evop, ev, ofVal, tget, tput, ok, V.isUndef, intBin, guardOf, initT, Ch.on, calleeOf, withArgs, told, xport, xports, tids, tidss, hget, hput, Blk.ice, freeze, V.cells, D.cells, V.isAgg, V.one, V.clo, clos, V.toD, loadD, structAt, eqCells, D.scalarEq, sliceOf, partsD, partsV, bound, isPtr, Blk.width, elems, lenOf, splice, D.over, resOf, resV, resVs, ↓reduceIte, reduceCtorEq, ↓reduceDIte, Nat.reduceLT, Nat.reduceEqDiff, Nat.reduceAdd, Nat.reduceSub, Nat.reduceMul, Nat.reduceLeDiff, Nat.reduceBEq, Nat.reduceBNe, Int.reduceNeg, Int.reduceAdd, Int.reduceSub, Int.reduceToNat, nilTest, shiftH, Blk.ren, V.ren, renL, initV, frameH, putL, frρ, dI, dW, hk0, bCnt, Nat.mul_one, List.getElem?_map, hsg, Option.map_some, hwz, List.length_map, hlen9, hj9, hspl, hsg2, hwk]
      exact ⟨⟨by omega, by omega⟩, ⟨by omega, by omega⟩, ⟨by omega, by omega⟩, hgood, Weak.trims 2 rfl (by simp [tget, V.lower, lower_slots, hwk]) (by simp [Blk.lower, lowerL, V.lower, lower_slots, lowerL_i])⟩
  · have hk0 : ((0 : Int) < (k : Int)) := by omega
    have hw1 : IntKind.i64.wrap ((k : Int) - 1) = ((k - 1 : Nat) : Int) := by rw [wrap_in (by omega)]; omega
    obtain ⟨y, hy⟩ : ∃ y, l[k - 1]? = some y := ⟨_, List.getElem?_eq_getElem (by omega)⟩
    have c3 := c_r17_ahead y x
    unfold dW at c3
    simp (maxSteps := 2000000) -implicitDefEqProofs only [zz, zE, evop, ev, ofVal, tget, tput, ok, V.isUndef, intBin, guardOf, initT, Ch.on, calleeOf, withArgs, told, xport, xports, tids, tidss, hget, hput, Blk.ice, freeze, V.cells, D.cells, V.isAgg, V.one, V.clo, clos, V.toD, loadD, structAt, eqCells, D.scalarEq, sliceOf, partsD, partsV, bound, isPtr, Blk.width, elems, lenOf, splice, D.over, resOf, resV, resVs, ↓reduceIte, reduceCtorEq, ↓reduceDIte, Nat.reduceLT, Nat.reduceEqDiff, Nat.reduceAdd, Nat.reduceSub, Nat.reduceMul, Nat.reduceLeDiff, Nat.reduceBEq, Nat.reduceBNe, Int.reduceNeg, Int.reduceAdd, Int.reduceSub, Int.reduceToNat, nilTest, shiftH, Blk.ren, V.ren, renL, initV, frameH, putL, frρ, dI, dW, bWh, hk0, hw1, hgi, Int.toNat_natCast, Nat.mul_one, List.getElem?_map, hy, Option.map_some, Int.natCast_nonneg]
    refine ⟨by omega, ?_⟩
    first | refine acall_flat' (c3) rfl ?_ | refine dcall_flat' (c3) rfl ?_ | refine acall_ice' (c3) ?_ | refine dcall_still' (c3) rfl ?_
    try simp (maxSteps := 2000000) -implicitDefEqProofs only [zz, zE, evop, ev, ofVal, tget, tput, ok, V.isUndef, intBin, guardOf, initT, Ch.on, calleeOf, withArgs, told, xport, xports, tids, tidss, hget, hput, Blk.ice, freeze, V.cells, D.cells, V.isAgg, V.one, V.clo, clos, V.toD, loadD, structAt, eqCells, D.scalarEq, sliceOf, partsD, partsV, bound, isPtr, Blk.width, elems, lenOf, splice, D.over, resOf, resV, resVs, ↓reduceIte, reduceCtorEq, ↓reduceDIte, Nat.reduceLT, Nat.reduceEqDiff, Nat.reduceAdd, Nat.reduceSub, Nat.reduceMul, Nat.reduceLeDiff, Nat.reduceBEq, Nat.reduceBNe, Int.reduceNeg, Int.reduceAdd, Int.reduceSub, Int.reduceToNat, nilTest, shiftH, Blk.ren, V.ren, renL, initV, frameH, putL, frρ, dI, dW]
    cases e6 : ltI y x with
    | false =>
      simp (maxSteps := 2000000) -implicitDefEqProofs only [zz, zE, evop, ev, ofVal, tget, tput, ok, V.isUndef, intBin, guardOf, initT, Ch.on, calleeOf, withArgs, told, xport, xports, tids, tidss, hget, hput, Blk.ice, freeze, V.cells, D.cells, V.isAgg, V.one, V.clo, clos, V.toD, loadD, structAt, eqCells, D.scalarEq, sliceOf, partsD, partsV, bound, isPtr, Blk.width, elems, lenOf, splice, D.over, resOf, resV, resVs, ↓reduceIte, reduceCtorEq, ↓reduceDIte, Nat.reduceLT, Nat.reduceEqDiff, Nat.reduceAdd, Nat.reduceSub, Nat.reduceMul, Nat.reduceLeDiff, Nat.reduceBEq, Nat.reduceBNe, Int.reduceNeg, Int.reduceAdd, Int.reduceSub, Int.reduceToNat, nilTest, shiftH, Blk.ren, V.ren, renL, initV, frameH, putL, frρ, dI, dW]
      rw [bad (fun h => by have := h.2.2 y h0 hy; rw [e6] at this; cases this)]
    | true =>
    by_cases e2 : x.1 ∈ whosU w i k
    · rw [if_pos e2] at hsg
      simp (maxSteps := 2000000) -implicitDefEqProofs only [zz, zE, evop, ev, ofVal, tget, tput, ok, V.isUndef, intBin, guardOf, initT, Ch.on, calleeOf, withArgs, told, xport, xports, tids, tidss, hget, hput, Blk.ice, freeze, V.cells, D.cells, V.isAgg, V.one, V.clo, clos, V.toD, loadD, structAt, eqCells, D.scalarEq, sliceOf, partsD, partsV, bound, isPtr, Blk.width, elems, lenOf, splice, D.over, resOf, resV, resVs, ↓reduceIte, reduceCtorEq, ↓reduceDIte, Nat.reduceLT, Nat.reduceEqDiff, Nat.reduceAdd, Nat.reduceSub, Nat.reduceMul, Nat.reduceLeDiff, Nat.reduceBEq, Nat.reduceBNe, Int.reduceNeg, Int.reduceAdd, Int.reduceSub, Int.reduceToNat, nilTest, shiftH, Blk.ren, V.ren, renL, initV, frameH, putL, frρ, dI, dW, bCnt, Nat.mul_one, List.getElem?_map, hsg, Option.map_some, hwo, List.length_map, hlen9, hj9, hre]
      refine ⟨⟨by omega, by omega⟩, ⟨by omega, by omega⟩, ⟨by omega, by omega⟩, ?_⟩
      rw [bad (fun h => h.2.1 e2), if_pos (by decide)]
    · rw [if_neg e2] at hsg
      have hgood := hG.next hli hx hio e2 (fun z _ hz => by rw [hy] at hz; cases hz; exact e6)
      simp (maxSteps := 2000000) -implicitDefEqProofs only [zz, zE, evop, ev, ofVal, tget, tput, ok, V.isUndef, intBin, guardOf, initT, Ch.on, calleeOf, withArgs, told, xport, xports, tids, tidss, hget, hput, Blk.ice, freeze, V.cells, D.cells, V.isAgg, V.one, V.clo, clos, V.toD, loadD, structAt, eqCells, D.scalarEq, sliceOf, partsD, partsV, bound, isPtr, Blk.width, elems, lenOf, splice, D.over, resOf, resV, resVs, ↓reduceIte, reduceCtorEq, ↓reduceDIte, Nat.reduceLT, Nat.reduceEqDiff, Nat.reduceAdd, Nat.reduceSub, Nat.reduceMul, Nat.reduceLeDiff, Nat.reduceBEq, Nat.reduceBNe, Int.reduceNeg, Int.reduceAdd, Int.reduceSub, Int.reduceToNat, nilTest, shiftH, Blk.ren, V.ren, renL, initV, frameH, putL, frρ, dI, dW, bCnt, Nat.mul_one, List.getElem?_map, hsg, Option.map_some, hwz, List.length_map, hlen9, hj9, hspl, hsg2, hwk]
      exact ⟨⟨by omega, by omega⟩, ⟨by omega, by omega⟩, ⟨by omega, by omega⟩, hgood, Weak.trims 2 rfl (by simp [tget, V.lower, lower_slots, hwk]) (by simp [Blk.lower, lowerL, V.lower, lower_slots, lowerL_i])⟩
end Go.Proofs.Ytaejlmengfahnaa.AM

set_option linter.all false
set_option maxRecDepth 100000
set_option maxHeartbeats 8000000
namespace Go.Proofs.Ytaejlmengfahnaa.AM
open Go Go.RowKit

def stepB (last : Int × Int) (o : Option (Int × Int)) (x : Int × Int) : Option (Int × Int) :=
  if ltI last x = true ∧ (match o with | none => true | some b => ltI x b) = true then some x else o
def bestB (last : Int × Int) (P : List (Int × Int)) : Option (Int × Int) := P.foldl (stepB last) none
theorem bestB_snoc (last : Int × Int) (P : List (Int × Int)) (x : Int × Int) : bestB last (P ++ [x]) = stepB last (bestB last P) x := by
  unfold bestB; rw [List.foldl_append]; rfl
def InvB (last : Int × Int) (P : List (Int × Int)) : Option (Int × Int) → Prop
  | none => ∀ x ∈ P, ltI last x = false
  | some m => m ∈ P ∧ ltI last m = true ∧ ∀ x ∈ P, ltI last x = true → x = m ∨ ltI m x = true
theorem InvB.step {last : Int × Int} {P : List (Int × Int)} {o : Option (Int × Int)} (h : InvB last P o) (x : Int × Int) : InvB last (P ++ [x]) (stepB last o x) := by
  unfold stepB
  by_cases h1 : ltI last x = true
  · cases o with
    | none =>
      rw [if_pos ⟨h1, rfl⟩]
      refine ⟨by simp, h1, fun y hy hl => ?_⟩
      rcases List.mem_append.1 hy with g | g
      · rw [h y g] at hl; cases hl
      · left; simpa using g
    | some b =>
      obtain ⟨p1, p2, p3⟩ := h
      by_cases h2 : ltI x b = true
      · rw [if_pos ⟨h1, h2⟩]
        refine ⟨by simp, h1, fun y hy hl => ?_⟩
        rcases List.mem_append.1 hy with g | g
        · rcases p3 y g hl with rfl | g2
          · exact Or.inr h2
          · exact Or.inr (ltI_trans h2 g2)
        · left; simpa using g
      · rw [if_neg (fun e => h2 e.2)]
        refine ⟨by simp [p1], p2, fun y hy hl => ?_⟩
        rcases List.mem_append.1 hy with g | g
        · exact p3 y g hl
        · have : y = x := by simpa using g
          subst this
          by_cases e : y = b
          · exact Or.inl e
          · rcases ltI_tot e with g2 | g2
            · exact absurd g2 h2
            · exact Or.inr g2
  · rw [if_neg (fun e => h1 e.1)]
    have h1' : ltI last x = false := by simpa using h1
    cases o with
    | none =>
      intro y hy
      rcases List.mem_append.1 hy with g | g
      · exact h y g
      · have : y = x := by simpa using g
        subst this; exact h1'
    | some b =>
      obtain ⟨p1, p2, p3⟩ := h
      refine ⟨by simp [p1], p2, fun y hy hl => ?_⟩
      rcases List.mem_append.1 hy with g | g
      · exact p3 y g hl
      · have : y = x := by simpa using g
        subst this; exact absurd hl h1
theorem InvB.fold {last : Int × Int} : ∀ (P Q : List (Int × Int)) (o : Option (Int × Int)), InvB last Q o → InvB last (Q ++ P) (P.foldl (stepB last) o)
  | [], Q, o, h => by simpa using h
  | x :: P, Q, o, h => by
    have := InvB.fold P (Q ++ [x]) (stepB last o x) (h.step x)
    rw [List.append_assoc] at this
    exact this
theorem bestB_ok (last : Int × Int) (P : List (Int × Int)) : InvB last P (bestB last P) := by
  have := InvB.fold (last := last) P [] none (by intro x hx; cases hx)
  simpa [bestB] using this
def lastS (S : List (Int × Int)) (j : Nat) : Int × Int := if j = 0 then (-1, -1) else (S[j - 1]?).getD (0, 0)
theorem srt_at {S : List (Int × Int)} (h : Srt S) {i j : Nat} {x y : Int × Int} (hx : S[i]? = some x) (hy : S[j]? = some y) : ltI x y = true ↔ i < j := by
  obtain ⟨hi, rfl⟩ := List.getElem?_eq_some_iff.1 hx
  obtain ⟨hj, rfl⟩ := List.getElem?_eq_some_iff.1 hy
  constructor
  · intro hlt
    rcases Nat.lt_trichotomy i j with g | g | g
    · exact g
    · subst g; rw [ltI_irr] at hlt; cases hlt
    · have := List.pairwise_iff_getElem.1 h j i hj hi g
      rw [ltI_asy this] at hlt; cases hlt
  · intro g; exact List.pairwise_iff_getElem.1 h i j hi hj g
theorem lastS_lt {S : List (Int × Int)} (h : Srt S) (hp : ∀ x ∈ S, 0 ≤ x.2) {i j : Nat} (hj : j ≤ S.length) {x : Int × Int} (hx : S[i]? = some x) : ltI (lastS S j) x = true ↔ j ≤ i := by
  unfold lastS
  by_cases h0 : j = 0
  · subst h0
    rw [if_pos rfl, ltI_iff]
    have := hp x (List.mem_of_getElem? hx)
    exact ⟨fun _ => by omega, fun _ => Or.inl (by simp only; omega)⟩
  · rw [if_neg h0]
    obtain ⟨y, hy⟩ : ∃ y, S[j - 1]? = some y := ⟨_, List.getElem?_eq_getElem (by omega)⟩
    rw [hy, Option.getD_some, srt_at h hy hx]
    omega
theorem bestB_at {S F : List (Int × Int)} (h : Srt S) (hp : ∀ x ∈ S, 0 ≤ x.2) (hm : ∀ x, x ∈ S ↔ x ∈ F) {j : Nat} (hj : j ≤ S.length) : bestB (lastS S j) F = S[j]? := by
  have hk := bestB_ok (lastS S j) F
  cases e : bestB (lastS S j) F with
  | none =>
    rw [e] at hk
    cases e2 : S[j]? with
    | none => rfl
    | some y =>
      have := hk y ((hm y).1 (List.mem_of_getElem? e2))
      rw [(lastS_lt h hp hj e2).2 (Nat.le_refl _)] at this; cases this
  | some m =>
    rw [e] at hk
    obtain ⟨p1, p2, p3⟩ := hk
    obtain ⟨i, hi, hiS⟩ := List.getElem_of_mem ((hm m).2 p1)
    have hmi : S[i]? = some m := by rw [List.getElem?_eq_getElem hi, hiS]
    have hji := (lastS_lt h hp hj hmi).1 p2
    obtain ⟨y, hy⟩ : ∃ y, S[j]? = some y := ⟨_, List.getElem?_eq_getElem (by omega)⟩
    rcases p3 y ((hm y).1 (List.mem_of_getElem? hy)) ((lastS_lt h hp hj hy).2 (Nat.le_refl _)) with rfl | g
    · exact hy.symm
    · have := (srt_at h hmi hy).1 g; omega

def bIt (x : Int × Int) : Blk := .box false [V.d (.int .i64 x.1), V.d (.int .i64 x.2)]
theorem RenL.ds {ρ : Nat → Nat} {H' : Heap} : ∀ l : List D, RenL ρ H' (l.map V.d) (l.map V.d)
  | [] => .nil
  | x :: l => .cons (.same (V.d x)) (RenL.ds l)
theorem renB_wh {ρ : Nat → Nat} {H H' : Heap} {i : Nat} (w : Wh) (h1 : hget H' i = bWh w) (h2 : hget H (ρ i) = bWh w) : RenB ρ H H' i :=
  .box false _ _ h1 h2 (RenL.ds (D.int .i64 w.now :: w.slots.map fun l => D.vec (l.map dW)))
theorem renB_it {ρ : Nat → Nat} {H H' : Heap} {i : Nat} (x : Int × Int) (h1 : hget H' i = bIt x) (h2 : hget H (ρ i) = bIt x) : RenB ρ H H' i :=
  .box false _ _ h1 h2 (RenL.ds [D.int .i64 x.1, D.int .i64 x.2])
def seenI (w : Wh) (i k : Nat) : List (Int × Int) := (w.slots.take i).flatten ++ (slotW w i).take k
theorem seenI_up {w : Wh} {i : Nat} {l : List (Int × Int)} (h : w.slots[i]? = some l) : seenI w i l.length = seenI w (i + 1) 0 := by
  unfold seenI
  rw [slotW_get h, List.take_length, List.take_zero, List.append_nil, flatten_snoc h]
theorem seenI_snoc {w : Wh} {i k : Nat} {l : List (Int × Int)} {x : Int × Int} (h : w.slots[i]? = some l) (hx : l[k]? = some x) : seenI w i (k + 1) = seenI w i k ++ [x] := by
  unfold seenI
  rw [slotW_get h, List.take_succ, hx]; simp
theorem seenI_all {w : Wh} (hs : w.slots.length = 8) : seenI w 8 0 = w.slots.flatten := by
  unfold seenI
  rw [List.take_zero, List.append_nil, List.take_of_length_le (by omega)]

theorem c_r17_Items (w : Wh) (h : RightW w) : CSpec Try.prog 18 [dWh w] (.vec ((itemsW w).map dW)) := by
  have hs := h.len
  have hS := h.sorted
  have hf := h.few
  have hil := itemsW_len w
  have hmem : ∀ x, x ∈ itemsW w ↔ x ∈ w.slots.flatten := (sortT_ok _ (nodup_who h.who)).2
  have hp : ∀ x ∈ itemsW w, 0 ≤ x.2 := fun x hx => by
    obtain ⟨i, l, hl, hm⟩ := h.mem.1 hx
    have := h.items i l hl x hm
    simp only [itemOk, tickR, Bool.and_eq_true, decide_eq_true_eq] at this
    omega
  have hS' : ∀ j, j ≤ (itemsW w).length → bestB (lastS (itemsW w) j) w.slots.flatten = (itemsW w)[j]? := fun j hj => bestB_at hS hp hmem hj
  generalize itemsW w = S at hil hS'
  have hsl : (slotsV w).length = 8 := by simp [slotsV, hs]
  have hbw : Blk.box false (V.d (D.int IntKind.i64 w.now) :: List.map V.d (List.map (fun l => D.vec (List.map dW l)) w.slots)) = bWh w := rfl
  refine CSpec.of_awp envOf_ok hmix Try.func18 rfl (fun args w => Try.call18 args w) (by simp [Try.f18]) ?_
  simp only [Try.f18]
  simp (maxSteps := 2000000) -implicitDefEqProofs only [zz, zE, evop, ev, ofVal, tget, tput, ok, V.isUndef, intBin, guardOf, initT, Ch.on, calleeOf, withArgs, told, xport, xports, tids, tidss, hget, hput, Blk.ice, freeze, V.cells, D.cells, V.isAgg, V.one, V.clo, clos, V.toD, loadD, structAt, eqCells, D.scalarEq, sliceOf, partsD, partsV, bound, isPtr, Blk.width, elems, lenOf, splice, D.over, resOf, resV, resVs, ↓reduceIte, reduceCtorEq, ↓reduceDIte, Nat.reduceLT, Nat.reduceEqDiff, Nat.reduceAdd, Nat.reduceSub, Nat.reduceMul, Nat.reduceLeDiff, Nat.reduceBEq, Nat.reduceBNe, Int.reduceNeg, Int.reduceAdd, Int.reduceSub, Int.reduceToNat, nilTest, shiftH, Blk.ren, V.ren, renL, initV, frameH, putL, frρ, dI, dW]
  unfold dWh
  simp (maxSteps := 2000000) -implicitDefEqProofs only [zz, zE, evop, ev, ofVal, tget, tput, ok, V.isUndef, intBin, guardOf, initT, Ch.on, calleeOf, withArgs, told, xport, xports, tids, tidss, hget, hput, Blk.ice, freeze, V.cells, D.cells, V.isAgg, V.one, V.clo, clos, V.toD, loadD, structAt, eqCells, D.scalarEq, sliceOf, partsD, partsV, bound, isPtr, Blk.width, elems, lenOf, splice, D.over, resOf, resV, resVs, ↓reduceIte, reduceCtorEq, ↓reduceDIte, Nat.reduceLT, Nat.reduceEqDiff, Nat.reduceAdd, Nat.reduceSub, Nat.reduceMul, Nat.reduceLeDiff, Nat.reduceBEq, Nat.reduceBNe, Int.reduceNeg, Int.reduceAdd, Int.reduceSub, Int.reduceToNat, nilTest, shiftH, Blk.ren, V.ren, renL, initV, frameH, putL, frρ, dI, dW]
  rw [hbw]
  refine wloop_count (S.length + 1) (fun j => [(1, .ptr 0 0 0), (3, .own 2 0 j), (4, .ptr 1 0 0)]) (fun j => [bWh w, bIt (lastS S j), .dat false 2 ((S.take j).map dW)]) (fun j => j ≤ S.length) (by omega) ?_ (fun j _ hj => ?_) (fun hj => by omega)
  · refine Weak.pick [0, 1, 20] (by simp) (by simp) rfl (fun q hq => ?_) (fun i hi => ?_)
    · simp only [List.mem_cons, List.not_mem_nil, or_false] at hq
      rcases hq with rfl | rfl | rfl
      · exact .same _
      · exact .nils 2 2 rfl
      · exact .same _
    · match i, hi with
      | 0, _ => exact renB_wh w rfl rfl
      | 1, _ => exact renB_it (-1, -1) rfl rfl
      | 2, _ => exact .virt 2 rfl rfl
      | i + 3, hi => exact absurd hi (by simp)
  · have hb0 : Blk.box false [V.d (.int .i64 0), V.d (.int .i64 0)] = bIt ((bestB (lastS S j) (seenI w 0 0)).getD (0, 0)) := rfl
    simp (maxSteps := 2000000) -implicitDefEqProofs only [zz, zE, evop, ev, ofVal, tget, tput, ok, V.isUndef, intBin, guardOf, initT, Ch.on, calleeOf, withArgs, told, xport, xports, tids, tidss, hget, hput, Blk.ice, freeze, V.cells, D.cells, V.isAgg, V.one, V.clo, clos, V.toD, loadD, structAt, eqCells, D.scalarEq, sliceOf, partsD, partsV, bound, isPtr, Blk.width, elems, lenOf, splice, D.over, resOf, resV, resVs, ↓reduceIte, reduceCtorEq, ↓reduceDIte, Nat.reduceLT, Nat.reduceEqDiff, Nat.reduceAdd, Nat.reduceSub, Nat.reduceMul, Nat.reduceLeDiff, Nat.reduceBEq, Nat.reduceBNe, Int.reduceNeg, Int.reduceAdd, Int.reduceSub, Int.reduceToNat, nilTest, shiftH, Blk.ren, V.ren, renL, initV, frameH, putL, frρ, dI, dW]
    rw [hb0]
    refine wloop_count 8 (fun i => [(7, .d (.int .i64 i)), (6, .d (.bool (bestB (lastS S j) (seenI w i 0)).isSome)), (1, .ptr 0 0 0), (3, .own 2 0 j), (4, .ptr 1 0 0), (5, .ptr 3 0 0)]) (fun i => [bWh w, bIt (lastS S j), .dat false 2 ((S.take j).map dW), bIt ((bestB (lastS S j) (seenI w i 0)).getD (0, 0))]) (fun _ => True) trivial (Weak.sub (by simp [tget]; rfl)) (fun i hi _ => ?_) (fun _ => ?_)
    · obtain ⟨l, hli⟩ : ∃ l, w.slots[i]? = some l := ⟨_, List.getElem?_eq_getElem (by omega)⟩
      have hll := sub_le hli
      have h' : ((i : Int) < 8) := by omega
      have hgi : (V.d (D.int IntKind.i64 w.now) :: slotsV w)[1 + i]? = some (.d (.vec (l.map dW))) := by
        unfold slotsV
        rw [Nat.add_comm, List.getElem?_cons_succ, List.getElem?_map, List.getElem?_map, hli]; rfl
      have hwi : IntKind.i64.wrap ((i : Int) + 1) = ((i + 1 : Nat) : Int) := by rw [wrap_in (by omega)]; omega
      simp (maxSteps := 2000000) -implicitDefEqProofs only [zz, zE, evop, ev, ofVal, tget, tput, ok, V.isUndef, intBin, guardOf, initT, Ch.on, calleeOf, withArgs, told, xport, xports, tids, tidss, hget, hput, Blk.ice, freeze, V.cells, D.cells, V.isAgg, V.one, V.clo, clos, V.toD, loadD, structAt, eqCells, D.scalarEq, sliceOf, partsD, partsV, bound, isPtr, Blk.width, elems, lenOf, splice, D.over, resOf, resV, resVs, ↓reduceIte, reduceCtorEq, ↓reduceDIte, Nat.reduceLT, Nat.reduceEqDiff, Nat.reduceAdd, Nat.reduceSub, Nat.reduceMul, Nat.reduceLeDiff, Nat.reduceBEq, Nat.reduceBNe, Int.reduceNeg, Int.reduceAdd, Int.reduceSub, Int.reduceToNat, nilTest, shiftH, Blk.ren, V.ren, renL, initV, frameH, putL, frρ, dI, dW, h']
      refine wloop_count l.length (fun k => [(8, .d (.int .i64 k)), (7, .d (.int .i64 i)), (6, .d (.bool (bestB (lastS S j) (seenI w i k)).isSome)), (1, .ptr 0 0 0), (3, .own 2 0 j), (4, .ptr 1 0 0), (5, .ptr 3 0 0)]) (fun k => [bWh w, bIt (lastS S j), .dat false 2 ((S.take j).map dW), bIt ((bestB (lastS S j) (seenI w i k)).getD (0, 0))]) (fun _ => True) trivial (Weak.sub (by simp [tget])) (fun k hk _ => ?_) (fun _ => ?_)
      · have hx : l[k]? = some l[k] := List.getElem?_eq_getElem hk
        generalize l[k] = x at hx
        have hkl : ((k : Int) < (l.length : Int)) := by omega
        have hwk : IntKind.i64.wrap ((k : Int) + 1) = ((k + 1 : Nat) : Int) := by rw [wrap_in (by omega)]; omega
        rw [seenI_snoc hli hx, bestB_snoc]
        generalize bestB (lastS S j) (seenI w i k) = o
        generalize lastS S j = last
        have c1 := c_r17_ahead last x
        unfold dW at c1
        simp (maxSteps := 2000000) -implicitDefEqProofs only [zz, zE, evop, ev, ofVal, tget, tput, ok, V.isUndef, intBin, guardOf, initT, Ch.on, calleeOf, withArgs, told, xport, xports, tids, tidss, hget, hput, Blk.ice, freeze, V.cells, D.cells, V.isAgg, V.one, V.clo, clos, V.toD, loadD, structAt, eqCells, D.scalarEq, sliceOf, partsD, partsV, bound, isPtr, Blk.width, elems, lenOf, splice, D.over, resOf, resV, resVs, ↓reduceIte, reduceCtorEq, ↓reduceDIte, Nat.reduceLT, Nat.reduceEqDiff, Nat.reduceAdd, Nat.reduceSub, Nat.reduceMul, Nat.reduceLeDiff, Nat.reduceBEq, Nat.reduceBNe, Int.reduceNeg, Int.reduceAdd, Int.reduceSub, Int.reduceToNat, nilTest, shiftH, Blk.ren, V.ren, renL, initV, frameH, putL, frρ, dI, dW, bWh, bIt, hgi, Int.toNat_natCast, Nat.mul_one, hkl, List.getElem?_map, hx, Option.map_some, Int.natCast_nonneg]
        refine ⟨by omega, by omega, ?_⟩
        first | refine acall_flat' (c1) rfl ?_ | refine dcall_flat' (c1) rfl ?_ | refine acall_ice' (c1) ?_ | refine dcall_still' (c1) rfl ?_
        try simp (maxSteps := 2000000) -implicitDefEqProofs only [zz, zE, evop, ev, ofVal, tget, tput, ok, V.isUndef, intBin, guardOf, initT, Ch.on, calleeOf, withArgs, told, xport, xports, tids, tidss, hget, hput, Blk.ice, freeze, V.cells, D.cells, V.isAgg, V.one, V.clo, clos, V.toD, loadD, structAt, eqCells, D.scalarEq, sliceOf, partsD, partsV, bound, isPtr, Blk.width, elems, lenOf, splice, D.over, resOf, resV, resVs, ↓reduceIte, reduceCtorEq, ↓reduceDIte, Nat.reduceLT, Nat.reduceEqDiff, Nat.reduceAdd, Nat.reduceSub, Nat.reduceMul, Nat.reduceLeDiff, Nat.reduceBEq, Nat.reduceBNe, Int.reduceNeg, Int.reduceAdd, Int.reduceSub, Int.reduceToNat, nilTest, shiftH, Blk.ren, V.ren, renL, initV, frameH, putL, frρ, dI, dW]
        have htr : ∀ (q : Int × Int), Blk.box false [V.d (D.int IntKind.i64 q.1), V.d (D.int IntKind.i64 q.2)] = bIt q := fun _ => rfl
        cases o with
        | none =>
          cases e1 : ltI last x with
          | false =>
            have e : stepB last none x = none := by simp [stepB, e1]
            rw [e]
            simp (maxSteps := 2000000) -implicitDefEqProofs only [zz, zE, evop, ev, ofVal, tget, tput, ok, V.isUndef, intBin, guardOf, initT, Ch.on, calleeOf, withArgs, told, xport, xports, tids, tidss, hget, hput, Blk.ice, freeze, V.cells, D.cells, V.isAgg, V.one, V.clo, clos, V.toD, loadD, structAt, eqCells, D.scalarEq, sliceOf, partsD, partsV, bound, isPtr, Blk.width, elems, lenOf, splice, D.over, resOf, resV, resVs, ↓reduceIte, reduceCtorEq, ↓reduceDIte, Nat.reduceLT, Nat.reduceEqDiff, Nat.reduceAdd, Nat.reduceSub, Nat.reduceMul, Nat.reduceLeDiff, Nat.reduceBEq, Nat.reduceBNe, Int.reduceNeg, Int.reduceAdd, Int.reduceSub, Int.reduceToNat, nilTest, shiftH, Blk.ren, V.ren, renL, initV, frameH, putL, frρ, dI, dW, hwk]
            exact Weak.trims 4 rfl (by simp [tget, V.lower, hwk]) (by simp [Blk.lower, lowerL, V.lower, lower_slots])
          | true =>
            have e : stepB last none x = some x := by simp [stepB, e1]
            rw [e]
            simp (maxSteps := 2000000) -implicitDefEqProofs only [zz, zE, evop, ev, ofVal, tget, tput, ok, V.isUndef, intBin, guardOf, initT, Ch.on, calleeOf, withArgs, told, xport, xports, tids, tidss, hget, hput, Blk.ice, freeze, V.cells, D.cells, V.isAgg, V.one, V.clo, clos, V.toD, loadD, structAt, eqCells, D.scalarEq, sliceOf, partsD, partsV, bound, isPtr, Blk.width, elems, lenOf, splice, D.over, resOf, resV, resVs, ↓reduceIte, reduceCtorEq, ↓reduceDIte, Nat.reduceLT, Nat.reduceEqDiff, Nat.reduceAdd, Nat.reduceSub, Nat.reduceMul, Nat.reduceLeDiff, Nat.reduceBEq, Nat.reduceBNe, Int.reduceNeg, Int.reduceAdd, Int.reduceSub, Int.reduceToNat, nilTest, shiftH, Blk.ren, V.ren, renL, initV, frameH, putL, frρ, dI, dW, hwk]
            exact Weak.trims 4 rfl (by simp [tget, V.lower, hwk]) (by simp [Blk.lower, lowerL, V.lower, lower_slots])
        | some b =>
          have c2 := c_r17_ahead x b
          unfold dW at c2
          simp (maxSteps := 2000000) -implicitDefEqProofs only [zz, zE, evop, ev, ofVal, tget, tput, ok, V.isUndef, intBin, guardOf, initT, Ch.on, calleeOf, withArgs, told, xport, xports, tids, tidss, hget, hput, Blk.ice, freeze, V.cells, D.cells, V.isAgg, V.one, V.clo, clos, V.toD, loadD, structAt, eqCells, D.scalarEq, sliceOf, partsD, partsV, bound, isPtr, Blk.width, elems, lenOf, splice, D.over, resOf, resV, resVs, ↓reduceIte, reduceCtorEq, ↓reduceDIte, Nat.reduceLT, Nat.reduceEqDiff, Nat.reduceAdd, Nat.reduceSub, Nat.reduceMul, Nat.reduceLeDiff, Nat.reduceBEq, Nat.reduceBNe, Int.reduceNeg, Int.reduceAdd, Int.reduceSub, Int.reduceToNat, nilTest, shiftH, Blk.ren, V.ren, renL, initV, frameH, putL, frρ, dI, dW]
          first | refine acall_flat' (c2) rfl ?_ | refine dcall_flat' (c2) rfl ?_ | refine acall_ice' (c2) ?_ | refine dcall_still' (c2) rfl ?_
          try simp (maxSteps := 2000000) -implicitDefEqProofs only [zz, zE, evop, ev, ofVal, tget, tput, ok, V.isUndef, intBin, guardOf, initT, Ch.on, calleeOf, withArgs, told, xport, xports, tids, tidss, hget, hput, Blk.ice, freeze, V.cells, D.cells, V.isAgg, V.one, V.clo, clos, V.toD, loadD, structAt, eqCells, D.scalarEq, sliceOf, partsD, partsV, bound, isPtr, Blk.width, elems, lenOf, splice, D.over, resOf, resV, resVs, ↓reduceIte, reduceCtorEq, ↓reduceDIte, Nat.reduceLT, Nat.reduceEqDiff, Nat.reduceAdd, Nat.reduceSub, Nat.reduceMul, Nat.reduceLeDiff, Nat.reduceBEq, Nat.reduceBNe, Int.reduceNeg, Int.reduceAdd, Int.reduceSub, Int.reduceToNat, nilTest, shiftH, Blk.ren, V.ren, renL, initV, frameH, putL, frρ, dI, dW]
          cases e1 : ltI last x with
          | false =>
            have e : stepB last (some b) x = some b := by simp [stepB, e1]
            rw [e]
            simp (maxSteps := 2000000) -implicitDefEqProofs only [zz, zE, evop, ev, ofVal, tget, tput, ok, V.isUndef, intBin, guardOf, initT, Ch.on, calleeOf, withArgs, told, xport, xports, tids, tidss, hget, hput, Blk.ice, freeze, V.cells, D.cells, V.isAgg, V.one, V.clo, clos, V.toD, loadD, structAt, eqCells, D.scalarEq, sliceOf, partsD, partsV, bound, isPtr, Blk.width, elems, lenOf, splice, D.over, resOf, resV, resVs, ↓reduceIte, reduceCtorEq, ↓reduceDIte, Nat.reduceLT, Nat.reduceEqDiff, Nat.reduceAdd, Nat.reduceSub, Nat.reduceMul, Nat.reduceLeDiff, Nat.reduceBEq, Nat.reduceBNe, Int.reduceNeg, Int.reduceAdd, Int.reduceSub, Int.reduceToNat, nilTest, shiftH, Blk.ren, V.ren, renL, initV, frameH, putL, frρ, dI, dW, hwk]
            exact Weak.trims 4 rfl (by simp [tget, V.lower, hwk]) (by simp [Blk.lower, lowerL, V.lower, lower_slots])
          | true =>
            cases e2 : ltI x b with
            | false =>
              have e : stepB last (some b) x = some b := by simp [stepB, e1, e2]
              rw [e]
              simp (maxSteps := 2000000) -implicitDefEqProofs only [zz, zE, evop, ev, ofVal, tget, tput, ok, V.isUndef, intBin, guardOf, initT, Ch.on, calleeOf, withArgs, told, xport, xports, tids, tidss, hget, hput, Blk.ice, freeze, V.cells, D.cells, V.isAgg, V.one, V.clo, clos, V.toD, loadD, structAt, eqCells, D.scalarEq, sliceOf, partsD, partsV, bound, isPtr, Blk.width, elems, lenOf, splice, D.over, resOf, resV, resVs, ↓reduceIte, reduceCtorEq, ↓reduceDIte, Nat.reduceLT, Nat.reduceEqDiff, Nat.reduceAdd, Nat.reduceSub, Nat.reduceMul, Nat.reduceLeDiff, Nat.reduceBEq, Nat.reduceBNe, Int.reduceNeg, Int.reduceAdd, Int.reduceSub, Int.reduceToNat, nilTest, shiftH, Blk.ren, V.ren, renL, initV, frameH, putL, frρ, dI, dW, hwk]
              exact Weak.trims 4 rfl (by simp [tget, V.lower, hwk]) (by simp [Blk.lower, lowerL, V.lower, lower_slots])
            | true =>
              have e : stepB last (some b) x = some x := by simp [stepB, e1, e2]
              rw [e]
              simp (maxSteps := 2000000) -implicitDefEqProofs only [zz, zE, evop, ev, ofVal, tget, tput, ok, V.isUndef, intBin, guardOf, initT, Ch.on, calleeOf, withArgs, told, xport, xports, tids, tidss, hget, hput, Blk.ice, freeze, V.cells, D.cells, V.isAgg, V.one, V.clo, clos, V.toD, loadD, structAt, eqCells, D.scalarEq, sliceOf, partsD, partsV, bound, isPtr, Blk.width, elems, lenOf, splice, D.over, resOf, resV, resVs, ↓reduceIte, reduceCtorEq, ↓reduceDIte, Nat.reduceLT, Nat.reduceEqDiff, Nat.reduceAdd, Nat.reduceSub, Nat.reduceMul, Nat.reduceLeDiff, Nat.reduceBEq, Nat.reduceBNe, Int.reduceNeg, Int.reduceAdd, Int.reduceSub, Int.reduceToNat, nilTest, shiftH, Blk.ren, V.ren, renL, initV, frameH, putL, frρ, dI, dW, hwk]
              exact Weak.trims 4 rfl (by simp [tget, V.lower, hwk]) (by simp [Blk.lower, lowerL, V.lower, lower_slots])
      · have hnl : ¬ ((l.length : Int) < (l.length : Int)) := by omega
        rw [seenI_up hli]
        simp (maxSteps := 2000000) -implicitDefEqProofs only [zz, zE, evop, ev, ofVal, tget, tput, ok, V.isUndef, intBin, guardOf, initT, Ch.on, calleeOf, withArgs, told, xport, xports, tids, tidss, hget, hput, Blk.ice, freeze, V.cells, D.cells, V.isAgg, V.one, V.clo, clos, V.toD, loadD, structAt, eqCells, D.scalarEq, sliceOf, partsD, partsV, bound, isPtr, Blk.width, elems, lenOf, splice, D.over, resOf, resV, resVs, ↓reduceIte, reduceCtorEq, ↓reduceDIte, Nat.reduceLT, Nat.reduceEqDiff, Nat.reduceAdd, Nat.reduceSub, Nat.reduceMul, Nat.reduceLeDiff, Nat.reduceBEq, Nat.reduceBNe, Int.reduceNeg, Int.reduceAdd, Int.reduceSub, Int.reduceToNat, nilTest, shiftH, Blk.ren, V.ren, renL, initV, frameH, putL, frρ, dI, dW, bWh, hgi, Int.toNat_natCast, Nat.mul_one, hnl, hwi]
        exact ⟨⟨by omega, by omega⟩, Weak.sub (by simp [tget, hwi])⟩
    · have h' : ¬ (((8 : Nat) : Int) < 8) := by omega
      rw [seenI_all hs, hS' j hj]
      cases hSj : S[j]? with
      | none =>
        have hjl : j = S.length := by rw [List.getElem?_eq_none_iff] at hSj; omega
        rw [hjl, List.take_length]
        have hns : (none : Option (Int × Int)).isSome = false := rfl
        simp (maxSteps := 2000000) -implicitDefEqProofs only [zz, zE, evop, ev, ofVal, tget, tput, ok, V.isUndef, intBin, guardOf, initT, Ch.on, calleeOf, withArgs, told, xport, xports, tids, tidss, hget, hput, Blk.ice, freeze, V.cells, D.cells, V.isAgg, V.one, V.clo, clos, V.toD, loadD, structAt, eqCells, D.scalarEq, sliceOf, partsD, partsV, bound, isPtr, Blk.width, elems, lenOf, splice, D.over, resOf, resV, resVs, ↓reduceIte, reduceCtorEq, ↓reduceDIte, Nat.reduceLT, Nat.reduceEqDiff, Nat.reduceAdd, Nat.reduceSub, Nat.reduceMul, Nat.reduceLeDiff, Nat.reduceBEq, Nat.reduceBNe, Int.reduceNeg, Int.reduceAdd, Int.reduceSub, Int.reduceToNat, nilTest, shiftH, Blk.ren, V.ren, renL, initV, frameH, putL, frρ, dI, dW, h', List.drop_zero, hns, Option.getD_none]
        rw [List.take_of_length_le (by simp)]
      | some y =>
        have hjl : j < S.length := (List.getElem?_eq_some_iff.1 hSj).1
        have e6 : List.take j ((S.take j).map dW) = (S.take j).map dW := by rw [List.take_of_length_le]; rw [List.length_map, List.length_take]; omega
        have hT : S.take (j + 1) = S.take j ++ [y] := by rw [List.take_succ, hSj]; rfl
        have hla : lastS S (j + 1) = y := by simp [lastS, hSj]
        rw [hla, hT, List.map_append]
        simp (maxSteps := 2000000) -implicitDefEqProofs only [zz, zE, evop, ev, ofVal, tget, tput, ok, V.isUndef, intBin, guardOf, initT, Ch.on, calleeOf, withArgs, told, xport, xports, tids, tidss, hget, hput, Blk.ice, freeze, V.cells, D.cells, V.isAgg, V.one, V.clo, clos, V.toD, loadD, structAt, eqCells, D.scalarEq, sliceOf, partsD, partsV, bound, isPtr, Blk.width, elems, lenOf, splice, D.over, resOf, resV, resVs, ↓reduceIte, reduceCtorEq, ↓reduceDIte, Nat.reduceLT, Nat.reduceEqDiff, Nat.reduceAdd, Nat.reduceSub, Nat.reduceMul, Nat.reduceLeDiff, Nat.reduceBEq, Nat.reduceBNe, Int.reduceNeg, Int.reduceAdd, Int.reduceSub, Int.reduceToNat, nilTest, shiftH, Blk.ren, V.ren, renL, initV, frameH, putL, frρ, dI, dW, h', e6, bIt]
        refine ⟨⟨by omega, okEl_T [y]⟩, by omega, ?_⟩
        refine Weak.pick [0, 1, 5] (by decide) (by simp) rfl (fun q hq => ?_) (fun i hi => ?_)
        · simp only [List.mem_cons, List.not_mem_nil, or_false] at hq
          rcases hq with rfl | rfl | rfl <;> exact .same _
        · match i, hi with
          | 0, _ => exact renB_wh w rfl rfl
          | 1, _ => exact renB_it y rfl rfl
          | 2, _ => exact .dat _ _ _ rfl rfl
          | i + 3, hi => exact absurd hi (by simp)
end Go.Proofs.Ytaejlmengfahnaa.AM

set_option linter.all false
set_option maxRecDepth 100000
set_option maxHeartbeats 8000000
namespace Go.Proofs.Ytaejlmengfahnaa.AM
open Go Go.RowKit

def prt (l : List (Int × Int)) (q : Int) : List (Int × Int) := l.filter fun x => x.2.tmod 8 == q
theorem prt_len (l : List (Int × Int)) (q : Int) : (prt l q).length ≤ l.length := List.length_filter_le _ _
theorem prt_snoc (l : List (Int × Int)) (x : Int × Int) (q : Int) : prt (l ++ [x]) q = if x.2.tmod 8 = q then prt l q ++ [x] else prt l q := by
  unfold prt
  rw [List.filter_append]
  split
  · rename_i h; simp [List.filter_cons, h]
  · rename_i h; simp [List.filter_cons, h]
def bOf (now : Int) (l : List (Int × Int)) : Blk := .box false [V.d (.int .i64 now), V.own 2 0 (prt l 0).length, V.own 3 0 (prt l 1).length, V.own 4 0 (prt l 2).length, V.own 5 0 (prt l 3).length, V.own 6 0 (prt l 4).length, V.own 7 0 (prt l 5).length, V.own 8 0 (prt l 6).length, V.own 9 0 (prt l 7).length]
def hOf (now : Int) (l : List (Int × Int)) : Heap := [.box false [V.d (.int .i64 0), V.nils, V.nils, V.nils, V.nils, V.nils, V.nils, V.nils, V.nils], bOf now l, .dat false 2 ((prt l 0).map dW), .dat false 2 ((prt l 1).map dW), .dat false 2 ((prt l 2).map dW), .dat false 2 ((prt l 3).map dW), .dat false 2 ((prt l 4).map dW), .dat false 2 ((prt l 5).map dW), .dat false 2 ((prt l 6).map dW), .dat false 2 ((prt l 7).map dW)]
theorem tk_all (l : List (Int × Int)) : List.take l.length (l.map dW) = l.map dW := List.take_of_length_le (by simp)

theorem c_r17_Of (now : Int) (l : List (Int × Int)) (hl : l.length ≤ 100000) (hp : ∀ x ∈ l, 0 ≤ x.2) : CSpec Try.prog 37 [.int .i64 now, .vec (l.map dW)] (dWh (ofW now l)) := by
  have hof : dWh (ofW now l) = .agg (.int .i64 now :: [D.vec ((prt l 0).map dW), D.vec ((prt l 1).map dW), D.vec ((prt l 2).map dW), D.vec ((prt l 3).map dW), D.vec ((prt l 4).map dW), D.vec ((prt l 5).map dW), D.vec ((prt l 6).map dW), D.vec ((prt l 7).map dW)]) := rfl
  rw [hof]
  refine CSpec.of_awp envOf_ok hmix Try.func37 rfl (fun args w => Try.call37 args w) (by simp [Try.f37]) ?_
  simp only [Try.f37]
  simp (maxSteps := 2000000) -implicitDefEqProofs only [zz, zE, evop, ev, ofVal, tget, tput, ok, V.isUndef, intBin, guardOf, initT, Ch.on, calleeOf, withArgs, told, xport, xports, tids, tidss, hget, hput, Blk.ice, freeze, V.cells, D.cells, V.isAgg, V.one, V.clo, clos, V.toD, loadD, structAt, eqCells, D.scalarEq, sliceOf, partsD, partsV, bound, isPtr, Blk.width, elems, lenOf, splice, D.over, resOf, resV, resVs, ↓reduceIte, reduceCtorEq, ↓reduceDIte, Nat.reduceLT, Nat.reduceEqDiff, Nat.reduceAdd, Nat.reduceSub, Nat.reduceMul, Nat.reduceLeDiff, Nat.reduceBEq, Nat.reduceBNe, Int.reduceNeg, Int.reduceAdd, Int.reduceSub, Int.reduceToNat, nilTest, shiftH, Blk.ren, V.ren, renL, initV, frameH, putL, frρ, dI, dW]
  refine wloop_count l.length (fun i => [(6, .d (.int .i64 i)), (1, .d (.vec (l.map dW))), (4, .ptr 0 0 0), (5, .ptr 1 0 0)]) (fun i => hOf now (l.take i)) (fun _ => True) trivial ?_ (fun i hi _ => ?_) (fun _ => ?_)
  · refine Weak.pick [0, 1, 20, 21, 22, 23, 24, 25, 26, 27] (by decide) (by simp [hOf]) rfl (fun q hq => ?_) (fun i hi => ?_)
    · simp only [List.mem_cons, List.not_mem_nil, or_false] at hq
      rcases hq with rfl | rfl | rfl | rfl <;> exact .same _
    · match i, hi with
      | 0, _ => exact .box _ _ _ rfl rfl (.cons (.same _) (.cons (.same _) (.cons (.same _) (.cons (.same _) (.cons (.same _) (.cons (.same _) (.cons (.same _) (.cons (.same _) (.cons (.same _) (.nil))))))))))
      | 1, _ => exact .box _ _ _ rfl rfl (.cons (.same _) (.cons (.nils 2 2 rfl) (.cons (.nils 3 2 rfl) (.cons (.nils 4 2 rfl) (.cons (.nils 5 2 rfl) (.cons (.nils 6 2 rfl) (.cons (.nils 7 2 rfl) (.cons (.nils 8 2 rfl) (.cons (.nils 9 2 rfl) (.nil))))))))))
      | 2, _ => exact .virt 2 rfl rfl
      | 3, _ => exact .virt 2 rfl rfl
      | 4, _ => exact .virt 2 rfl rfl
      | 5, _ => exact .virt 2 rfl rfl
      | 6, _ => exact .virt 2 rfl rfl
      | 7, _ => exact .virt 2 rfl rfl
      | 8, _ => exact .virt 2 rfl rfl
      | 9, _ => exact .virt 2 rfl rfl
      | i + 10, hi => exact absurd hi (by simp [hOf])
  · have hx : l[i]? = some l[i] := List.getElem?_eq_getElem hi
    have h0 := hp _ (List.getElem_mem hi)
    generalize l[i] = x at hx h0
    have h' : ((i : Int) < (l.length : Int)) := by omega
    have hw : IntKind.i64.wrap ((i : Int) + 1) = ((i + 1 : Nat) : Int) := by rw [wrap_in (by omega)]; omega
    have hT : l.take (i + 1) = l.take i ++ [x] := by rw [List.take_succ, hx]; rfl
    have hti : (l.take i).length ≤ 100000 := by rw [List.length_take]; omega
    rw [hT]
    generalize l.take i = p at hti
    have hj0 := Int.tmod_nonneg 8 h0
    have hj1 := Int.tmod_lt_of_pos x.2 (show (0 : Int) < 8 by omega)
    have hpl := prt_len p
    simp (maxSteps := 2000000) -implicitDefEqProofs only [zz, zE, evop, ev, ofVal, tget, tput, ok, V.isUndef, intBin, guardOf, initT, Ch.on, calleeOf, withArgs, told, xport, xports, tids, tidss, hget, hput, Blk.ice, freeze, V.cells, D.cells, V.isAgg, V.one, V.clo, clos, V.toD, loadD, structAt, eqCells, D.scalarEq, sliceOf, partsD, partsV, bound, isPtr, Blk.width, elems, lenOf, splice, D.over, resOf, resV, resVs, ↓reduceIte, reduceCtorEq, ↓reduceDIte, Nat.reduceLT, Nat.reduceEqDiff, Nat.reduceAdd, Nat.reduceSub, Nat.reduceMul, Nat.reduceLeDiff, Nat.reduceBEq, Nat.reduceBNe, Int.reduceNeg, Int.reduceAdd, Int.reduceSub, Int.reduceToNat, nilTest, shiftH, Blk.ren, V.ren, renL, initV, frameH, putL, frρ, dI, dW, h', List.getElem?_map, hx, Option.map_some, Int.natCast_nonneg]
    refine ⟨by decide, ?_⟩
    refine wdraw_perm [2, 11] [0, 1, 0, 2, 6, 3, 4, 5, 7, 8, 9, 0, 10, 11] [0, 1, 3, 5, 6, 7, 4, 8, 9, 10, 12, 13] (by kernel_rfl) rfl [⟨[], false, [22, 23, 25, 26, 27, 28, 29, 30, 31, 32], [], true⟩, ⟨[], false, [22, 27, 28, 29, 30, 31], [0], false⟩, ⟨[1], false, [22, 27, 28, 29, 30, 31], [0], false⟩, ⟨[], false, [22, 23, 25, 26, 28], [0, 1, 2], false⟩, ⟨[], false, [22, 23, 25, 26, 27], [0, 1, 2, 3], false⟩, ⟨[3, 4], false, [22, 23, 25, 26], [0, 1, 2], false⟩, ⟨[1, 2], false, [22, 27, 28, 29, 30, 31], [0, 3, 4, 5], false⟩, ⟨[3, 4, 5], false, [22, 23, 25, 26], [0, 1, 2, 6], false⟩, ⟨[3, 4, 5, 7], false, [22, 23, 25, 26], [0, 1, 2, 6], false⟩, ⟨[1, 2, 3, 4, 5, 6, 7, 8], true, [22], [], false⟩, ⟨[0, 1, 2, 3, 4, 5, 6, 7, 8, 9], true, [], [], false⟩, ⟨[0, 1, 2, 3, 4, 5, 6, 7, 8, 9, 10], true, [], [], false⟩] (by kernel_rfl) ?_
    simp only [takesT, takeV, permOps, permOp, List.map_cons, List.map_nil, List.getD_cons_zero, List.getD_cons_succ, Option.map_none, Option.map_some]
    obtain e0 | e1 | e2 | e3 | e4 | e5 | e6 | e7 : x.2.tmod 8 = 0 ∨ x.2.tmod 8 = 1 ∨ x.2.tmod 8 = 2 ∨ x.2.tmod 8 = 3 ∨ x.2.tmod 8 = 4 ∨ x.2.tmod 8 = 5 ∨ x.2.tmod 8 = 6 ∨ x.2.tmod 8 = 7 := by omega
    · have hq0 : prt (p ++ [x]) 0 = prt p 0 ++ [x] := by rw [prt_snoc, if_pos e0]
      have hq1 : prt (p ++ [x]) 1 = prt p 1 := by rw [prt_snoc, if_neg (by omega)]
      have hq2 : prt (p ++ [x]) 2 = prt p 2 := by rw [prt_snoc, if_neg (by omega)]
      have hq3 : prt (p ++ [x]) 3 = prt p 3 := by rw [prt_snoc, if_neg (by omega)]
      have hq4 : prt (p ++ [x]) 4 = prt p 4 := by rw [prt_snoc, if_neg (by omega)]
      have hq5 : prt (p ++ [x]) 5 = prt p 5 := by rw [prt_snoc, if_neg (by omega)]
      have hq6 : prt (p ++ [x]) 6 = prt p 6 := by rw [prt_snoc, if_neg (by omega)]
      have hq7 : prt (p ++ [x]) 7 = prt p 7 := by rw [prt_snoc, if_neg (by omega)]
      have hz := hpl 0
      unfold hOf bOf
      rw [hq0, hq1, hq2, hq3, hq4, hq5, hq6, hq7]
      simp (maxSteps := 2000000) -implicitDefEqProofs only [zz, zE, evop, ev, ofVal, tget, tput, ok, V.isUndef, intBin, guardOf, initT, Ch.on, calleeOf, withArgs, told, xport, xports, tids, tidss, hget, hput, Blk.ice, freeze, V.cells, D.cells, V.isAgg, V.one, V.clo, clos, V.toD, loadD, structAt, eqCells, D.scalarEq, sliceOf, partsD, partsV, bound, isPtr, Blk.width, elems, lenOf, splice, D.over, resOf, resV, resVs, ↓reduceIte, reduceCtorEq, ↓reduceDIte, Nat.reduceLT, Nat.reduceEqDiff, Nat.reduceAdd, Nat.reduceSub, Nat.reduceMul, Nat.reduceLeDiff, Nat.reduceBEq, Nat.reduceBNe, Int.reduceNeg, Int.reduceAdd, Int.reduceSub, Int.reduceToNat, nilTest, shiftH, Blk.ren, V.ren, renL, initV, frameH, putL, frρ, dI, dW, e0, tk_all, hw, List.getElem?_map, hx, Option.map_some, Int.natCast_nonneg]
      refine ⟨⟨by omega, by omega⟩, ⟨by omega, okEl_T [x]⟩, ⟨by omega, by omega⟩, ?_⟩
      rw [List.length_append, List.map_append]
      refine Weak.pick [0, 1, 19, 3, 4, 5, 6, 7, 8, 9] (by decide) (by simp) rfl (fun q hq => ?_) (fun i hi => ?_)
      · simp only [List.mem_cons, List.not_mem_nil, or_false] at hq
        rcases hq with rfl | rfl | rfl | rfl <;> exact .same _
      · match i, hi with
        | 0, _ => exact .box _ _ _ rfl rfl (.cons (.same _) (.cons (.same _) (.cons (.same _) (.cons (.same _) (.cons (.same _) (.cons (.same _) (.cons (.same _) (.cons (.same _) (.cons (.same _) (.nil))))))))))
        | 1, _ => exact .box _ _ _ rfl rfl (.cons (.same _) (.cons (.same _) (.cons (.same _) (.cons (.same _) (.cons (.same _) (.cons (.same _) (.cons (.same _) (.cons (.same _) (.cons (.same _) (.nil))))))))))
        | 2, _ => exact .dat _ _ _ rfl rfl
        | 3, _ => exact .dat _ _ _ rfl rfl
        | 4, _ => exact .dat _ _ _ rfl rfl
        | 5, _ => exact .dat _ _ _ rfl rfl
        | 6, _ => exact .dat _ _ _ rfl rfl
        | 7, _ => exact .dat _ _ _ rfl rfl
        | 8, _ => exact .dat _ _ _ rfl rfl
        | 9, _ => exact .dat _ _ _ rfl rfl
        | i + 10, hi => exact absurd hi (by simp)
    · have hq0 : prt (p ++ [x]) 0 = prt p 0 := by rw [prt_snoc, if_neg (by omega)]
      have hq1 : prt (p ++ [x]) 1 = prt p 1 ++ [x] := by rw [prt_snoc, if_pos e1]
      have hq2 : prt (p ++ [x]) 2 = prt p 2 := by rw [prt_snoc, if_neg (by omega)]
      have hq3 : prt (p ++ [x]) 3 = prt p 3 := by rw [prt_snoc, if_neg (by omega)]
      have hq4 : prt (p ++ [x]) 4 = prt p 4 := by rw [prt_snoc, if_neg (by omega)]
      have hq5 : prt (p ++ [x]) 5 = prt p 5 := by rw [prt_snoc, if_neg (by omega)]
      have hq6 : prt (p ++ [x]) 6 = prt p 6 := by rw [prt_snoc, if_neg (by omega)]
      have hq7 : prt (p ++ [x]) 7 = prt p 7 := by rw [prt_snoc, if_neg (by omega)]
      have hz := hpl 1
      unfold hOf bOf
      rw [hq0, hq1, hq2, hq3, hq4, hq5, hq6, hq7]
      simp (maxSteps := 2000000) -implicitDefEqProofs only [zz, zE, evop, ev, ofVal, tget, tput, ok, V.isUndef, intBin, guardOf, initT, Ch.on, calleeOf, withArgs, told, xport, xports, tids, tidss, hget, hput, Blk.ice, freeze, V.cells, D.cells, V.isAgg, V.one, V.clo, clos, V.toD, loadD, structAt, eqCells, D.scalarEq, sliceOf, partsD, partsV, bound, isPtr, Blk.width, elems, lenOf, splice, D.over, resOf, resV, resVs, ↓reduceIte, reduceCtorEq, ↓reduceDIte, Nat.reduceLT, Nat.reduceEqDiff, Nat.reduceAdd, Nat.reduceSub, Nat.reduceMul, Nat.reduceLeDiff, Nat.reduceBEq, Nat.reduceBNe, Int.reduceNeg, Int.reduceAdd, Int.reduceSub, Int.reduceToNat, nilTest, shiftH, Blk.ren, V.ren, renL, initV, frameH, putL, frρ, dI, dW, e1, tk_all, hw, List.getElem?_map, hx, Option.map_some, Int.natCast_nonneg]
      refine ⟨⟨by omega, by omega⟩, ⟨by omega, okEl_T [x]⟩, ⟨by omega, by omega⟩, ?_⟩
      rw [List.length_append, List.map_append]
      refine Weak.pick [0, 1, 2, 19, 4, 5, 6, 7, 8, 9] (by decide) (by simp) rfl (fun q hq => ?_) (fun i hi => ?_)
      · simp only [List.mem_cons, List.not_mem_nil, or_false] at hq
        rcases hq with rfl | rfl | rfl | rfl <;> exact .same _
      · match i, hi with
        | 0, _ => exact .box _ _ _ rfl rfl (.cons (.same _) (.cons (.same _) (.cons (.same _) (.cons (.same _) (.cons (.same _) (.cons (.same _) (.cons (.same _) (.cons (.same _) (.cons (.same _) (.nil))))))))))
        | 1, _ => exact .box _ _ _ rfl rfl (.cons (.same _) (.cons (.same _) (.cons (.same _) (.cons (.same _) (.cons (.same _) (.cons (.same _) (.cons (.same _) (.cons (.same _) (.cons (.same _) (.nil))))))))))
        | 2, _ => exact .dat _ _ _ rfl rfl
        | 3, _ => exact .dat _ _ _ rfl rfl
        | 4, _ => exact .dat _ _ _ rfl rfl
        | 5, _ => exact .dat _ _ _ rfl rfl
        | 6, _ => exact .dat _ _ _ rfl rfl
        | 7, _ => exact .dat _ _ _ rfl rfl
        | 8, _ => exact .dat _ _ _ rfl rfl
        | 9, _ => exact .dat _ _ _ rfl rfl
        | i + 10, hi => exact absurd hi (by simp)
    · have hq0 : prt (p ++ [x]) 0 = prt p 0 := by rw [prt_snoc, if_neg (by omega)]
      have hq1 : prt (p ++ [x]) 1 = prt p 1 := by rw [prt_snoc, if_neg (by omega)]
      have hq2 : prt (p ++ [x]) 2 = prt p 2 ++ [x] := by rw [prt_snoc, if_pos e2]
      have hq3 : prt (p ++ [x]) 3 = prt p 3 := by rw [prt_snoc, if_neg (by omega)]
      have hq4 : prt (p ++ [x]) 4 = prt p 4 := by rw [prt_snoc, if_neg (by omega)]
      have hq5 : prt (p ++ [x]) 5 = prt p 5 := by rw [prt_snoc, if_neg (by omega)]
      have hq6 : prt (p ++ [x]) 6 = prt p 6 := by rw [prt_snoc, if_neg (by omega)]
      have hq7 : prt (p ++ [x]) 7 = prt p 7 := by rw [prt_snoc, if_neg (by omega)]
      have hz := hpl 2
      unfold hOf bOf
      rw [hq0, hq1, hq2, hq3, hq4, hq5, hq6, hq7]
      simp (maxSteps := 2000000) -implicitDefEqProofs only [zz, zE, evop, ev, ofVal, tget, tput, ok, V.isUndef, intBin, guardOf, initT, Ch.on, calleeOf, withArgs, told, xport, xports, tids, tidss, hget, hput, Blk.ice, freeze, V.cells, D.cells, V.isAgg, V.one, V.clo, clos, V.toD, loadD, structAt, eqCells, D.scalarEq, sliceOf, partsD, partsV, bound, isPtr, Blk.width, elems, lenOf, splice, D.over, resOf, resV, resVs, ↓reduceIte, reduceCtorEq, ↓reduceDIte, Nat.reduceLT, Nat.reduceEqDiff, Nat.reduceAdd, Nat.reduceSub, Nat.reduceMul, Nat.reduceLeDiff, Nat.reduceBEq, Nat.reduceBNe, Int.reduceNeg, Int.reduceAdd, Int.reduceSub, Int.reduceToNat, nilTest, shiftH, Blk.ren, V.ren, renL, initV, frameH, putL, frρ, dI, dW, e2, tk_all, hw, List.getElem?_map, hx, Option.map_some, Int.natCast_nonneg]
      refine ⟨⟨by omega, by omega⟩, ⟨by omega, okEl_T [x]⟩, ⟨by omega, by omega⟩, ?_⟩
      rw [List.length_append, List.map_append]
      refine Weak.pick [0, 1, 2, 3, 19, 5, 6, 7, 8, 9] (by decide) (by simp) rfl (fun q hq => ?_) (fun i hi => ?_)
      · simp only [List.mem_cons, List.not_mem_nil, or_false] at hq
        rcases hq with rfl | rfl | rfl | rfl <;> exact .same _
      · match i, hi with
        | 0, _ => exact .box _ _ _ rfl rfl (.cons (.same _) (.cons (.same _) (.cons (.same _) (.cons (.same _) (.cons (.same _) (.cons (.same _) (.cons (.same _) (.cons (.same _) (.cons (.same _) (.nil))))))))))
        | 1, _ => exact .box _ _ _ rfl rfl (.cons (.same _) (.cons (.same _) (.cons (.same _) (.cons (.same _) (.cons (.same _) (.cons (.same _) (.cons (.same _) (.cons (.same _) (.cons (.same _) (.nil))))))))))
        | 2, _ => exact .dat _ _ _ rfl rfl
        | 3, _ => exact .dat _ _ _ rfl rfl
        | 4, _ => exact .dat _ _ _ rfl rfl
        | 5, _ => exact .dat _ _ _ rfl rfl
        | 6, _ => exact .dat _ _ _ rfl rfl
        | 7, _ => exact .dat _ _ _ rfl rfl
        | 8, _ => exact .dat _ _ _ rfl rfl
        | 9, _ => exact .dat _ _ _ rfl rfl
        | i + 10, hi => exact absurd hi (by simp)
    · have hq0 : prt (p ++ [x]) 0 = prt p 0 := by rw [prt_snoc, if_neg (by omega)]
      have hq1 : prt (p ++ [x]) 1 = prt p 1 := by rw [prt_snoc, if_neg (by omega)]
      have hq2 : prt (p ++ [x]) 2 = prt p 2 := by rw [prt_snoc, if_neg (by omega)]
      have hq3 : prt (p ++ [x]) 3 = prt p 3 ++ [x] := by rw [prt_snoc, if_pos e3]
      have hq4 : prt (p ++ [x]) 4 = prt p 4 := by rw [prt_snoc, if_neg (by omega)]
      have hq5 : prt (p ++ [x]) 5 = prt p 5 := by rw [prt_snoc, if_neg (by omega)]
      have hq6 : prt (p ++ [x]) 6 = prt p 6 := by rw [prt_snoc, if_neg (by omega)]
      have hq7 : prt (p ++ [x]) 7 = prt p 7 := by rw [prt_snoc, if_neg (by omega)]
      have hz := hpl 3
      unfold hOf bOf
      rw [hq0, hq1, hq2, hq3, hq4, hq5, hq6, hq7]
      simp (maxSteps := 2000000) -implicitDefEqProofs only [zz, zE, evop, ev, ofVal, tget, tput, ok, V.isUndef, intBin, guardOf, initT, Ch.on, calleeOf, withArgs, told, xport, xports, tids, tidss, hget, hput, Blk.ice, freeze, V.cells, D.cells, V.isAgg, V.one, V.clo, clos, V.toD, loadD, structAt, eqCells, D.scalarEq, sliceOf, partsD, partsV, bound, isPtr, Blk.width, elems, lenOf, splice, D.over, resOf, resV, resVs, ↓reduceIte, reduceCtorEq, ↓reduceDIte, Nat.reduceLT, Nat.reduceEqDiff, Nat.reduceAdd, Nat.reduceSub, Nat.reduceMul, Nat.reduceLeDiff, Nat.reduceBEq, Nat.reduceBNe, Int.reduceNeg, Int.reduceAdd, Int.reduceSub, Int.reduceToNat, nilTest, shiftH, Blk.ren, V.ren, renL, initV, frameH, putL, frρ, dI, dW, e3, tk_all, hw, List.getElem?_map, hx, Option.map_some, Int.natCast_nonneg]
      refine ⟨⟨by omega, by omega⟩, ⟨by omega, okEl_T [x]⟩, ⟨by omega, by omega⟩, ?_⟩
      rw [List.length_append, List.map_append]
      refine Weak.pick [0, 1, 2, 3, 4, 19, 6, 7, 8, 9] (by decide) (by simp) rfl (fun q hq => ?_) (fun i hi => ?_)
      · simp only [List.mem_cons, List.not_mem_nil, or_false] at hq
        rcases hq with rfl | rfl | rfl | rfl <;> exact .same _
      · match i, hi with
        | 0, _ => exact .box _ _ _ rfl rfl (.cons (.same _) (.cons (.same _) (.cons (.same _) (.cons (.same _) (.cons (.same _) (.cons (.same _) (.cons (.same _) (.cons (.same _) (.cons (.same _) (.nil))))))))))
        | 1, _ => exact .box _ _ _ rfl rfl (.cons (.same _) (.cons (.same _) (.cons (.same _) (.cons (.same _) (.cons (.same _) (.cons (.same _) (.cons (.same _) (.cons (.same _) (.cons (.same _) (.nil))))))))))
        | 2, _ => exact .dat _ _ _ rfl rfl
        | 3, _ => exact .dat _ _ _ rfl rfl
        | 4, _ => exact .dat _ _ _ rfl rfl
        | 5, _ => exact .dat _ _ _ rfl rfl
        | 6, _ => exact .dat _ _ _ rfl rfl
        | 7, _ => exact .dat _ _ _ rfl rfl
        | 8, _ => exact .dat _ _ _ rfl rfl
        | 9, _ => exact .dat _ _ _ rfl rfl
        | i + 10, hi => exact absurd hi (by simp)
    · have hq0 : prt (p ++ [x]) 0 = prt p 0 := by rw [prt_snoc, if_neg (by omega)]
      have hq1 : prt (p ++ [x]) 1 = prt p 1 := by rw [prt_snoc, if_neg (by omega)]
      have hq2 : prt (p ++ [x]) 2 = prt p 2 := by rw [prt_snoc, if_neg (by omega)]
      have hq3 : prt (p ++ [x]) 3 = prt p 3 := by rw [prt_snoc, if_neg (by omega)]
      have hq4 : prt (p ++ [x]) 4 = prt p 4 ++ [x] := by rw [prt_snoc, if_pos e4]
      have hq5 : prt (p ++ [x]) 5 = prt p 5 := by rw [prt_snoc, if_neg (by omega)]
      have hq6 : prt (p ++ [x]) 6 = prt p 6 := by rw [prt_snoc, if_neg (by omega)]
      have hq7 : prt (p ++ [x]) 7 = prt p 7 := by rw [prt_snoc, if_neg (by omega)]
      have hz := hpl 4
      unfold hOf bOf
      rw [hq0, hq1, hq2, hq3, hq4, hq5, hq6, hq7]
      simp (maxSteps := 2000000) -implicitDefEqProofs only [zz, zE, evop, ev, ofVal, tget, tput, ok, V.isUndef, intBin, guardOf, initT, Ch.on, calleeOf, withArgs, told, xport, xports, tids, tidss, hget, hput, Blk.ice, freeze, V.cells, D.cells, V.isAgg, V.one, V.clo, clos, V.toD, loadD, structAt, eqCells, D.scalarEq, sliceOf, partsD, partsV, bound, isPtr, Blk.width, elems, lenOf, splice, D.over, resOf, resV, resVs, ↓reduceIte, reduceCtorEq, ↓reduceDIte, Nat.reduceLT, Nat.reduceEqDiff, Nat.reduceAdd, Nat.reduceSub, Nat.reduceMul, Nat.reduceLeDiff, Nat.reduceBEq, Nat.reduceBNe, Int.reduceNeg, Int.reduceAdd, Int.reduceSub, Int.reduceToNat, nilTest, shiftH, Blk.ren, V.ren, renL, initV, frameH, putL, frρ, dI, dW, e4, tk_all, hw, List.getElem?_map, hx, Option.map_some, Int.natCast_nonneg]
      refine ⟨⟨by omega, by omega⟩, ⟨by omega, okEl_T [x]⟩, ⟨by omega, by omega⟩, ?_⟩
      rw [List.length_append, List.map_append]
      refine Weak.pick [0, 1, 2, 3, 4, 5, 19, 7, 8, 9] (by decide) (by simp) rfl (fun q hq => ?_) (fun i hi => ?_)
      · simp only [List.mem_cons, List.not_mem_nil, or_false] at hq
        rcases hq with rfl | rfl | rfl | rfl <;> exact .same _
      · match i, hi with
        | 0, _ => exact .box _ _ _ rfl rfl (.cons (.same _) (.cons (.same _) (.cons (.same _) (.cons (.same _) (.cons (.same _) (.cons (.same _) (.cons (.same _) (.cons (.same _) (.cons (.same _) (.nil))))))))))
        | 1, _ => exact .box _ _ _ rfl rfl (.cons (.same _) (.cons (.same _) (.cons (.same _) (.cons (.same _) (.cons (.same _) (.cons (.same _) (.cons (.same _) (.cons (.same _) (.cons (.same _) (.nil))))))))))
        | 2, _ => exact .dat _ _ _ rfl rfl
        | 3, _ => exact .dat _ _ _ rfl rfl
        | 4, _ => exact .dat _ _ _ rfl rfl
        | 5, _ => exact .dat _ _ _ rfl rfl
        | 6, _ => exact .dat _ _ _ rfl rfl
        | 7, _ => exact .dat _ _ _ rfl rfl
        | 8, _ => exact .dat _ _ _ rfl rfl
        | 9, _ => exact .dat _ _ _ rfl rfl
        | i + 10, hi => exact absurd hi (by simp)
    · have hq0 : prt (p ++ [x]) 0 = prt p 0 := by rw [prt_snoc, if_neg (by omega)]
      have hq1 : prt (p ++ [x]) 1 = prt p 1 := by rw [prt_snoc, if_neg (by omega)]
      have hq2 : prt (p ++ [x]) 2 = prt p 2 := by rw [prt_snoc, if_neg (by omega)]
      have hq3 : prt (p ++ [x]) 3 = prt p 3 := by rw [prt_snoc, if_neg (by omega)]
      have hq4 : prt (p ++ [x]) 4 = prt p 4 := by rw [prt_snoc, if_neg (by omega)]
      have hq5 : prt (p ++ [x]) 5 = prt p 5 ++ [x] := by rw [prt_snoc, if_pos e5]
      have hq6 : prt (p ++ [x]) 6 = prt p 6 := by rw [prt_snoc, if_neg (by omega)]
      have hq7 : prt (p ++ [x]) 7 = prt p 7 := by rw [prt_snoc, if_neg (by omega)]
      have hz := hpl 5
      unfold hOf bOf
      rw [hq0, hq1, hq2, hq3, hq4, hq5, hq6, hq7]
      simp (maxSteps := 2000000) -implicitDefEqProofs only [zz, zE, evop, ev, ofVal, tget, tput, ok, V.isUndef, intBin, guardOf, initT, Ch.on, calleeOf, withArgs, told, xport, xports, tids, tidss, hget, hput, Blk.ice, freeze, V.cells, D.cells, V.isAgg, V.one, V.clo, clos, V.toD, loadD, structAt, eqCells, D.scalarEq, sliceOf, partsD, partsV, bound, isPtr, Blk.width, elems, lenOf, splice, D.over, resOf, resV, resVs, ↓reduceIte, reduceCtorEq, ↓reduceDIte, Nat.reduceLT, Nat.reduceEqDiff, Nat.reduceAdd, Nat.reduceSub, Nat.reduceMul, Nat.reduceLeDiff, Nat.reduceBEq, Nat.reduceBNe, Int.reduceNeg, Int.reduceAdd, Int.reduceSub, Int.reduceToNat, nilTest, shiftH, Blk.ren, V.ren, renL, initV, frameH, putL, frρ, dI, dW, e5, tk_all, hw, List.getElem?_map, hx, Option.map_some, Int.natCast_nonneg]
      refine ⟨⟨by omega, by omega⟩, ⟨by omega, okEl_T [x]⟩, ⟨by omega, by omega⟩, ?_⟩
      rw [List.length_append, List.map_append]
      refine Weak.pick [0, 1, 2, 3, 4, 5, 6, 19, 8, 9] (by decide) (by simp) rfl (fun q hq => ?_) (fun i hi => ?_)
      · simp only [List.mem_cons, List.not_mem_nil, or_false] at hq
        rcases hq with rfl | rfl | rfl | rfl <;> exact .same _
      · match i, hi with
        | 0, _ => exact .box _ _ _ rfl rfl (.cons (.same _) (.cons (.same _) (.cons (.same _) (.cons (.same _) (.cons (.same _) (.cons (.same _) (.cons (.same _) (.cons (.same _) (.cons (.same _) (.nil))))))))))
        | 1, _ => exact .box _ _ _ rfl rfl (.cons (.same _) (.cons (.same _) (.cons (.same _) (.cons (.same _) (.cons (.same _) (.cons (.same _) (.cons (.same _) (.cons (.same _) (.cons (.same _) (.nil))))))))))
        | 2, _ => exact .dat _ _ _ rfl rfl
        | 3, _ => exact .dat _ _ _ rfl rfl
        | 4, _ => exact .dat _ _ _ rfl rfl
        | 5, _ => exact .dat _ _ _ rfl rfl
        | 6, _ => exact .dat _ _ _ rfl rfl
        | 7, _ => exact .dat _ _ _ rfl rfl
        | 8, _ => exact .dat _ _ _ rfl rfl
        | 9, _ => exact .dat _ _ _ rfl rfl
        | i + 10, hi => exact absurd hi (by simp)
    · have hq0 : prt (p ++ [x]) 0 = prt p 0 := by rw [prt_snoc, if_neg (by omega)]
      have hq1 : prt (p ++ [x]) 1 = prt p 1 := by rw [prt_snoc, if_neg (by omega)]
      have hq2 : prt (p ++ [x]) 2 = prt p 2 := by rw [prt_snoc, if_neg (by omega)]
      have hq3 : prt (p ++ [x]) 3 = prt p 3 := by rw [prt_snoc, if_neg (by omega)]
      have hq4 : prt (p ++ [x]) 4 = prt p 4 := by rw [prt_snoc, if_neg (by omega)]
      have hq5 : prt (p ++ [x]) 5 = prt p 5 := by rw [prt_snoc, if_neg (by omega)]
      have hq6 : prt (p ++ [x]) 6 = prt p 6 ++ [x] := by rw [prt_snoc, if_pos e6]
      have hq7 : prt (p ++ [x]) 7 = prt p 7 := by rw [prt_snoc, if_neg (by omega)]
      have hz := hpl 6
      unfold hOf bOf
      rw [hq0, hq1, hq2, hq3, hq4, hq5, hq6, hq7]
      simp (maxSteps := 2000000) -implicitDefEqProofs only [zz, zE, evop, ev, ofVal, tget, tput, ok, V.isUndef, intBin, guardOf, initT, Ch.on, calleeOf, withArgs, told, xport, xports, tids, tidss, hget, hput, Blk.ice, freeze, V.cells, D.cells, V.isAgg, V.one, V.clo, clos, V.toD, loadD, structAt, eqCells, D.scalarEq, sliceOf, partsD, partsV, bound, isPtr, Blk.width, elems, lenOf, splice, D.over, resOf, resV, resVs, ↓reduceIte, reduceCtorEq, ↓reduceDIte, Nat.reduceLT, Nat.reduceEqDiff, Nat.reduceAdd, Nat.reduceSub, Nat.reduceMul, Nat.reduceLeDiff, Nat.reduceBEq, Nat.reduceBNe, Int.reduceNeg, Int.reduceAdd, Int.reduceSub, Int.reduceToNat, nilTest, shiftH, Blk.ren, V.ren, renL, initV, frameH, putL, frρ, dI, dW, e6, tk_all, hw, List.getElem?_map, hx, Option.map_some, Int.natCast_nonneg]
      refine ⟨⟨by omega, by omega⟩, ⟨by omega, okEl_T [x]⟩, ⟨by omega, by omega⟩, ?_⟩
      rw [List.length_append, List.map_append]
      refine Weak.pick [0, 1, 2, 3, 4, 5, 6, 7, 19, 9] (by decide) (by simp) rfl (fun q hq => ?_) (fun i hi => ?_)
      · simp only [List.mem_cons, List.not_mem_nil, or_false] at hq
        rcases hq with rfl | rfl | rfl | rfl <;> exact .same _
      · match i, hi with
        | 0, _ => exact .box _ _ _ rfl rfl (.cons (.same _) (.cons (.same _) (.cons (.same _) (.cons (.same _) (.cons (.same _) (.cons (.same _) (.cons (.same _) (.cons (.same _) (.cons (.same _) (.nil))))))))))
        | 1, _ => exact .box _ _ _ rfl rfl (.cons (.same _) (.cons (.same _) (.cons (.same _) (.cons (.same _) (.cons (.same _) (.cons (.same _) (.cons (.same _) (.cons (.same _) (.cons (.same _) (.nil))))))))))
        | 2, _ => exact .dat _ _ _ rfl rfl
        | 3, _ => exact .dat _ _ _ rfl rfl
        | 4, _ => exact .dat _ _ _ rfl rfl
        | 5, _ => exact .dat _ _ _ rfl rfl
        | 6, _ => exact .dat _ _ _ rfl rfl
        | 7, _ => exact .dat _ _ _ rfl rfl
        | 8, _ => exact .dat _ _ _ rfl rfl
        | 9, _ => exact .dat _ _ _ rfl rfl
        | i + 10, hi => exact absurd hi (by simp)
    · have hq0 : prt (p ++ [x]) 0 = prt p 0 := by rw [prt_snoc, if_neg (by omega)]
      have hq1 : prt (p ++ [x]) 1 = prt p 1 := by rw [prt_snoc, if_neg (by omega)]
      have hq2 : prt (p ++ [x]) 2 = prt p 2 := by rw [prt_snoc, if_neg (by omega)]
      have hq3 : prt (p ++ [x]) 3 = prt p 3 := by rw [prt_snoc, if_neg (by omega)]
      have hq4 : prt (p ++ [x]) 4 = prt p 4 := by rw [prt_snoc, if_neg (by omega)]
      have hq5 : prt (p ++ [x]) 5 = prt p 5 := by rw [prt_snoc, if_neg (by omega)]
      have hq6 : prt (p ++ [x]) 6 = prt p 6 := by rw [prt_snoc, if_neg (by omega)]
      have hq7 : prt (p ++ [x]) 7 = prt p 7 ++ [x] := by rw [prt_snoc, if_pos e7]
      have hz := hpl 7
      unfold hOf bOf
      rw [hq0, hq1, hq2, hq3, hq4, hq5, hq6, hq7]
      simp (maxSteps := 2000000) -implicitDefEqProofs only [zz, zE, evop, ev, ofVal, tget, tput, ok, V.isUndef, intBin, guardOf, initT, Ch.on, calleeOf, withArgs, told, xport, xports, tids, tidss, hget, hput, Blk.ice, freeze, V.cells, D.cells, V.isAgg, V.one, V.clo, clos, V.toD, loadD, structAt, eqCells, D.scalarEq, sliceOf, partsD, partsV, bound, isPtr, Blk.width, elems, lenOf, splice, D.over, resOf, resV, resVs, ↓reduceIte, reduceCtorEq, ↓reduceDIte, Nat.reduceLT, Nat.reduceEqDiff, Nat.reduceAdd, Nat.reduceSub, Nat.reduceMul, Nat.reduceLeDiff, Nat.reduceBEq, Nat.reduceBNe, Int.reduceNeg, Int.reduceAdd, Int.reduceSub, Int.reduceToNat, nilTest, shiftH, Blk.ren, V.ren, renL, initV, frameH, putL, frρ, dI, dW, e7, tk_all, hw, List.getElem?_map, hx, Option.map_some, Int.natCast_nonneg]
      refine ⟨⟨by omega, by omega⟩, ⟨by omega, okEl_T [x]⟩, ⟨by omega, by omega⟩, ?_⟩
      rw [List.length_append, List.map_append]
      refine Weak.pick [0, 1, 2, 3, 4, 5, 6, 7, 8, 19] (by decide) (by simp) rfl (fun q hq => ?_) (fun i hi => ?_)
      · simp only [List.mem_cons, List.not_mem_nil, or_false] at hq
        rcases hq with rfl | rfl | rfl | rfl <;> exact .same _
      · match i, hi with
        | 0, _ => exact .box _ _ _ rfl rfl (.cons (.same _) (.cons (.same _) (.cons (.same _) (.cons (.same _) (.cons (.same _) (.cons (.same _) (.cons (.same _) (.cons (.same _) (.cons (.same _) (.nil))))))))))
        | 1, _ => exact .box _ _ _ rfl rfl (.cons (.same _) (.cons (.same _) (.cons (.same _) (.cons (.same _) (.cons (.same _) (.cons (.same _) (.cons (.same _) (.cons (.same _) (.cons (.same _) (.nil))))))))))
        | 2, _ => exact .dat _ _ _ rfl rfl
        | 3, _ => exact .dat _ _ _ rfl rfl
        | 4, _ => exact .dat _ _ _ rfl rfl
        | 5, _ => exact .dat _ _ _ rfl rfl
        | 6, _ => exact .dat _ _ _ rfl rfl
        | 7, _ => exact .dat _ _ _ rfl rfl
        | 8, _ => exact .dat _ _ _ rfl rfl
        | 9, _ => exact .dat _ _ _ rfl rfl
        | i + 10, hi => exact absurd hi (by simp)
  · have h' : ¬ ((l.length : Int) < (l.length : Int)) := by omega
    rw [List.take_length]
    unfold hOf bOf
    simp (maxSteps := 2000000) -implicitDefEqProofs only [zz, zE, evop, ev, ofVal, tget, tput, ok, V.isUndef, intBin, guardOf, initT, Ch.on, calleeOf, withArgs, told, xport, xports, tids, tidss, hget, hput, Blk.ice, freeze, V.cells, D.cells, V.isAgg, V.one, V.clo, clos, V.toD, loadD, structAt, eqCells, D.scalarEq, sliceOf, partsD, partsV, bound, isPtr, Blk.width, elems, lenOf, splice, D.over, resOf, resV, resVs, ↓reduceIte, reduceCtorEq, ↓reduceDIte, Nat.reduceLT, Nat.reduceEqDiff, Nat.reduceAdd, Nat.reduceSub, Nat.reduceMul, Nat.reduceLeDiff, Nat.reduceBEq, Nat.reduceBNe, Int.reduceNeg, Int.reduceAdd, Int.reduceSub, Int.reduceToNat, nilTest, shiftH, Blk.ren, V.ren, renL, initV, frameH, putL, frρ, dI, dW, h', tk_all, List.drop_zero]
end Go.Proofs.Ytaejlmengfahnaa.AM

set_option linter.all false
set_option maxRecDepth 100000
set_option maxHeartbeats 8000000
namespace Go.Proofs.Ytaejlmengfahnaa.AM
open Go Go.RowKit

theorem sortT_perm {l : List (Int × Int)} (h : l.Nodup) : (sortT l).Perm l := by
  have hk := sortT_ok l h
  rw [List.perm_iff_count]
  intro x
  rw [List.Nodup.count (srt_nodup hk.1), List.Nodup.count h]
  simp only [hk.2]
theorem RightW.perm {w : Wh} (h : RightW w) : (itemsW w).Perm w.slots.flatten := sortT_perm (nodup_who h.who)
theorem RightW.whoI {w : Wh} (h : RightW w) : ((itemsW w).map fun x => x.1).Nodup := (h.perm.map fun x => x.1).nodup_iff.2 h.who
theorem RightW.item {w : Wh} (h : RightW w) {x : Int × Int} (hx : x ∈ itemsW w) : whB x.1 = true ∧ tickR x.2 = true ∧ w.now < x.2 ∧ 0 ≤ x.2 := by
  obtain ⟨i, l, hl, hm⟩ := h.mem.1 hx
  have := h.items i l hl x hm
  simp only [itemOk, Bool.and_eq_true, decide_eq_true_eq] at this
  refine ⟨this.1.1.1, this.1.1.2, this.1.2, ?_⟩
  have h2 := this.1.1.2
  simp only [tickR, Bool.and_eq_true, decide_eq_true_eq] at h2
  omega
theorem who_gone {l : List (Int × Int)} (hu : (l.map fun x => x.1).Nodup) {i : Nat} {x : Int × Int} {who : Int} (hx : l[i]? = some x) (h1 : (x.1 == who) = true) : l.take i ++ l.drop (i + 1) = l.filter fun y => !(y.1 == who) := by
  obtain ⟨hi, rfl⟩ := List.getElem?_eq_some_iff.1 hx
  have hne : ∀ (j : Nat) (hj : j < l.length), j ≠ i → (!(l[j].1 == who)) = true := fun j hj hji => by
    have h1' : l[i].1 = who := by simpa using h1
    cases e : (l[j].1 == who) with
    | false => rfl
    | true =>
      have e' : l[j].1 = who := by simpa using e
      have := List.pairwise_iff_getElem.1 hu
      rcases Nat.lt_or_ge j i with g | g
      · have := this j i (by simpa using hj) (by simpa using hi) g
        simp [e', h1'] at this
      · have := this i j (by simpa using hi) (by simpa using hj) (by omega)
        simp [e', h1'] at this
  have hs : l = l.take i ++ l[i] :: l.drop (i + 1) := by rw [List.getElem_cons_drop, List.take_append_drop]
  conv => rhs; rw [hs]
  rw [List.filter_append, List.filter_cons]
  have : (!(l[i].1 == who)) = false := by rw [h1]; rfl
  rw [if_neg (by rw [this]; decide), List.filter_eq_self.2, List.filter_eq_self.2]
  · intro y hy
    obtain ⟨j, hj, rfl⟩ := List.getElem_of_mem hy
    rw [List.getElem_drop]
    exact hne _ (by simp at hj; omega) (by omega)
  · intro y hy
    obtain ⟨j, hj, rfl⟩ := List.getElem_of_mem hy
    rw [List.getElem_take]
    exact hne _ _ (by simp at hj; omega)
theorem hasW_idx {w : Wh} {who : Int} : hasW w who = decide (0 ≤ idxOf (fun x => x.1 == who) (itemsW w)) := by
  unfold hasW
  rcases idx_cases (fun x => x.1 == who) (itemsW w) with ⟨h1, h2⟩ | ⟨i, x, h1, h2, h3, _⟩
  · rw [h1]
    cases e : (itemsW w).any (fun x => x.1 == who) with
    | false => rfl
    | true =>
      obtain ⟨x, hx, h⟩ := List.any_eq_true.1 e
      rw [h2 x hx] at h; cases h
  · rw [h1]
    have : decide ((0 : Int) ≤ (i : Int)) = true := decide_eq_true (by omega)
    rw [this]
    exact List.any_eq_true.2 ⟨x, List.mem_of_getElem? h2, h3⟩

theorem seal_wh {H : Heap} (w : Wh) (hs : w.slots.length = 8) (h : hget H 0 = .box false (V.d (.int .i64 w.now) :: slotsV w)) : sealF H [0] (.ptr 0 0 0) = .d (.imm (dWh w) 0) := by
  have hx : xport H 40 (.ptr 0 0 0) = some (.imm (dWh w) 0) := by
    simp only [xport, h, xports, xports_slots' w (show 8 < 38 by decide) hs, if_true]; rfl
  have ht : tids H 40 (.ptr 0 0 0) = [0] := by
    simp only [tids, h, tidss, tidss_slots]; rfl
  simp only [sealF, hx, ht, List.mem_singleton, if_true]
theorem two_T (S : List (Int × Int)) : ∀ e ∈ S.map dW, (match e with | .agg cs => cs | x => [x]).length = 2 := fun e he => by
  obtain ⟨x, _, rfl⟩ := List.mem_map.1 he; rfl

theorem c_r17_Clear (w : Wh) (who : Int) (hs : w.slots.length = 8) (hl : ∀ l ∈ w.slots, l.length ≤ 1000000) : CSpec Try.prog 15 [dWh w, .int .i64 who] (.tuple [dWh (clearW w who).1, .int .i64 (clearW w who).2]) := by
  have hr := c_r17_Right w hs hl
  have hs8 : 8 ≤ w.slots.length := by omega
  have hsl : (slotsV w).length = 8 := by simp [slotsV, hs]
  have ht9 : List.take 8 (slotsV w) = slotsV w := List.take_of_length_le (by omega)
  have ht8 : List.take 8 (List.map V.d (List.map (fun l => D.vec (List.map dW l)) w.slots)) = slotsV w := List.take_of_length_le (by simp [hs])
  refine CSpec.of_awp envOf_ok hmix Try.func15 rfl (fun args w => Try.call15 args w) (by simp [Try.f15]) ?_
  simp only [Try.f15]
  simp (maxSteps := 2000000) -implicitDefEqProofs only [zz, zE, evop, ev, ofVal, tget, tput, ok, V.isUndef, intBin, guardOf, initT, Ch.on, calleeOf, withArgs, told, xport, xports, tids, tidss, hget, hput, Blk.ice, freeze, V.cells, D.cells, V.isAgg, V.one, V.clo, clos, V.toD, loadD, structAt, eqCells, D.scalarEq, sliceOf, partsD, partsV, bound, isPtr, Blk.width, elems, lenOf, splice, D.over, resOf, resV, resVs, ↓reduceIte, reduceCtorEq, ↓reduceDIte, Nat.reduceLT, Nat.reduceEqDiff, Nat.reduceAdd, Nat.reduceSub, Nat.reduceMul, Nat.reduceLeDiff, Nat.reduceBEq, Nat.reduceBNe, Int.reduceNeg, Int.reduceAdd, Int.reduceSub, Int.reduceToNat, nilTest, shiftH, Blk.ren, V.ren, renL, initV, frameH, putL, frρ, dI, dW]
  unfold dWh
  try simp (maxSteps := 2000000) -implicitDefEqProofs only [zz, zE, evop, ev, ofVal, tget, tput, ok, V.isUndef, intBin, guardOf, initT, Ch.on, calleeOf, withArgs, told, xport, xports, tids, tidss, hget, hput, Blk.ice, freeze, V.cells, D.cells, V.isAgg, V.one, V.clo, clos, V.toD, loadD, structAt, eqCells, D.scalarEq, sliceOf, partsD, partsV, bound, isPtr, Blk.width, elems, lenOf, splice, D.over, resOf, resV, resVs, ↓reduceIte, reduceCtorEq, ↓reduceDIte, Nat.reduceLT, Nat.reduceEqDiff, Nat.reduceAdd, Nat.reduceSub, Nat.reduceMul, Nat.reduceLeDiff, Nat.reduceBEq, Nat.reduceBNe, Int.reduceNeg, Int.reduceAdd, Int.reduceSub, Int.reduceToNat, nilTest, shiftH, Blk.ren, V.ren, renL, initV, frameH, putL, frρ, dI, dW, hs8, ht8]
  refine acall_flat (ds := [dWh w]) (by simp only [xports, xport_wh w hs]) hr rfl ?_
  cases h : rightB w with
  | false =>
    have e : clearW w who = (w, 1) := by simp [clearW, h]
    rw [e]
    simp (maxSteps := 2000000) -implicitDefEqProofs only [zz, zE, evop, ev, ofVal, tget, tput, ok, V.isUndef, intBin, guardOf, initT, Ch.on, calleeOf, withArgs, told, xport, xports, tids, tidss, hget, hput, Blk.ice, freeze, V.cells, D.cells, V.isAgg, V.one, V.clo, clos, V.toD, loadD, structAt, eqCells, D.scalarEq, sliceOf, partsD, partsV, bound, isPtr, Blk.width, elems, lenOf, splice, D.over, resOf, resV, resVs, ↓reduceIte, reduceCtorEq, ↓reduceDIte, Nat.reduceLT, Nat.reduceEqDiff, Nat.reduceAdd, Nat.reduceSub, Nat.reduceMul, Nat.reduceLeDiff, Nat.reduceBEq, Nat.reduceBNe, Int.reduceNeg, Int.reduceAdd, Int.reduceSub, Int.reduceToNat, nilTest, shiftH, Blk.ren, V.ren, renL, initV, frameH, putL, frρ, dI, dW, hs8, ht8, ht9, slots_one, hsl, List.length_cons]
    simp only [xports_slots' w (show 8 < 36 by decide) hs, xports_slots' w (show 8 < 37 by decide) hs, xports_slots' w (show 8 < 38 by decide) hs]
  | true =>
    have hR := (rightB_iff hs).1 h
    have hit := c_r17_Items w hR
    have hf := hR.few
    have hil := itemsW_len w
    have hfi := c_r17_find (itemsW w) who (by omega)
    have hu := hR.whoI
    have hsv := sieveW_of hR w.now fun x => !(x.1 == who)
    have e : clearW w who = if 0 ≤ idxOf (fun x => x.1 == who) (itemsW w) then (ofW w.now ((itemsW w).filter fun x => !(x.1 == who)), 0) else (w, 3) := by
      simp only [clearW, h, if_true, hasW_idx, decide_eq_true_eq, hsv]
    rw [e]
    have h0 : ∀ x ∈ itemsW w, 0 ≤ x.2 := fun x hx => (hR.item hx).2.2.2
    clear e hsv h
    revert hil hfi hu h0 hit
    generalize itemsW w = S
    intro hit hil hfi hu h0
    simp (maxSteps := 2000000) -implicitDefEqProofs only [zz, zE, evop, ev, ofVal, tget, tput, ok, V.isUndef, intBin, guardOf, initT, Ch.on, calleeOf, withArgs, told, xport, xports, tids, tidss, hget, hput, Blk.ice, freeze, V.cells, D.cells, V.isAgg, V.one, V.clo, clos, V.toD, loadD, structAt, eqCells, D.scalarEq, sliceOf, partsD, partsV, bound, isPtr, Blk.width, elems, lenOf, splice, D.over, resOf, resV, resVs, ↓reduceIte, reduceCtorEq, ↓reduceDIte, Nat.reduceLT, Nat.reduceEqDiff, Nat.reduceAdd, Nat.reduceSub, Nat.reduceMul, Nat.reduceLeDiff, Nat.reduceBEq, Nat.reduceBNe, Int.reduceNeg, Int.reduceAdd, Int.reduceSub, Int.reduceToNat, nilTest, shiftH, Blk.ren, V.ren, renL, initV, frameH, putL, frρ, dI, dW, hs8, ht8]
    refine acall_ice (ds := [dWh w]) (by simp only [xports, xport_wh w hs]) hit ?_
    simp (maxSteps := 2000000) -implicitDefEqProofs only [zz, zE, evop, ev, ofVal, tget, tput, ok, V.isUndef, intBin, guardOf, initT, Ch.on, calleeOf, withArgs, told, xport, xports, tids, tidss, hget, hput, Blk.ice, freeze, V.cells, D.cells, V.isAgg, V.one, V.clo, clos, V.toD, loadD, structAt, eqCells, D.scalarEq, sliceOf, partsD, partsV, bound, isPtr, Blk.width, elems, lenOf, splice, D.over, resOf, resV, resVs, ↓reduceIte, reduceCtorEq, ↓reduceDIte, Nat.reduceLT, Nat.reduceEqDiff, Nat.reduceAdd, Nat.reduceSub, Nat.reduceMul, Nat.reduceLeDiff, Nat.reduceBEq, Nat.reduceBNe, Int.reduceNeg, Int.reduceAdd, Int.reduceSub, Int.reduceToNat, nilTest, shiftH, Blk.ren, V.ren, renL, initV, frameH, putL, frρ, dI, dW, hs8, ht8, ht9, tidss_slots, AM.freeze]
    first | refine acall_flat' (hfi) rfl ?_ | refine dcall_flat' (hfi) rfl ?_ | refine acall_ice' (hfi) ?_ | refine dcall_still' (hfi) rfl ?_
    try simp (maxSteps := 2000000) -implicitDefEqProofs only [zz, zE, evop, ev, ofVal, tget, tput, ok, V.isUndef, intBin, guardOf, initT, Ch.on, calleeOf, withArgs, told, xport, xports, tids, tidss, hget, hput, Blk.ice, freeze, V.cells, D.cells, V.isAgg, V.one, V.clo, clos, V.toD, loadD, structAt, eqCells, D.scalarEq, sliceOf, partsD, partsV, bound, isPtr, Blk.width, elems, lenOf, splice, D.over, resOf, resV, resVs, ↓reduceIte, reduceCtorEq, ↓reduceDIte, Nat.reduceLT, Nat.reduceEqDiff, Nat.reduceAdd, Nat.reduceSub, Nat.reduceMul, Nat.reduceLeDiff, Nat.reduceBEq, Nat.reduceBNe, Int.reduceNeg, Int.reduceAdd, Int.reduceSub, Int.reduceToNat, nilTest, shiftH, Blk.ren, V.ren, renL, initV, frameH, putL, frρ, dI, dW]
    rcases idx_cases (fun x => x.1 == who) S with ⟨h1, h2⟩ | ⟨i, x, h1, h2, h3, _⟩
    · rw [h1, if_neg (show ¬ ((0 : Int) ≤ -1) by decide)]
      have hm1 : (-1 : Int) < 0 := by decide
      simp (maxSteps := 2000000) -implicitDefEqProofs only [zz, zE, evop, ev, ofVal, tget, tput, ok, V.isUndef, intBin, guardOf, initT, Ch.on, calleeOf, withArgs, told, xport, xports, tids, tidss, hget, hput, Blk.ice, freeze, V.cells, D.cells, V.isAgg, V.one, V.clo, clos, V.toD, loadD, structAt, eqCells, D.scalarEq, sliceOf, partsD, partsV, bound, isPtr, Blk.width, elems, lenOf, splice, D.over, resOf, resV, resVs, ↓reduceIte, reduceCtorEq, ↓reduceDIte, Nat.reduceLT, Nat.reduceEqDiff, Nat.reduceAdd, Nat.reduceSub, Nat.reduceMul, Nat.reduceLeDiff, Nat.reduceBEq, Nat.reduceBNe, Int.reduceNeg, Int.reduceAdd, Int.reduceSub, Int.reduceToNat, nilTest, shiftH, Blk.ren, V.ren, renL, initV, frameH, putL, frρ, dI, dW, hm1, hs8, ht8, ht9, slots_one, hsl, List.length_cons]
      simp only [xports_slots' w (show 8 < 36 by decide) hs, xports_slots' w (show 8 < 37 by decide) hs, xports_slots' w (show 8 < 38 by decide) hs]
    · rw [h1, if_pos (show (0 : Int) ≤ i by omega)]
      have hn0 : ¬ ((i : Int) < 0) := by omega
      have hi := (List.getElem?_eq_some_iff.1 h2).1
      have hg := who_gone hu h2 h3
      have hof := c_r17_Of w.now (S.take i ++ S.drop (i + 1)) (by simp; omega) (fun y hy => by
        rcases List.mem_append.1 hy with g | g
        · exact h0 y (List.mem_of_mem_take g)
        · exact h0 y (List.mem_of_mem_drop g))
      rw [hg] at hof
      have hw : IntKind.i64.wrap ((i : Int) + 1) = ((i + 1 : Nat) : Int) := by rw [wrap_in (by omega)]; omega
      simp (maxSteps := 2000000) -implicitDefEqProofs only [zz, zE, evop, ev, ofVal, tget, tput, ok, V.isUndef, intBin, guardOf, initT, Ch.on, calleeOf, withArgs, told, xport, xports, tids, tidss, hget, hput, Blk.ice, freeze, V.cells, D.cells, V.isAgg, V.one, V.clo, clos, V.toD, loadD, structAt, eqCells, D.scalarEq, sliceOf, partsD, partsV, bound, isPtr, Blk.width, elems, lenOf, splice, D.over, resOf, resV, resVs, ↓reduceIte, reduceCtorEq, ↓reduceDIte, Nat.reduceLT, Nat.reduceEqDiff, Nat.reduceAdd, Nat.reduceSub, Nat.reduceMul, Nat.reduceLeDiff, Nat.reduceBEq, Nat.reduceBNe, Int.reduceNeg, Int.reduceAdd, Int.reduceSub, Int.reduceToNat, nilTest, shiftH, Blk.ren, V.ren, renL, initV, frameH, putL, frρ, dI, dW, hn0, hs8, ht8, ht9, Int.natCast_nonneg, List.drop_zero]
      have hi0 : ((i : Int) - 0).toNat = i := by omega
      have hil2 : ((S.take i).map dW).length = i := by simp; omega
      rw [hi0, ← List.map_take, hil2]
      refine ⟨⟨by omega, by omega, two_T S⟩, ⟨by omega, okEl_T _⟩, ?_⟩
      have hd : List.take ((S.length : Int) - ((i + 1 : Nat) : Int)).toNat (List.drop (i + 1) (S.map dW)) = (S.drop (i + 1)).map dW := by
        rw [List.take_of_length_le (by simp; omega), List.map_drop]
      have ht : List.take i ((S.take i).map dW) = (S.take i).map dW := List.take_of_length_le (by simp; omega)
      have hj : (S.take i).map dW ++ (S.drop (i + 1)).map dW = (S.filter fun y => !(y.1 == who)).map dW := by rw [← hg, List.map_append]
      have hn : i + (S.drop (i + 1)).length = (S.filter fun y => !(y.1 == who)).length := by
        have := congrArg List.length hj
        simp only [List.length_append, List.length_map] at this ⊢
        rw [← this, List.length_take]; omega
      have hfl : (S.filter fun y => !(y.1 == who)).length ≤ S.length := List.length_filter_le _ _
      have hs2 : (ofW w.now (S.filter fun y => !(y.1 == who))).slots.length = 8 := by simp [ofW]
      revert hs2 hfl hof hj hn
      generalize S.filter (fun y => !(y.1 == who)) = F
      intro hof hj hn hfl hs2
      refine wdraw_weak (T' := [(2, .d (.imm (.agg (.int .i64 w.now :: w.slots.map fun l => .vec (l.map dW))) 0)), (4, .ptr 1 0 0), (9, .own 2 0 i), (7, .d (.vec (S.map dW))), (8, .d (.int .i64 i))]) (Weak.sealed [0] ?_) [⟨[], false, [28, 29, 30, 31, 32, 33, 34, 35], [], true⟩, ⟨[0], false, [29, 30, 31, 32, 33, 34, 35], [], true⟩, ⟨[], false, [28, 29, 31, 32, 33, 34], [0, 1], false⟩, ⟨[], false, [28, 29, 30, 32, 33], [0, 1, 2], false⟩, ⟨[], false, [28, 29, 30, 31], [0, 1, 2, 3], false⟩, ⟨[4], false, [28, 29, 30, 31], [0, 1, 2, 3], false⟩, ⟨[3, 4, 5], false, [28, 29, 30], [0, 1, 2], false⟩, ⟨[2, 3, 4, 5, 6], true, [28, 29], [], false⟩, ⟨[0, 1, 2, 3, 4, 5, 6, 7], true, [], [], false⟩, ⟨[0, 1, 2, 3, 4, 5, 6, 7, 8], true, [], [], false⟩, ⟨[0, 1, 2, 3, 4, 5, 6, 7, 8, 9], true, [], [], false⟩] (by decide) ?_
      · have hse := @seal_wh [Blk.box false (V.d (D.int .i64 w.now) :: slotsV w), Blk.box false [V.d (D.int .i64 0), V.nils, V.nils, V.nils, V.nils, V.nils, V.nils, V.nils, V.nils], Blk.dat false 2 ((S.take i).map dW)] w hs rfl
        intro q hq
        simp only [List.mem_cons, List.not_mem_nil, or_false] at hq
        rcases hq with rfl | rfl | rfl | rfl | rfl
        · exact hse.symm
        · rfl
        · rfl
        · rfl
        · rfl
      have hsh : sealH [Blk.box false (V.d (D.int .i64 w.now) :: List.map V.d (List.map (fun l => D.vec (List.map dW l)) w.slots)), Blk.box false [V.d (D.int .i64 0), V.nils, V.nils, V.nils, V.nils, V.nils, V.nils, V.nils, V.nils], Blk.dat false 2 ((S.take i).map dW)] [0] = [Blk.box true (V.d (D.int .i64 w.now) :: slotsV w), Blk.box false [V.d (D.int .i64 0), .d (.vec []), .d (.vec []), .d (.vec []), .d (.vec []), .d (.vec []), .d (.vec []), .d (.vec []), .d (.vec [])], Blk.dat false 2 ((S.take i).map dW)] := by
        have h1 : ∀ H, (V.d (.int .i64 w.now) :: List.map V.d (List.map (fun l => D.vec (List.map dW l)) w.slots)).map (sealF H [0]) = V.d (.int .i64 w.now) :: slotsV w := fun H => by
          rw [List.map_cons]
          have := seal_slots (H := H) (ids := [0]) w
          unfold slotsV at this
          rw [this]; rfl
        have h2 : ∀ (X Y : List V) (Z : List D), sealH [.box false X, .box false Y, .dat false 2 Z] [0] = [.box true (X.map (sealF [.box false X, .box false Y, .dat false 2 Z] [0])), .box false (Y.map (sealF [.box false X, .box false Y, .dat false 2 Z] [0])), .dat false 2 Z] := fun _ _ _ => rfl
        rw [h2, h1]; rfl
      rw [hsh]
      simp (maxSteps := 2000000) -implicitDefEqProofs only [zz, zE, evop, ev, ofVal, tget, tput, ok, V.isUndef, intBin, guardOf, initT, Ch.on, calleeOf, withArgs, told, xport, xports, tids, tidss, hget, hput, Blk.ice, freeze, V.cells, D.cells, V.isAgg, V.one, V.clo, clos, V.toD, loadD, structAt, eqCells, D.scalarEq, sliceOf, partsD, partsV, bound, isPtr, Blk.width, elems, lenOf, splice, D.over, resOf, resV, resVs, ↓reduceIte, reduceCtorEq, ↓reduceDIte, Nat.reduceLT, Nat.reduceEqDiff, Nat.reduceAdd, Nat.reduceSub, Nat.reduceMul, Nat.reduceLeDiff, Nat.reduceBEq, Nat.reduceBNe, Int.reduceNeg, Int.reduceAdd, Int.reduceSub, Int.reduceToNat, nilTest, shiftH, Blk.ren, V.ren, renL, initV, frameH, putL, frρ, dI, dW, hs8, ht8, ht9, hw, Int.natCast_nonneg, List.drop_zero, hd, ht, hj, hn]
      refine ⟨⟨by omega, by omega, two_T S⟩, ⟨by omega, okEl_T _⟩, ?_⟩
      refine acall_ice (ds := [.int .i64 w.now, .vec (F.map dW)]) (by simp only [xports, xport, hget, List.drop_zero, tk_all]) hof ?_
      simp (maxSteps := 2000000) -implicitDefEqProofs only [zz, zE, evop, ev, ofVal, tget, tput, ok, V.isUndef, intBin, guardOf, initT, Ch.on, calleeOf, withArgs, told, xport, xports, tids, tidss, hget, hput, Blk.ice, freeze, V.cells, D.cells, V.isAgg, V.one, V.clo, clos, V.toD, loadD, structAt, eqCells, D.scalarEq, sliceOf, partsD, partsV, bound, isPtr, Blk.width, elems, lenOf, splice, D.over, resOf, resV, resVs, ↓reduceIte, reduceCtorEq, ↓reduceDIte, Nat.reduceLT, Nat.reduceEqDiff, Nat.reduceAdd, Nat.reduceSub, Nat.reduceMul, Nat.reduceLeDiff, Nat.reduceBEq, Nat.reduceBNe, Int.reduceNeg, Int.reduceAdd, Int.reduceSub, Int.reduceToNat, nilTest, shiftH, Blk.ren, V.ren, renL, initV, frameH, putL, frρ, dI, dW]
      revert hs2
      generalize (ofW w.now F) = w2
      intro hs2
      have hsl2 : (slotsV w2).length = 8 := by simp [slotsV, hs2]
      have ht2 : List.take 8 (slotsV w2) = slotsV w2 := List.take_of_length_le (by omega)
      have ht3 : List.take 8 (List.map V.d (List.map (fun l => D.vec (List.map dW l)) w2.slots)) = slotsV w2 := List.take_of_length_le (by simp [hs2])
      have hs28 : 8 ≤ w2.slots.length := by omega
      unfold dWh
      have hm2 : List.map V.d (List.map (fun l => D.vec (List.map dW l)) w2.slots) = slotsV w2 := rfl
      have hdr : List.drop 8 [V.d (D.vec []), V.d (D.vec []), V.d (D.vec []), V.d (D.vec []), V.d (D.vec []), V.d (D.vec []), V.d (D.vec []), V.d (D.vec [])] = [] := rfl
      simp (maxSteps := 2000000) -implicitDefEqProofs only [zz, zE, evop, ev, ofVal, tget, tput, ok, V.isUndef, intBin, guardOf, initT, Ch.on, calleeOf, withArgs, told, xport, xports, tids, tidss, hget, hput, Blk.ice, freeze, V.cells, D.cells, V.isAgg, V.one, V.clo, clos, V.toD, loadD, structAt, eqCells, D.scalarEq, sliceOf, partsD, partsV, bound, isPtr, Blk.width, elems, lenOf, splice, D.over, resOf, resV, resVs, ↓reduceIte, reduceCtorEq, ↓reduceDIte, Nat.reduceLT, Nat.reduceEqDiff, Nat.reduceAdd, Nat.reduceSub, Nat.reduceMul, Nat.reduceLeDiff, Nat.reduceBEq, Nat.reduceBNe, Int.reduceNeg, Int.reduceAdd, Int.reduceSub, Int.reduceToNat, nilTest, shiftH, Blk.ren, V.ren, renL, initV, frameH, putL, frρ, dI, dW, tidss_slots, tids, tidss, AM.freeze, hs2, hm2, hdr, slots_one, hsl2, ht2, List.append_nil, List.length_cons]
      simp only [xports_slots' w2 (show 8 < 36 by decide) hs2, xports_slots' w2 (show 8 < 37 by decide) hs2, xports_slots' w2 (show 8 < 38 by decide) hs2]
end Go.Proofs.Ytaejlmengfahnaa.AM

set_option linter.all false
set_option maxRecDepth 100000
set_option maxHeartbeats 8000000
namespace Go.Proofs.Ytaejlmengfahnaa.AM
open Go Go.RowKit

theorem srt_le {S : List (Int × Int)} (h : Srt S) {i j : Nat} {x y : Int × Int} (hij : i ≤ j) (hx : S[i]? = some x) (hy : S[j]? = some y) : x.2 ≤ y.2 := by
  rcases Nat.lt_or_ge i j with g | g
  · have := ltI_iff.1 ((srt_at h hx hy).2 g); omega
  · obtain rfl : i = j := by omega
    rw [hx] at hy; cases hy; exact Int.le_refl _
theorem due_take {S : List (Int × Int)} {a : Int} {i : Nat} (hs : Srt S) (h1 : ∀ j y, j < i → S[j]? = some y → y.2 ≤ a) (h2 : ∀ x, S[i]? = some x → ¬ x.2 ≤ a) :
    S.take i = S.filter (fun x => decide (x.2 ≤ a)) ∧ S.drop i = S.filter (fun x => !decide (x.2 ≤ a)) := by
  have e1 : ∀ x ∈ S.take i, x.2 ≤ a := fun x hx => by
    obtain ⟨j, hj, rfl⟩ := List.getElem_of_mem hx
    rw [List.getElem_take]
    simp at hj
    exact h1 j _ (by omega) (List.getElem?_eq_getElem (by omega))
  have e2 : ∀ x ∈ S.drop i, ¬ x.2 ≤ a := fun x hx hle => by
    obtain ⟨j, hj, rfl⟩ := List.getElem_of_mem hx
    rw [List.getElem_drop] at hle
    simp at hj
    have hi : S[i]? = some S[i] := List.getElem?_eq_getElem (by omega)
    have := srt_le hs (Nat.le_add_right i j) hi (List.getElem?_eq_getElem (show i + j < S.length by omega))
    exact h2 _ hi (by omega)
  constructor
  · conv => rhs; rw [← List.take_append_drop i S]
    rw [List.filter_append, List.filter_eq_self.2 (fun x hx => by simpa using e1 x hx), List.filter_eq_nil_iff.2 (fun x hx => by simpa using e2 x hx), List.append_nil]
  · conv => rhs; rw [← List.take_append_drop i S]
    rw [List.filter_append, List.filter_eq_nil_iff.2 (fun x hx => by simpa using e1 x hx), List.filter_eq_self.2 (fun x hx => by simpa using e2 x hx), List.nil_append]

theorem c_r17_Turn (w : Wh) (k : Int) (hs : w.slots.length = 8) (hl : ∀ l ∈ w.slots, l.length ≤ 1000000) : CSpec Try.prog 17 [dWh w, .int .i64 k] (.tuple [dWh (turnW w k).1, .vec ((turnW w k).2.1.map dW), .int .i64 (turnW w k).2.2]) := by
  have hr := c_r17_Right w hs hl
  have hta := c_r04_After w.now k
  have hs8 : 8 ≤ w.slots.length := by omega
  have hsl : (slotsV w).length = 8 := by simp [slotsV, hs]
  have ht9 : List.take 8 (slotsV w) = slotsV w := List.take_of_length_le (by omega)
  have ht8 : List.take 8 (List.map V.d (List.map (fun l => D.vec (List.map dW l)) w.slots)) = slotsV w := List.take_of_length_le (by simp [hs])
  refine CSpec.of_awp envOf_ok hmix Try.func17 rfl (fun args w => Try.call17 args w) (by simp [Try.f17]) ?_
  simp only [Try.f17]
  simp (maxSteps := 2000000) -implicitDefEqProofs only [zz, zE, evop, ev, ofVal, tget, tput, ok, V.isUndef, intBin, guardOf, initT, Ch.on, calleeOf, withArgs, told, xport, xports, tids, tidss, hget, hput, Blk.ice, freeze, V.cells, D.cells, V.isAgg, V.one, V.clo, clos, V.toD, loadD, structAt, eqCells, D.scalarEq, sliceOf, partsD, partsV, bound, isPtr, Blk.width, elems, lenOf, splice, D.over, resOf, resV, resVs, ↓reduceIte, reduceCtorEq, ↓reduceDIte, Nat.reduceLT, Nat.reduceEqDiff, Nat.reduceAdd, Nat.reduceSub, Nat.reduceMul, Nat.reduceLeDiff, Nat.reduceBEq, Nat.reduceBNe, Int.reduceNeg, Int.reduceAdd, Int.reduceSub, Int.reduceToNat, nilTest, shiftH, Blk.ren, V.ren, renL, initV, frameH, putL, frρ, dI, dW]
  unfold dWh
  try simp (maxSteps := 2000000) -implicitDefEqProofs only [zz, zE, evop, ev, ofVal, tget, tput, ok, V.isUndef, intBin, guardOf, initT, Ch.on, calleeOf, withArgs, told, xport, xports, tids, tidss, hget, hput, Blk.ice, freeze, V.cells, D.cells, V.isAgg, V.one, V.clo, clos, V.toD, loadD, structAt, eqCells, D.scalarEq, sliceOf, partsD, partsV, bound, isPtr, Blk.width, elems, lenOf, splice, D.over, resOf, resV, resVs, ↓reduceIte, reduceCtorEq, ↓reduceDIte, Nat.reduceLT, Nat.reduceEqDiff, Nat.reduceAdd, Nat.reduceSub, Nat.reduceMul, Nat.reduceLeDiff, Nat.reduceBEq, Nat.reduceBNe, Int.reduceNeg, Int.reduceAdd, Int.reduceSub, Int.reduceToNat, nilTest, shiftH, Blk.ren, V.ren, renL, initV, frameH, putL, frρ, dI, dW, hs8, ht8]
  refine acall_flat (ds := [dWh w]) (by simp only [xports, xport_wh w hs]) hr rfl ?_
  cases h : rightB w with
  | false =>
    have e : turnW w k = (w, [], 1) := by simp [turnW, h]
    rw [e]
    simp (maxSteps := 2000000) -implicitDefEqProofs only [zz, zE, evop, ev, ofVal, tget, tput, ok, V.isUndef, intBin, guardOf, initT, Ch.on, calleeOf, withArgs, told, xport, xports, tids, tidss, hget, hput, Blk.ice, freeze, V.cells, D.cells, V.isAgg, V.one, V.clo, clos, V.toD, loadD, structAt, eqCells, D.scalarEq, sliceOf, partsD, partsV, bound, isPtr, Blk.width, elems, lenOf, splice, D.over, resOf, resV, resVs, ↓reduceIte, reduceCtorEq, ↓reduceDIte, Nat.reduceLT, Nat.reduceEqDiff, Nat.reduceAdd, Nat.reduceSub, Nat.reduceMul, Nat.reduceLeDiff, Nat.reduceBEq, Nat.reduceBNe, Int.reduceNeg, Int.reduceAdd, Int.reduceSub, Int.reduceToNat, nilTest, shiftH, Blk.ren, V.ren, renL, initV, frameH, putL, frρ, dI, dW, hs8, ht8, ht9, slots_one, hsl, List.length_cons]
    simp only [xports_slots' w (show 8 < 35 by decide) hs, xports_slots' w (show 8 < 36 by decide) hs, xports_slots' w (show 8 < 37 by decide) hs, xports_slots' w (show 8 < 38 by decide) hs]
  | true =>
    have hR := (rightB_iff hs).1 h
    have hit := c_r17_Items w hR
    have hf := hR.few
    have hil := itemsW_len w
    have hS := hR.sorted
    have e : turnW w k = if (tickAfter w.now k).2 = 0 then (ofW (tickAfter w.now k).1 ((itemsW w).filter fun x => !decide (x.2 ≤ (tickAfter w.now k).1)), (itemsW w).filter (fun x => decide (x.2 ≤ (tickAfter w.now k).1)), 0) else (w, [], (tickAfter w.now k).2) := by
      simp only [turnW, h, if_true, sieveW_of hR]
    rw [e]
    have h0 : ∀ x ∈ itemsW w, 0 ≤ x.2 := fun x hx => (hR.item hx).2.2.2
    clear e h
    revert hit hil hS h0
    generalize itemsW w = S
    intro hit hil hS h0
    simp (maxSteps := 2000000) -implicitDefEqProofs only [zz, zE, evop, ev, ofVal, tget, tput, ok, V.isUndef, intBin, guardOf, initT, Ch.on, calleeOf, withArgs, told, xport, xports, tids, tidss, hget, hput, Blk.ice, freeze, V.cells, D.cells, V.isAgg, V.one, V.clo, clos, V.toD, loadD, structAt, eqCells, D.scalarEq, sliceOf, partsD, partsV, bound, isPtr, Blk.width, elems, lenOf, splice, D.over, resOf, resV, resVs, ↓reduceIte, reduceCtorEq, ↓reduceDIte, Nat.reduceLT, Nat.reduceEqDiff, Nat.reduceAdd, Nat.reduceSub, Nat.reduceMul, Nat.reduceLeDiff, Nat.reduceBEq, Nat.reduceBNe, Int.reduceNeg, Int.reduceAdd, Int.reduceSub, Int.reduceToNat, nilTest, shiftH, Blk.ren, V.ren, renL, initV, frameH, putL, frρ, dI, dW, hs8, ht8, ht9]
    first | refine acall_flat' (hta) rfl ?_ | refine dcall_flat' (hta) rfl ?_ | refine acall_ice' (hta) ?_ | refine dcall_still' (hta) rfl ?_
    try simp (maxSteps := 2000000) -implicitDefEqProofs only [zz, zE, evop, ev, ofVal, tget, tput, ok, V.isUndef, intBin, guardOf, initT, Ch.on, calleeOf, withArgs, told, xport, xports, tids, tidss, hget, hput, Blk.ice, freeze, V.cells, D.cells, V.isAgg, V.one, V.clo, clos, V.toD, loadD, structAt, eqCells, D.scalarEq, sliceOf, partsD, partsV, bound, isPtr, Blk.width, elems, lenOf, splice, D.over, resOf, resV, resVs, ↓reduceIte, reduceCtorEq, ↓reduceDIte, Nat.reduceLT, Nat.reduceEqDiff, Nat.reduceAdd, Nat.reduceSub, Nat.reduceMul, Nat.reduceLeDiff, Nat.reduceBEq, Nat.reduceBNe, Int.reduceNeg, Int.reduceAdd, Int.reduceSub, Int.reduceToNat, nilTest, shiftH, Blk.ren, V.ren, renL, initV, frameH, putL, frρ, dI, dW]
    generalize tickAfter w.now k = r
    obtain ⟨a, er⟩ := r
    by_cases h3 : er = 0
    · subst h3
      simp (maxSteps := 2000000) -implicitDefEqProofs only [zz, zE, evop, ev, ofVal, tget, tput, ok, V.isUndef, intBin, guardOf, initT, Ch.on, calleeOf, withArgs, told, xport, xports, tids, tidss, hget, hput, Blk.ice, freeze, V.cells, D.cells, V.isAgg, V.one, V.clo, clos, V.toD, loadD, structAt, eqCells, D.scalarEq, sliceOf, partsD, partsV, bound, isPtr, Blk.width, elems, lenOf, splice, D.over, resOf, resV, resVs, ↓reduceIte, reduceCtorEq, ↓reduceDIte, Nat.reduceLT, Nat.reduceEqDiff, Nat.reduceAdd, Nat.reduceSub, Nat.reduceMul, Nat.reduceLeDiff, Nat.reduceBEq, Nat.reduceBNe, Int.reduceNeg, Int.reduceAdd, Int.reduceSub, Int.reduceToNat, nilTest, shiftH, Blk.ren, V.ren, renL, initV, frameH, putL, frρ, dI, dW, hs8, ht8, ht9]
      refine acall_ice (ds := [dWh w]) (by simp only [xports, xport_wh w hs]) hit ?_
      simp (maxSteps := 2000000) -implicitDefEqProofs only [zz, zE, evop, ev, ofVal, tget, tput, ok, V.isUndef, intBin, guardOf, initT, Ch.on, calleeOf, withArgs, told, xport, xports, tids, tidss, hget, hput, Blk.ice, freeze, V.cells, D.cells, V.isAgg, V.one, V.clo, clos, V.toD, loadD, structAt, eqCells, D.scalarEq, sliceOf, partsD, partsV, bound, isPtr, Blk.width, elems, lenOf, splice, D.over, resOf, resV, resVs, ↓reduceIte, reduceCtorEq, ↓reduceDIte, Nat.reduceLT, Nat.reduceEqDiff, Nat.reduceAdd, Nat.reduceSub, Nat.reduceMul, Nat.reduceLeDiff, Nat.reduceBEq, Nat.reduceBNe, Int.reduceNeg, Int.reduceAdd, Int.reduceSub, Int.reduceToNat, nilTest, shiftH, Blk.ren, V.ren, renL, initV, frameH, putL, frρ, dI, dW, hs8, ht8, ht9, tidss_slots, AM.freeze]
      have hbw : Blk.box false (V.d (D.int IntKind.i64 w.now) :: List.map V.d (List.map (fun l => D.vec (List.map dW l)) w.slots)) = bWh w := rfl
      rw [hbw]
      refine wloop_count S.length (fun i => [(11, .d (.int .i64 i)), (10, .d (.vec (S.map dW))), (8, .d (.int .i64 a)), (4, .ptr 1 0 0), (6, .d (.int .i64 0)), (5, .nils)]) (fun i => [bWh w, .box false [V.d (D.int IntKind.i64 0), V.nils, V.nils, V.nils, V.nils, V.nils, V.nils, V.nils, V.nils]]) (fun i => ∀ j y, j < i → S[j]? = some y → y.2 ≤ a) (fun j y hj => by omega) (Weak.sub (by simp [tget])) (fun i hi hI => ?_) (fun hI => ?_)
      · have hx : S[i]? = some S[i] := List.getElem?_eq_getElem hi
        generalize S[i] = x at hx
        have h' : ((i : Int) < (S.length : Int)) := by omega
        have hwi : IntKind.i64.wrap ((i : Int) + 1) = ((i + 1 : Nat) : Int) := by rw [wrap_in (by omega)]; omega
        by_cases hle : x.2 ≤ a
        · simp (maxSteps := 2000000) -implicitDefEqProofs only [zz, zE, evop, ev, ofVal, tget, tput, ok, V.isUndef, intBin, guardOf, initT, Ch.on, calleeOf, withArgs, told, xport, xports, tids, tidss, hget, hput, Blk.ice, freeze, V.cells, D.cells, V.isAgg, V.one, V.clo, clos, V.toD, loadD, structAt, eqCells, D.scalarEq, sliceOf, partsD, partsV, bound, isPtr, Blk.width, elems, lenOf, splice, D.over, resOf, resV, resVs, ↓reduceIte, reduceCtorEq, ↓reduceDIte, Nat.reduceLT, Nat.reduceEqDiff, Nat.reduceAdd, Nat.reduceSub, Nat.reduceMul, Nat.reduceLeDiff, Nat.reduceBEq, Nat.reduceBNe, Int.reduceNeg, Int.reduceAdd, Int.reduceSub, Int.reduceToNat, nilTest, shiftH, Blk.ren, V.ren, renL, initV, frameH, putL, frρ, dI, dW, h', List.getElem?_map, hx, Option.map_some, Int.natCast_nonneg, hwi, hle]
          refine ⟨fun j y hj hy => ?_, Weak.sub (by simp [tget])⟩
          rcases Nat.lt_or_ge j i with g | g
          · exact hI j y g hy
          · obtain rfl : j = i := by omega
            rw [hx] at hy; cases hy; exact hle
        · simp (maxSteps := 2000000) -implicitDefEqProofs only [zz, zE, evop, ev, ofVal, tget, tput, ok, V.isUndef, intBin, guardOf, initT, Ch.on, calleeOf, withArgs, told, xport, xports, tids, tidss, hget, hput, Blk.ice, freeze, V.cells, D.cells, V.isAgg, V.one, V.clo, clos, V.toD, loadD, structAt, eqCells, D.scalarEq, sliceOf, partsD, partsV, bound, isPtr, Blk.width, elems, lenOf, splice, D.over, resOf, resV, resVs, ↓reduceIte, reduceCtorEq, ↓reduceDIte, Nat.reduceLT, Nat.reduceEqDiff, Nat.reduceAdd, Nat.reduceSub, Nat.reduceMul, Nat.reduceLeDiff, Nat.reduceBEq, Nat.reduceBNe, Int.reduceNeg, Int.reduceAdd, Int.reduceSub, Int.reduceToNat, nilTest, shiftH, Blk.ren, V.ren, renL, initV, frameH, putL, frρ, dI, dW, h', List.getElem?_map, hx, Option.map_some, Int.natCast_nonneg, hwi, hle]
          obtain ⟨d1, d2⟩ := due_take hS hI (fun y hy => by rw [hx] at hy; cases hy; exact hle)
          have hi2 : i ≤ S.length := by omega
          clear h' hx hwi hi hle hI
          have hof := c_r17_Of a (S.drop i) (by simp; omega) (fun y hy => h0 y (List.mem_of_mem_drop hy))
          have hs2 : (ofW a (S.drop i)).slots.length = 8 := by simp [ofW]
          rw [← d1, ← d2]
          revert hof hs2
          generalize ofW a (S.drop i) = w2
          intro hof hs2
          have hi0 : ((i : Int) - 0).toNat = i := by omega
          have hd : List.take ((S.length : Int) - (i : Int)).toNat (List.drop i (S.map dW)) = (S.drop i).map dW := by
            rw [List.take_of_length_le (by simp), List.map_drop]
          have ht : List.take i (S.map dW) = (S.take i).map dW := by rw [List.map_take]
          refine wdraw_weak (T' := [(11, .d (.int .i64 i)), (10, .d (.vec (S.map dW))), (8, .d (.int .i64 a)), (4, .ptr 1 0 0)]) (Weak.sub (by simp [tget])) [⟨[], false, [46, 47, 48, 50, 51, 52], [], false⟩, ⟨[], false, [45, 47, 50, 51, 52], [0], false⟩, ⟨[], false, [45, 46, 50, 51, 52], [0, 1], false⟩, ⟨[1, 2], false, [45, 50, 51, 52], [0], false⟩, ⟨[0, 1, 2, 3], false, [50, 51, 52], [], false⟩, ⟨[], false, [45, 46, 47, 48, 49, 50, 51, 52], [0, 1, 2, 3, 4], true⟩, ⟨[], false, [45, 46, 47, 48, 49, 50, 51, 52], [0, 1, 2, 3, 4, 5], true⟩, ⟨[5, 6], false, [45, 46, 47, 48, 49, 52], [0, 1, 2, 3, 4], true⟩, ⟨[0, 1, 2, 3, 4], true, [50, 51, 52], [], false⟩, ⟨[0, 1, 2, 3, 4, 5, 6, 7, 8], true, [], [], false⟩, ⟨[0, 1, 2, 3, 4, 5, 6, 7, 8, 9], true, [], [], false⟩] (by decide) ?_
          simp (maxSteps := 2000000) -implicitDefEqProofs only [zz, zE, evop, ev, ofVal, tget, tput, ok, V.isUndef, intBin, guardOf, initT, Ch.on, calleeOf, withArgs, told, xport, xports, tids, tidss, hget, hput, Blk.ice, freeze, V.cells, D.cells, V.isAgg, V.one, V.clo, clos, V.toD, loadD, structAt, eqCells, D.scalarEq, sliceOf, partsD, partsV, bound, isPtr, Blk.width, elems, lenOf, splice, D.over, resOf, resV, resVs, ↓reduceIte, reduceCtorEq, ↓reduceDIte, Nat.reduceLT, Nat.reduceEqDiff, Nat.reduceAdd, Nat.reduceSub, Nat.reduceMul, Nat.reduceLeDiff, Nat.reduceBEq, Nat.reduceBNe, Int.reduceNeg, Int.reduceAdd, Int.reduceSub, Int.reduceToNat, nilTest, shiftH, Blk.ren, V.ren, renL, initV, frameH, putL, frρ, dI, dW, Int.natCast_nonneg, hi0, hd, ht, List.drop_zero]
          refine ⟨⟨by omega, by omega, two_T S⟩, ?_⟩
          refine dcall_still (ds := [.int .i64 a, .vec ((S.drop i).map dW)]) rfl hof rfl ?_
          unfold dWh
          have hsl2 : (slotsV w2).length = 8 := by simp [slotsV, hs2]
          have ht2 : List.take 8 (slotsV w2) = slotsV w2 := List.take_of_length_le (by omega)
          have hm2 : List.map V.d (List.map (fun l => D.vec (List.map dW l)) w2.slots) = slotsV w2 := rfl
          have hdr : List.drop 8 [V.nils, V.nils, V.nils, V.nils, V.nils, V.nils, V.nils, V.nils] = [] := rfl
          simp (maxSteps := 2000000) -implicitDefEqProofs only [zz, zE, evop, ev, ofVal, tget, tput, ok, V.isUndef, intBin, guardOf, initT, Ch.on, calleeOf, withArgs, told, xport, xports, tids, tidss, hget, hput, Blk.ice, freeze, V.cells, D.cells, V.isAgg, V.one, V.clo, clos, V.toD, loadD, structAt, eqCells, D.scalarEq, sliceOf, partsD, partsV, bound, isPtr, Blk.width, elems, lenOf, splice, D.over, resOf, resV, resVs, ↓reduceIte, reduceCtorEq, ↓reduceDIte, Nat.reduceLT, Nat.reduceEqDiff, Nat.reduceAdd, Nat.reduceSub, Nat.reduceMul, Nat.reduceLeDiff, Nat.reduceBEq, Nat.reduceBNe, Int.reduceNeg, Int.reduceAdd, Int.reduceSub, Int.reduceToNat, nilTest, shiftH, Blk.ren, V.ren, renL, initV, frameH, putL, frρ, dI, dW, tidss_slots, tids, tidss, AM.freeze, hs2, hm2, hdr, slots_one, hsl2, ht2, List.append_nil, List.length_cons]
          refine ⟨⟨by omega, by omega, two_T S⟩, ?_⟩
          simp only [xports_slots' w2 (show 8 < 36 by decide) hs2, xports_slots' w2 (show 8 < 37 by decide) hs2, xports_slots' w2 (show 8 < 38 by decide) hs2]
      · have h' : ¬ ((S.length : Int) < (S.length : Int)) := by omega
        obtain ⟨d1, d2⟩ := due_take hS hI (fun y hy => by rw [List.getElem?_eq_none (by omega)] at hy; cases hy)
        simp (maxSteps := 2000000) -implicitDefEqProofs only [zz, zE, evop, ev, ofVal, tget, tput, ok, V.isUndef, intBin, guardOf, initT, Ch.on, calleeOf, withArgs, told, xport, xports, tids, tidss, hget, hput, Blk.ice, freeze, V.cells, D.cells, V.isAgg, V.one, V.clo, clos, V.toD, loadD, structAt, eqCells, D.scalarEq, sliceOf, partsD, partsV, bound, isPtr, Blk.width, elems, lenOf, splice, D.over, resOf, resV, resVs, ↓reduceIte, reduceCtorEq, ↓reduceDIte, Nat.reduceLT, Nat.reduceEqDiff, Nat.reduceAdd, Nat.reduceSub, Nat.reduceMul, Nat.reduceLeDiff, Nat.reduceBEq, Nat.reduceBNe, Int.reduceNeg, Int.reduceAdd, Int.reduceSub, Int.reduceToNat, nilTest, shiftH, Blk.ren, V.ren, renL, initV, frameH, putL, frρ, dI, dW, h', Int.natCast_nonneg]
        obtain ⟨i, hi⟩ : ∃ i, i = S.length := ⟨_, rfl⟩
        have hi2 : i ≤ S.length := by omega
        rw [← hi] at d1 d2 ⊢
        have hof := c_r17_Of a (S.drop i) (by simp; omega) (fun y hy => h0 y (List.mem_of_mem_drop hy))
        have hs2 : (ofW a (S.drop i)).slots.length = 8 := by simp [ofW]
        rw [← d1, ← d2]
        revert hof hs2
        generalize ofW a (S.drop i) = w2
        intro hof hs2
        have hi0 : ((i : Int) - 0).toNat = i := by omega
        have hd : List.take ((S.length : Int) - (i : Int)).toNat (List.drop i (S.map dW)) = (S.drop i).map dW := by
          rw [List.take_of_length_le (by simp), List.map_drop]
        have ht : List.take i (S.map dW) = (S.take i).map dW := by rw [List.map_take]
        refine wdraw_weak (T' := [(11, .d (.int .i64 i)), (10, .d (.vec (S.map dW))), (8, .d (.int .i64 a)), (4, .ptr 1 0 0)]) (Weak.sub (by simp [tget])) [⟨[], false, [46, 47, 48, 50, 51, 52], [], false⟩, ⟨[], false, [45, 47, 50, 51, 52], [0], false⟩, ⟨[], false, [45, 46, 50, 51, 52], [0, 1], false⟩, ⟨[1, 2], false, [45, 50, 51, 52], [0], false⟩, ⟨[0, 1, 2, 3], false, [50, 51, 52], [], false⟩, ⟨[], false, [45, 46, 47, 48, 49, 50, 51, 52], [0, 1, 2, 3, 4], true⟩, ⟨[], false, [45, 46, 47, 48, 49, 50, 51, 52], [0, 1, 2, 3, 4, 5], true⟩, ⟨[5, 6], false, [45, 46, 47, 48, 49, 52], [0, 1, 2, 3, 4], true⟩, ⟨[0, 1, 2, 3, 4], true, [50, 51, 52], [], false⟩, ⟨[0, 1, 2, 3, 4, 5, 6, 7, 8], true, [], [], false⟩, ⟨[0, 1, 2, 3, 4, 5, 6, 7, 8, 9], true, [], [], false⟩] (by decide) ?_
        simp (maxSteps := 2000000) -implicitDefEqProofs only [zz, zE, evop, ev, ofVal, tget, tput, ok, V.isUndef, intBin, guardOf, initT, Ch.on, calleeOf, withArgs, told, xport, xports, tids, tidss, hget, hput, Blk.ice, freeze, V.cells, D.cells, V.isAgg, V.one, V.clo, clos, V.toD, loadD, structAt, eqCells, D.scalarEq, sliceOf, partsD, partsV, bound, isPtr, Blk.width, elems, lenOf, splice, D.over, resOf, resV, resVs, ↓reduceIte, reduceCtorEq, ↓reduceDIte, Nat.reduceLT, Nat.reduceEqDiff, Nat.reduceAdd, Nat.reduceSub, Nat.reduceMul, Nat.reduceLeDiff, Nat.reduceBEq, Nat.reduceBNe, Int.reduceNeg, Int.reduceAdd, Int.reduceSub, Int.reduceToNat, nilTest, shiftH, Blk.ren, V.ren, renL, initV, frameH, putL, frρ, dI, dW, Int.natCast_nonneg, hi0, hd, ht, List.drop_zero]
        refine ⟨⟨by omega, by omega, two_T S⟩, ?_⟩
        refine dcall_still (ds := [.int .i64 a, .vec ((S.drop i).map dW)]) rfl hof rfl ?_
        unfold dWh
        have hsl2 : (slotsV w2).length = 8 := by simp [slotsV, hs2]
        have ht2 : List.take 8 (slotsV w2) = slotsV w2 := List.take_of_length_le (by omega)
        have hm2 : List.map V.d (List.map (fun l => D.vec (List.map dW l)) w2.slots) = slotsV w2 := rfl
        have hdr : List.drop 8 [V.nils, V.nils, V.nils, V.nils, V.nils, V.nils, V.nils, V.nils] = [] := rfl
        simp (maxSteps := 2000000) -implicitDefEqProofs only [zz, zE, evop, ev, ofVal, tget, tput, ok, V.isUndef, intBin, guardOf, initT, Ch.on, calleeOf, withArgs, told, xport, xports, tids, tidss, hget, hput, Blk.ice, freeze, V.cells, D.cells, V.isAgg, V.one, V.clo, clos, V.toD, loadD, structAt, eqCells, D.scalarEq, sliceOf, partsD, partsV, bound, isPtr, Blk.width, elems, lenOf, splice, D.over, resOf, resV, resVs, ↓reduceIte, reduceCtorEq, ↓reduceDIte, Nat.reduceLT, Nat.reduceEqDiff, Nat.reduceAdd, Nat.reduceSub, Nat.reduceMul, Nat.reduceLeDiff, Nat.reduceBEq, Nat.reduceBNe, Int.reduceNeg, Int.reduceAdd, Int.reduceSub, Int.reduceToNat, nilTest, shiftH, Blk.ren, V.ren, renL, initV, frameH, putL, frρ, dI, dW, tidss_slots, tids, tidss, AM.freeze, hs2, hm2, hdr, slots_one, hsl2, ht2, List.append_nil, List.length_cons]
        refine ⟨⟨by omega, by omega, two_T S⟩, ?_⟩
        simp only [xports_slots' w2 (show 8 < 36 by decide) hs2, xports_slots' w2 (show 8 < 37 by decide) hs2, xports_slots' w2 (show 8 < 38 by decide) hs2]
    · have h3' : (er == 0) = false := by simpa using h3
      have h3'' : (er != 0) = true := by simpa using h3
      simp (maxSteps := 2000000) -implicitDefEqProofs only [zz, zE, evop, ev, ofVal, tget, tput, ok, V.isUndef, intBin, guardOf, initT, Ch.on, calleeOf, withArgs, told, xport, xports, tids, tidss, hget, hput, Blk.ice, freeze, V.cells, D.cells, V.isAgg, V.one, V.clo, clos, V.toD, loadD, structAt, eqCells, D.scalarEq, sliceOf, partsD, partsV, bound, isPtr, Blk.width, elems, lenOf, splice, D.over, resOf, resV, resVs, ↓reduceIte, reduceCtorEq, ↓reduceDIte, Nat.reduceLT, Nat.reduceEqDiff, Nat.reduceAdd, Nat.reduceSub, Nat.reduceMul, Nat.reduceLeDiff, Nat.reduceBEq, Nat.reduceBNe, Int.reduceNeg, Int.reduceAdd, Int.reduceSub, Int.reduceToNat, nilTest, shiftH, Blk.ren, V.ren, renL, initV, frameH, putL, frρ, dI, dW, hs8, ht8, ht9, h3, h3', h3'', slots_one, hsl, List.length_cons]
      simp only [xports_slots' w (show 8 < 35 by decide) hs, xports_slots' w (show 8 < 36 by decide) hs, xports_slots' w (show 8 < 37 by decide) hs, xports_slots' w (show 8 < 38 by decide) hs]
end Go.Proofs.Ytaejlmengfahnaa.AM

set_option linter.all false
set_option maxRecDepth 100000
set_option maxHeartbeats 8000000
namespace Go.Proofs.Ytaejlmengfahnaa.AM
open Go Go.RowKit

def loI (x : Int × Int) (l : List (Int × Int)) : List (Int × Int) := l.filter fun y => ltI y x
def hiI (x : Int × Int) (l : List (Int × Int)) : List (Int × Int) := l.filter fun y => !ltI y x
theorem loI_len (x : Int × Int) (l : List (Int × Int)) : (loI x l).length ≤ l.length := List.length_filter_le _ _
theorem hiI_len (x : Int × Int) (l : List (Int × Int)) : (hiI x l).length ≤ l.length := List.length_filter_le _ _
theorem loI_snoc (x y : Int × Int) (l : List (Int × Int)) : loI x (l ++ [y]) = if ltI y x = true then loI x l ++ [y] else loI x l := by
  unfold loI
  rw [List.filter_append]
  split <;> (rename_i h; simp [List.filter_cons, h])
theorem hiI_snoc (x y : Int × Int) (l : List (Int × Int)) : hiI x (l ++ [y]) = if ltI y x = true then hiI x l else hiI x l ++ [y] := by
  unfold hiI
  rw [List.filter_append]
  split <;> (rename_i h; simp [List.filter_cons, h])
theorem ins_lh (x : Int × Int) (l : List (Int × Int)) : insI x l = loI x l ++ x :: hiI x l := rfl
def bZ : Blk := .box false [V.d (D.int .i64 0), V.nils, V.nils, V.nils, V.nils, V.nils, V.nils, V.nils, V.nils]

theorem wdraw_wperm {P : Program} {E : Env} {n m : Nat} {H : Heap} {T : Tmps} {QT : Tmps → Heap → Prop} {ops : List Oper} {T' : Tmps} {H' : Heap} (hw : Weak m T H T' H') (rl pl : List Nat) (hk : permOk [] rl pl ops = true) (plan : List PE) (hp : planOk (permOps [] rl pl ops) plan = true) (h : drun P E n (permOps [] rl pl ops) 0 H'.length 0 (permOps [] rl pl ops) plan T' H' QT) : wdraw P E n m ops T H QT :=
  ⟨T', H', hw, T', _, .inr ⟨[], rl, pl, hk, rfl, rfl⟩, plan, hp, h⟩
theorem seal_wh' {H : Heap} {ids : List Nat} (w : Wh) (hs : w.slots.length = 8) (hm : 0 ∈ ids) (h : hget H 0 = .box false (V.d (.int .i64 w.now) :: slotsV w)) : sealF H ids (.ptr 0 0 0) = .d (.imm (dWh w) 0) := by
  have hx : xport H 40 (.ptr 0 0 0) = some (.imm (dWh w) 0) := by
    simp only [xport, h, xports, xports_slots' w (show 8 < 38 by decide) hs, if_true]; rfl
  have ht : tids H 40 (.ptr 0 0 0) = [0] := by
    simp only [tids, h, tidss, tidss_slots]; rfl
  simp only [sealF, hx, ht, hm, if_true]

theorem c_r17_Set (w : Wh) (who k : Int) (hs : w.slots.length = 8) (hl : ∀ l ∈ w.slots, l.length ≤ 1000000) : CSpec Try.prog 13 [dWh w, .int .i64 who, .int .i64 k] (.tuple [dWh (setW w who k).1, .int .i64 (setW w who k).2]) := by
  have hr := c_r17_Right w hs hl
  have hwh := c_r03_Who who
  have hta := c_r04_After w.now k
  have hs8 : 8 ≤ w.slots.length := by omega
  have hsl : (slotsV w).length = 8 := by simp [slotsV, hs]
  have ht9 : List.take 8 (slotsV w) = slotsV w := List.take_of_length_le (by omega)
  have ht8 : List.take 8 (List.map V.d (List.map (fun l => D.vec (List.map dW l)) w.slots)) = slotsV w := List.take_of_length_le (by simp [hs])
  refine CSpec.of_awp envOf_ok hmix Try.func13 rfl (fun args w => Try.call13 args w) (by simp [Try.f13]) ?_
  simp only [Try.f13]
  simp (maxSteps := 2000000) -implicitDefEqProofs only [zz, zE, evop, ev, ofVal, tget, tput, ok, V.isUndef, intBin, guardOf, initT, Ch.on, calleeOf, withArgs, told, xport, xports, tids, tidss, hget, hput, Blk.ice, freeze, V.cells, D.cells, V.isAgg, V.one, V.clo, clos, V.toD, loadD, structAt, eqCells, D.scalarEq, sliceOf, partsD, partsV, bound, isPtr, Blk.width, elems, lenOf, splice, D.over, resOf, resV, resVs, ↓reduceIte, reduceCtorEq, ↓reduceDIte, Nat.reduceLT, Nat.reduceEqDiff, Nat.reduceAdd, Nat.reduceSub, Nat.reduceMul, Nat.reduceLeDiff, Nat.reduceBEq, Nat.reduceBNe, Int.reduceNeg, Int.reduceAdd, Int.reduceSub, Int.reduceToNat, nilTest, shiftH, Blk.ren, V.ren, renL, initV, frameH, putL, frρ, dI, dW]
  unfold dWh
  try simp (maxSteps := 2000000) -implicitDefEqProofs only [zz, zE, evop, ev, ofVal, tget, tput, ok, V.isUndef, intBin, guardOf, initT, Ch.on, calleeOf, withArgs, told, xport, xports, tids, tidss, hget, hput, Blk.ice, freeze, V.cells, D.cells, V.isAgg, V.one, V.clo, clos, V.toD, loadD, structAt, eqCells, D.scalarEq, sliceOf, partsD, partsV, bound, isPtr, Blk.width, elems, lenOf, splice, D.over, resOf, resV, resVs, ↓reduceIte, reduceCtorEq, ↓reduceDIte, Nat.reduceLT, Nat.reduceEqDiff, Nat.reduceAdd, Nat.reduceSub, Nat.reduceMul, Nat.reduceLeDiff, Nat.reduceBEq, Nat.reduceBNe, Int.reduceNeg, Int.reduceAdd, Int.reduceSub, Int.reduceToNat, nilTest, shiftH, Blk.ren, V.ren, renL, initV, frameH, putL, frρ, dI, dW, hs8, ht8]
  refine acall_flat (ds := [dWh w]) (by simp only [xports, xport_wh w hs]) hr rfl ?_
  simp (maxSteps := 2000000) -implicitDefEqProofs only [zz, zE, evop, ev, ofVal, tget, tput, ok, V.isUndef, intBin, guardOf, initT, Ch.on, calleeOf, withArgs, told, xport, xports, tids, tidss, hget, hput, Blk.ice, freeze, V.cells, D.cells, V.isAgg, V.one, V.clo, clos, V.toD, loadD, structAt, eqCells, D.scalarEq, sliceOf, partsD, partsV, bound, isPtr, Blk.width, elems, lenOf, splice, D.over, resOf, resV, resVs, ↓reduceIte, reduceCtorEq, ↓reduceDIte, Nat.reduceLT, Nat.reduceEqDiff, Nat.reduceAdd, Nat.reduceSub, Nat.reduceMul, Nat.reduceLeDiff, Nat.reduceBEq, Nat.reduceBNe, Int.reduceNeg, Int.reduceAdd, Int.reduceSub, Int.reduceToNat, nilTest, shiftH, Blk.ren, V.ren, renL, initV, frameH, putL, frρ, dI, dW]
  first | refine acall_flat' (hwh) rfl ?_ | refine dcall_flat' (hwh) rfl ?_ | refine acall_ice' (hwh) ?_ | refine dcall_still' (hwh) rfl ?_
  try simp (maxSteps := 2000000) -implicitDefEqProofs only [zz, zE, evop, ev, ofVal, tget, tput, ok, V.isUndef, intBin, guardOf, initT, Ch.on, calleeOf, withArgs, told, xport, xports, tids, tidss, hget, hput, Blk.ice, freeze, V.cells, D.cells, V.isAgg, V.one, V.clo, clos, V.toD, loadD, structAt, eqCells, D.scalarEq, sliceOf, partsD, partsV, bound, isPtr, Blk.width, elems, lenOf, splice, D.over, resOf, resV, resVs, ↓reduceIte, reduceCtorEq, ↓reduceDIte, Nat.reduceLT, Nat.reduceEqDiff, Nat.reduceAdd, Nat.reduceSub, Nat.reduceMul, Nat.reduceLeDiff, Nat.reduceBEq, Nat.reduceBNe, Int.reduceNeg, Int.reduceAdd, Int.reduceSub, Int.reduceToNat, nilTest, shiftH, Blk.ren, V.ren, renL, initV, frameH, putL, frρ, dI, dW]
  have bad : (rightB w = false ∨ whB who = false) → setW w who k = (w, 1) := fun h => by
    rcases h with h | h <;> simp [setW, h]
  cases h : rightB w with
  | false =>
    rw [bad (.inl h)]
    simp (maxSteps := 2000000) -implicitDefEqProofs only [zz, zE, evop, ev, ofVal, tget, tput, ok, V.isUndef, intBin, guardOf, initT, Ch.on, calleeOf, withArgs, told, xport, xports, tids, tidss, hget, hput, Blk.ice, freeze, V.cells, D.cells, V.isAgg, V.one, V.clo, clos, V.toD, loadD, structAt, eqCells, D.scalarEq, sliceOf, partsD, partsV, bound, isPtr, Blk.width, elems, lenOf, splice, D.over, resOf, resV, resVs, ↓reduceIte, reduceCtorEq, ↓reduceDIte, Nat.reduceLT, Nat.reduceEqDiff, Nat.reduceAdd, Nat.reduceSub, Nat.reduceMul, Nat.reduceLeDiff, Nat.reduceBEq, Nat.reduceBNe, Int.reduceNeg, Int.reduceAdd, Int.reduceSub, Int.reduceToNat, nilTest, shiftH, Blk.ren, V.ren, renL, initV, frameH, putL, frρ, dI, dW, hs8, ht8, ht9, slots_one, hsl, List.length_cons]
    simp only [xports_slots' w (show 8 < 36 by decide) hs, xports_slots' w (show 8 < 37 by decide) hs, xports_slots' w (show 8 < 38 by decide) hs]
  | true =>
    cases h1 : whB who with
    | false =>
      rw [bad (.inr h1)]
      simp (maxSteps := 2000000) -implicitDefEqProofs only [zz, zE, evop, ev, ofVal, tget, tput, ok, V.isUndef, intBin, guardOf, initT, Ch.on, calleeOf, withArgs, told, xport, xports, tids, tidss, hget, hput, Blk.ice, freeze, V.cells, D.cells, V.isAgg, V.one, V.clo, clos, V.toD, loadD, structAt, eqCells, D.scalarEq, sliceOf, partsD, partsV, bound, isPtr, Blk.width, elems, lenOf, splice, D.over, resOf, resV, resVs, ↓reduceIte, reduceCtorEq, ↓reduceDIte, Nat.reduceLT, Nat.reduceEqDiff, Nat.reduceAdd, Nat.reduceSub, Nat.reduceMul, Nat.reduceLeDiff, Nat.reduceBEq, Nat.reduceBNe, Int.reduceNeg, Int.reduceAdd, Int.reduceSub, Int.reduceToNat, nilTest, shiftH, Blk.ren, V.ren, renL, initV, frameH, putL, frρ, dI, dW, hs8, ht8, ht9, slots_one, hsl, List.length_cons]
      simp only [xports_slots' w (show 8 < 36 by decide) hs, xports_slots' w (show 8 < 37 by decide) hs, xports_slots' w (show 8 < 38 by decide) hs]
    | true =>
    have hR := (rightB_iff hs).1 h
    have hit := c_r17_Items w hR
    have hf := hR.few
    have hil := itemsW_len w
    have ha0 := @after_0 w.now k
    have e : setW w who k = if 0 ≤ idxOf (fun x => x.1 == who) (itemsW w) then (w, 9) else if (tickAfter w.now k).2 = 0 then (ofW w.now (insI (who, (tickAfter w.now k).1) (itemsW w)), 0) else (w, (tickAfter w.now k).2) := by
      simp only [setW, h, h1, and_self, if_true, hasW_idx, decide_eq_true_eq]
      split
      · rfl
      · split
        · rename_i h2
          have := (ha0 h2).2.1
          rw [putW_of hR]
          simp only [tickR, Bool.and_eq_true, decide_eq_true_eq] at this; omega
        · rfl
    have hfi := c_r17_find (itemsW w) who (by omega)
    rw [e]
    have h0 : ∀ x ∈ itemsW w, 0 ≤ x.2 := fun x hx => (hR.item hx).2.2.2
    clear e h h1 bad
    revert hit hil hfi h0
    generalize itemsW w = S
    intro hit hil hfi h0
    simp (maxSteps := 2000000) -implicitDefEqProofs only [zz, zE, evop, ev, ofVal, tget, tput, ok, V.isUndef, intBin, guardOf, initT, Ch.on, calleeOf, withArgs, told, xport, xports, tids, tidss, hget, hput, Blk.ice, freeze, V.cells, D.cells, V.isAgg, V.one, V.clo, clos, V.toD, loadD, structAt, eqCells, D.scalarEq, sliceOf, partsD, partsV, bound, isPtr, Blk.width, elems, lenOf, splice, D.over, resOf, resV, resVs, ↓reduceIte, reduceCtorEq, ↓reduceDIte, Nat.reduceLT, Nat.reduceEqDiff, Nat.reduceAdd, Nat.reduceSub, Nat.reduceMul, Nat.reduceLeDiff, Nat.reduceBEq, Nat.reduceBNe, Int.reduceNeg, Int.reduceAdd, Int.reduceSub, Int.reduceToNat, nilTest, shiftH, Blk.ren, V.ren, renL, initV, frameH, putL, frρ, dI, dW, hs8, ht8, ht9]
    refine acall_ice (ds := [dWh w]) (by simp only [xports, xport_wh w hs]) hit ?_
    simp (maxSteps := 2000000) -implicitDefEqProofs only [zz, zE, evop, ev, ofVal, tget, tput, ok, V.isUndef, intBin, guardOf, initT, Ch.on, calleeOf, withArgs, told, xport, xports, tids, tidss, hget, hput, Blk.ice, freeze, V.cells, D.cells, V.isAgg, V.one, V.clo, clos, V.toD, loadD, structAt, eqCells, D.scalarEq, sliceOf, partsD, partsV, bound, isPtr, Blk.width, elems, lenOf, splice, D.over, resOf, resV, resVs, ↓reduceIte, reduceCtorEq, ↓reduceDIte, Nat.reduceLT, Nat.reduceEqDiff, Nat.reduceAdd, Nat.reduceSub, Nat.reduceMul, Nat.reduceLeDiff, Nat.reduceBEq, Nat.reduceBNe, Int.reduceNeg, Int.reduceAdd, Int.reduceSub, Int.reduceToNat, nilTest, shiftH, Blk.ren, V.ren, renL, initV, frameH, putL, frρ, dI, dW, hs8, ht8, ht9, tidss_slots, AM.freeze]
    first | refine acall_flat' (hfi) rfl ?_ | refine dcall_flat' (hfi) rfl ?_ | refine acall_ice' (hfi) ?_ | refine dcall_still' (hfi) rfl ?_
    try simp (maxSteps := 2000000) -implicitDefEqProofs only [zz, zE, evop, ev, ofVal, tget, tput, ok, V.isUndef, intBin, guardOf, initT, Ch.on, calleeOf, withArgs, told, xport, xports, tids, tidss, hget, hput, Blk.ice, freeze, V.cells, D.cells, V.isAgg, V.one, V.clo, clos, V.toD, loadD, structAt, eqCells, D.scalarEq, sliceOf, partsD, partsV, bound, isPtr, Blk.width, elems, lenOf, splice, D.over, resOf, resV, resVs, ↓reduceIte, reduceCtorEq, ↓reduceDIte, Nat.reduceLT, Nat.reduceEqDiff, Nat.reduceAdd, Nat.reduceSub, Nat.reduceMul, Nat.reduceLeDiff, Nat.reduceBEq, Nat.reduceBNe, Int.reduceNeg, Int.reduceAdd, Int.reduceSub, Int.reduceToNat, nilTest, shiftH, Blk.ren, V.ren, renL, initV, frameH, putL, frρ, dI, dW]
    rcases idx_cases (fun x => x.1 == who) S with ⟨h2, _⟩ | ⟨i, x, h2, _⟩
    case inr =>
      rw [h2, if_pos (show (0 : Int) ≤ i by omega)]
      have hn0 : (i : Int) ≥ 0 := by omega
      simp (maxSteps := 2000000) -implicitDefEqProofs only [zz, zE, evop, ev, ofVal, tget, tput, ok, V.isUndef, intBin, guardOf, initT, Ch.on, calleeOf, withArgs, told, xport, xports, tids, tidss, hget, hput, Blk.ice, freeze, V.cells, D.cells, V.isAgg, V.one, V.clo, clos, V.toD, loadD, structAt, eqCells, D.scalarEq, sliceOf, partsD, partsV, bound, isPtr, Blk.width, elems, lenOf, splice, D.over, resOf, resV, resVs, ↓reduceIte, reduceCtorEq, ↓reduceDIte, Nat.reduceLT, Nat.reduceEqDiff, Nat.reduceAdd, Nat.reduceSub, Nat.reduceMul, Nat.reduceLeDiff, Nat.reduceBEq, Nat.reduceBNe, Int.reduceNeg, Int.reduceAdd, Int.reduceSub, Int.reduceToNat, nilTest, shiftH, Blk.ren, V.ren, renL, initV, frameH, putL, frρ, dI, dW, hn0, Int.natCast_nonneg, hs8, ht8, ht9, slots_one, hsl, List.length_cons]
      simp only [xports_slots' w (show 8 < 36 by decide) hs, xports_slots' w (show 8 < 37 by decide) hs, xports_slots' w (show 8 < 38 by decide) hs]
    rw [h2, if_neg (show ¬ ((0 : Int) ≤ -1) by decide)]
    have hm1 : ¬ ((0 : Int) ≤ -1) := by decide
    have hm2 : ¬ ((-1 : Int) ≥ 0) := by decide
    simp (maxSteps := 2000000) -implicitDefEqProofs only [zz, zE, evop, ev, ofVal, tget, tput, ok, V.isUndef, intBin, guardOf, initT, Ch.on, calleeOf, withArgs, told, xport, xports, tids, tidss, hget, hput, Blk.ice, freeze, V.cells, D.cells, V.isAgg, V.one, V.clo, clos, V.toD, loadD, structAt, eqCells, D.scalarEq, sliceOf, partsD, partsV, bound, isPtr, Blk.width, elems, lenOf, splice, D.over, resOf, resV, resVs, ↓reduceIte, reduceCtorEq, ↓reduceDIte, Nat.reduceLT, Nat.reduceEqDiff, Nat.reduceAdd, Nat.reduceSub, Nat.reduceMul, Nat.reduceLeDiff, Nat.reduceBEq, Nat.reduceBNe, Int.reduceNeg, Int.reduceAdd, Int.reduceSub, Int.reduceToNat, nilTest, shiftH, Blk.ren, V.ren, renL, initV, frameH, putL, frρ, dI, dW, hs8, ht8, ht9, hm1, hm2]
    first | refine acall_flat' (hta) rfl ?_ | refine dcall_flat' (hta) rfl ?_ | refine acall_ice' (hta) ?_ | refine dcall_still' (hta) rfl ?_
    try simp (maxSteps := 2000000) -implicitDefEqProofs only [zz, zE, evop, ev, ofVal, tget, tput, ok, V.isUndef, intBin, guardOf, initT, Ch.on, calleeOf, withArgs, told, xport, xports, tids, tidss, hget, hput, Blk.ice, freeze, V.cells, D.cells, V.isAgg, V.one, V.clo, clos, V.toD, loadD, structAt, eqCells, D.scalarEq, sliceOf, partsD, partsV, bound, isPtr, Blk.width, elems, lenOf, splice, D.over, resOf, resV, resVs, ↓reduceIte, reduceCtorEq, ↓reduceDIte, Nat.reduceLT, Nat.reduceEqDiff, Nat.reduceAdd, Nat.reduceSub, Nat.reduceMul, Nat.reduceLeDiff, Nat.reduceBEq, Nat.reduceBNe, Int.reduceNeg, Int.reduceAdd, Int.reduceSub, Int.reduceToNat, nilTest, shiftH, Blk.ren, V.ren, renL, initV, frameH, putL, frρ, dI, dW]
    revert ha0
    generalize tickAfter w.now k = r
    obtain ⟨a, er⟩ := r
    intro ha0
    by_cases h3 : er = 0
    case neg =>
      have h3' : (er == 0) = false := by simpa using h3
      have h3'' : (er != 0) = true := by simpa using h3
      simp (maxSteps := 2000000) -implicitDefEqProofs only [zz, zE, evop, ev, ofVal, tget, tput, ok, V.isUndef, intBin, guardOf, initT, Ch.on, calleeOf, withArgs, told, xport, xports, tids, tidss, hget, hput, Blk.ice, freeze, V.cells, D.cells, V.isAgg, V.one, V.clo, clos, V.toD, loadD, structAt, eqCells, D.scalarEq, sliceOf, partsD, partsV, bound, isPtr, Blk.width, elems, lenOf, splice, D.over, resOf, resV, resVs, ↓reduceIte, reduceCtorEq, ↓reduceDIte, Nat.reduceLT, Nat.reduceEqDiff, Nat.reduceAdd, Nat.reduceSub, Nat.reduceMul, Nat.reduceLeDiff, Nat.reduceBEq, Nat.reduceBNe, Int.reduceNeg, Int.reduceAdd, Int.reduceSub, Int.reduceToNat, nilTest, shiftH, Blk.ren, V.ren, renL, initV, frameH, putL, frρ, dI, dW, hs8, ht8, ht9, h3, h3', h3'', slots_one, hsl, List.length_cons]
      simp only [xports_slots' w (show 8 < 36 by decide) hs, xports_slots' w (show 8 < 37 by decide) hs, xports_slots' w (show 8 < 38 by decide) hs]
    subst h3
    obtain ⟨hn, hta1, _⟩ := ha0 rfl
    have hta0 : 0 ≤ a := by simp only [tickR, Bool.and_eq_true, decide_eq_true_eq] at hta1; omega
    obtain ⟨x, hxe⟩ : ∃ x : Int × Int, x = (who, a) := ⟨_, rfl⟩
    have hx1 : who = x.1 := by rw [hxe]
    have hx2 : a = x.2 := by rw [hxe]
    simp (maxSteps := 2000000) -implicitDefEqProofs only [zz, zE, evop, ev, ofVal, tget, tput, ok, V.isUndef, intBin, guardOf, initT, Ch.on, calleeOf, withArgs, told, xport, xports, tids, tidss, hget, hput, Blk.ice, freeze, V.cells, D.cells, V.isAgg, V.one, V.clo, clos, V.toD, loadD, structAt, eqCells, D.scalarEq, sliceOf, partsD, partsV, bound, isPtr, Blk.width, elems, lenOf, splice, D.over, resOf, resV, resVs, ↓reduceIte, reduceCtorEq, ↓reduceDIte, Nat.reduceLT, Nat.reduceEqDiff, Nat.reduceAdd, Nat.reduceSub, Nat.reduceMul, Nat.reduceLeDiff, Nat.reduceBEq, Nat.reduceBNe, Int.reduceNeg, Int.reduceAdd, Int.reduceSub, Int.reduceToNat, nilTest, shiftH, Blk.ren, V.ren, renL, initV, frameH, putL, frρ, dI, dW, hs8, ht8, ht9]
    rw [← hxe]
    have hbw : Blk.box false (V.d (D.int IntKind.i64 w.now) :: List.map V.d (List.map (fun l => D.vec (List.map dW l)) w.slots)) = bWh w := rfl
    have hbz : Blk.box false [V.d (D.int .i64 0), V.nils, V.nils, V.nils, V.nils, V.nils, V.nils, V.nils, V.nils] = bZ := rfl
    have hbi : Blk.box false [V.d (.int .i64 who), V.d (.int .i64 a)] = bIt x := by rw [hxe]; rfl
    have hof := c_r17_Of w.now (insI x S) (by rw [ins_lh]; have := loI_len x S; have := hiI_len x S; simp; omega) (fun y hy => by
      rcases mem_insI.1 hy with rfl | g
      · rw [← hx2]; exact hta0
      · exact h0 y g)
    have hs2 : (ofW w.now (insI x S)).slots.length = 8 := by simp [ofW]
    rw [ins_lh] at hof hs2 ⊢
    rw [hbw, hbz, hbi]
    clear hxe hx1 hx2 hta0 hta1 hn ha0 hbi h2 hfi
    refine wloop_count S.length (fun i => [(16, .d (.int .i64 i)), (10, .d (.vec (S.map dW))), (3, .ptr 0 0 0), (6, .ptr 1 0 0), (15, .ptr 2 0 0), (13, .own 3 0 (loI x (S.take i)).length), (14, .own 4 0 (hiI x (S.take i)).length)]) (fun i => [bWh w, bZ, bIt x, .dat false 2 ((loI x (S.take i)).map dW), .dat false 2 ((hiI x (S.take i)).map dW)]) (fun _ => True) trivial ?_ (fun i hi _ => ?_) (fun _ => ?_)
    · refine Weak.pick [0, 1, 2, 20, 21] (by decide) (by simp) rfl (fun q hq => ?_) (fun i hi => ?_)
      · simp only [List.mem_cons, List.not_mem_nil, or_false] at hq
        rcases hq with rfl | rfl | rfl | rfl | rfl | rfl | rfl
        · exact .same _
        · exact .same _
        · exact .same _
        · exact .same _
        · exact .same _
        · exact .nils 3 2 rfl
        · exact .nils 4 2 rfl
      · match i, hi with
        | 0, _ => exact renB_wh w rfl rfl
        | 1, _ => exact .box _ _ _ rfl rfl (.cons (.same _) (.cons (.same _) (.cons (.same _) (.cons (.same _) (.cons (.same _) (.cons (.same _) (.cons (.same _) (.cons (.same _) (.cons (.same _) .nil)))))))))
        | 2, _ => exact renB_it x rfl rfl
        | 3, _ => exact .virt 2 rfl rfl
        | 4, _ => exact .virt 2 rfl rfl
        | i + 5, hi => exact absurd hi (by simp)
    · have hx : S[i]? = some S[i] := List.getElem?_eq_getElem hi
      generalize S[i] = y at hx
      have h' : ((i : Int) < (S.length : Int)) := by omega
      have hwi : IntKind.i64.wrap ((i : Int) + 1) = ((i + 1 : Nat) : Int) := by rw [wrap_in (by omega)]; omega
      have hT : S.take (i + 1) = S.take i ++ [y] := by rw [List.take_succ, hx]; rfl
      have hti : (S.take i).length ≤ 8 := by rw [List.length_take]; omega
      rw [hT, loI_snoc, hiI_snoc]
      have l1 := loI_len x (S.take i)
      have l2 := hiI_len x (S.take i)
      generalize loI x (S.take i) = P at l1
      generalize hiI x (S.take i) = R at l2
      have hah := c_r17_ahead y x
      unfold dW at hah
      simp (maxSteps := 2000000) -implicitDefEqProofs only [zz, zE, evop, ev, ofVal, tget, tput, ok, V.isUndef, intBin, guardOf, initT, Ch.on, calleeOf, withArgs, told, xport, xports, tids, tidss, hget, hput, Blk.ice, freeze, V.cells, D.cells, V.isAgg, V.one, V.clo, clos, V.toD, loadD, structAt, eqCells, D.scalarEq, sliceOf, partsD, partsV, bound, isPtr, Blk.width, elems, lenOf, splice, D.over, resOf, resV, resVs, ↓reduceIte, reduceCtorEq, ↓reduceDIte, Nat.reduceLT, Nat.reduceEqDiff, Nat.reduceAdd, Nat.reduceSub, Nat.reduceMul, Nat.reduceLeDiff, Nat.reduceBEq, Nat.reduceBNe, Int.reduceNeg, Int.reduceAdd, Int.reduceSub, Int.reduceToNat, nilTest, shiftH, Blk.ren, V.ren, renL, initV, frameH, putL, frρ, dI, dW, h', List.getElem?_map, hx, Option.map_some, Int.natCast_nonneg]
      refine wdraw_plan [⟨[], false, [57, 60], [], false⟩, ⟨[], false, [56, 60], [0], false⟩, ⟨[0, 1], false, [60], [], false⟩, ⟨[0, 1, 2], false, [60], [], false⟩, ⟨[], false, [56, 57, 58, 59], [0, 1, 2, 3], false⟩, ⟨[0, 1, 2, 3, 4], true, [], [], false⟩, ⟨[0, 1, 2, 3, 4, 5], true, [], [], false⟩] (by decide) ?_
      simp (maxSteps := 2000000) -implicitDefEqProofs only [zz, zE, evop, ev, ofVal, tget, tput, ok, V.isUndef, intBin, guardOf, initT, Ch.on, calleeOf, withArgs, told, xport, xports, tids, tidss, hget, hput, Blk.ice, freeze, V.cells, D.cells, V.isAgg, V.one, V.clo, clos, V.toD, loadD, structAt, eqCells, D.scalarEq, sliceOf, partsD, partsV, bound, isPtr, Blk.width, elems, lenOf, splice, D.over, resOf, resV, resVs, ↓reduceIte, reduceCtorEq, ↓reduceDIte, Nat.reduceLT, Nat.reduceEqDiff, Nat.reduceAdd, Nat.reduceSub, Nat.reduceMul, Nat.reduceLeDiff, Nat.reduceBEq, Nat.reduceBNe, Int.reduceNeg, Int.reduceAdd, Int.reduceSub, Int.reduceToNat, nilTest, shiftH, Blk.ren, V.ren, renL, initV, frameH, putL, frρ, dI, dW, h', List.getElem?_map, hx, Option.map_some, Int.natCast_nonneg, bIt]
      first | refine acall_flat' (hah) rfl ?_ | refine dcall_flat' (hah) rfl ?_ | refine acall_ice' (hah) ?_ | refine dcall_still' (hah) rfl ?_
      try simp (maxSteps := 2000000) -implicitDefEqProofs only [zz, zE, evop, ev, ofVal, tget, tput, ok, V.isUndef, intBin, guardOf, initT, Ch.on, calleeOf, withArgs, told, xport, xports, tids, tidss, hget, hput, Blk.ice, freeze, V.cells, D.cells, V.isAgg, V.one, V.clo, clos, V.toD, loadD, structAt, eqCells, D.scalarEq, sliceOf, partsD, partsV, bound, isPtr, Blk.width, elems, lenOf, splice, D.over, resOf, resV, resVs, ↓reduceIte, reduceCtorEq, ↓reduceDIte, Nat.reduceLT, Nat.reduceEqDiff, Nat.reduceAdd, Nat.reduceSub, Nat.reduceMul, Nat.reduceLeDiff, Nat.reduceBEq, Nat.reduceBNe, Int.reduceNeg, Int.reduceAdd, Int.reduceSub, Int.reduceToNat, nilTest, shiftH, Blk.ren, V.ren, renL, initV, frameH, putL, frρ, dI, dW]
      cases hyx : ltI y x with
      | true =>
        simp only [if_true]
        simp (maxSteps := 2000000) -implicitDefEqProofs only [zz, zE, evop, ev, ofVal, tget, tput, ok, V.isUndef, intBin, guardOf, initT, Ch.on, calleeOf, withArgs, told, xport, xports, tids, tidss, hget, hput, Blk.ice, freeze, V.cells, D.cells, V.isAgg, V.one, V.clo, clos, V.toD, loadD, structAt, eqCells, D.scalarEq, sliceOf, partsD, partsV, bound, isPtr, Blk.width, elems, lenOf, splice, D.over, resOf, resV, resVs, ↓reduceIte, reduceCtorEq, ↓reduceDIte, Nat.reduceLT, Nat.reduceEqDiff, Nat.reduceAdd, Nat.reduceSub, Nat.reduceMul, Nat.reduceLeDiff, Nat.reduceBEq, Nat.reduceBNe, Int.reduceNeg, Int.reduceAdd, Int.reduceSub, Int.reduceToNat, nilTest, shiftH, Blk.ren, V.ren, renL, initV, frameH, putL, frρ, dI, dW, h', List.getElem?_map, hx, Option.map_some, Int.natCast_nonneg, hwi, tk_all]
        refine ⟨⟨by omega, okEl_T [y]⟩, ?_⟩
        rw [List.length_append, List.map_append]
        refine Weak.pick [0, 1, 2, 11, 4] (by decide) (by simp) rfl (fun q hq => ?_) (fun i hi => ?_)
        · simp only [List.mem_cons, List.not_mem_nil, or_false] at hq
          rcases hq with rfl | rfl | rfl | rfl | rfl | rfl | rfl <;> exact .same _
        · match i, hi with
          | 0, _ => exact renB_wh w rfl rfl
          | 1, _ => exact .box _ _ _ rfl rfl (.cons (.same _) (.cons (.same _) (.cons (.same _) (.cons (.same _) (.cons (.same _) (.cons (.same _) (.cons (.same _) (.cons (.same _) (.cons (.same _) .nil)))))))))
          | 2, _ => exact renB_it x rfl rfl
          | 3, _ => exact .dat _ _ _ rfl rfl
          | 4, _ => exact .dat _ _ _ rfl rfl
          | i + 5, hi => exact absurd hi (by simp)
      | false =>
        simp only [Bool.false_eq_true, if_false]
        simp (maxSteps := 2000000) -implicitDefEqProofs only [zz, zE, evop, ev, ofVal, tget, tput, ok, V.isUndef, intBin, guardOf, initT, Ch.on, calleeOf, withArgs, told, xport, xports, tids, tidss, hget, hput, Blk.ice, freeze, V.cells, D.cells, V.isAgg, V.one, V.clo, clos, V.toD, loadD, structAt, eqCells, D.scalarEq, sliceOf, partsD, partsV, bound, isPtr, Blk.width, elems, lenOf, splice, D.over, resOf, resV, resVs, ↓reduceIte, reduceCtorEq, ↓reduceDIte, Nat.reduceLT, Nat.reduceEqDiff, Nat.reduceAdd, Nat.reduceSub, Nat.reduceMul, Nat.reduceLeDiff, Nat.reduceBEq, Nat.reduceBNe, Int.reduceNeg, Int.reduceAdd, Int.reduceSub, Int.reduceToNat, nilTest, shiftH, Blk.ren, V.ren, renL, initV, frameH, putL, frρ, dI, dW, h', List.getElem?_map, hx, Option.map_some, Int.natCast_nonneg, hwi, tk_all]
        refine ⟨⟨by omega, okEl_T [y]⟩, ?_⟩
        rw [List.length_append, List.map_append]
        refine Weak.pick [0, 1, 2, 3, 11] (by decide) (by simp) rfl (fun q hq => ?_) (fun i hi => ?_)
        · simp only [List.mem_cons, List.not_mem_nil, or_false] at hq
          rcases hq with rfl | rfl | rfl | rfl | rfl | rfl | rfl <;> exact .same _
        · match i, hi with
          | 0, _ => exact renB_wh w rfl rfl
          | 1, _ => exact .box _ _ _ rfl rfl (.cons (.same _) (.cons (.same _) (.cons (.same _) (.cons (.same _) (.cons (.same _) (.cons (.same _) (.cons (.same _) (.cons (.same _) (.cons (.same _) .nil)))))))))
          | 2, _ => exact renB_it x rfl rfl
          | 3, _ => exact .dat _ _ _ rfl rfl
          | 4, _ => exact .dat _ _ _ rfl rfl
          | i + 5, hi => exact absurd hi (by simp)
    · have h' : ¬ ((S.length : Int) < (S.length : Int)) := by omega
      rw [List.take_length]
      simp (maxSteps := 2000000) -implicitDefEqProofs only [zz, zE, evop, ev, ofVal, tget, tput, ok, V.isUndef, intBin, guardOf, initT, Ch.on, calleeOf, withArgs, told, xport, xports, tids, tidss, hget, hput, Blk.ice, freeze, V.cells, D.cells, V.isAgg, V.one, V.clo, clos, V.toD, loadD, structAt, eqCells, D.scalarEq, sliceOf, partsD, partsV, bound, isPtr, Blk.width, elems, lenOf, splice, D.over, resOf, resV, resVs, ↓reduceIte, reduceCtorEq, ↓reduceDIte, Nat.reduceLT, Nat.reduceEqDiff, Nat.reduceAdd, Nat.reduceSub, Nat.reduceMul, Nat.reduceLeDiff, Nat.reduceBEq, Nat.reduceBNe, Int.reduceNeg, Int.reduceAdd, Int.reduceSub, Int.reduceToNat, nilTest, shiftH, Blk.ren, V.ren, renL, initV, frameH, putL, frρ, dI, dW, h']
      have l1 := loI_len x S
      have l2 := hiI_len x S
      revert hof hs2 l1 l2
      generalize loI x S = P
      generalize hiI x S = R
      generalize ofW w.now (P ++ x :: R) = w2
      intro hof hs2 l1 l2
      refine wdraw_wperm (T' := [(3, .d (.imm (.agg (.int .i64 w.now :: w.slots.map fun l => .vec (l.map dW))) 0)), (6, .ptr 1 0 0), (15, .d (.imm (dW x) 0)), (13, .own 3 0 P.length), (14, .d (.vec (R.map dW)))]) (Weak.sealed [0, 2, 4] ?_) [0, 1, 2, 3, 5, 6, 4, 7, 8, 9, 10] [0, 1, 2, 3, 6, 4, 5, 7, 8, 9, 10] (by kernel_rfl) [⟨[], false, [77, 78, 79, 80, 81, 82, 83, 84], [], true⟩, ⟨[0], false, [78, 79, 80, 81, 82, 83, 84], [], true⟩, ⟨[], false, [77, 78, 80, 81, 83], [0, 1], false⟩, ⟨[], false, [77, 78, 79, 83], [0, 1, 2], false⟩, ⟨[], false, [77, 78, 79, 80, 81, 82, 83], [0, 1, 2, 3], true⟩, ⟨[3], false, [77, 78, 79, 83], [0, 1, 2, 4], false⟩, ⟨[2, 3, 5], true, [77, 78, 83], [], false⟩, ⟨[2, 3, 4, 5, 6], true, [77, 78], [], false⟩, ⟨[0, 1, 2, 3, 4, 5, 6, 7], true, [], [], false⟩, ⟨[0, 1, 2, 3, 4, 5, 6, 7, 8], true, [], [], false⟩, ⟨[0, 1, 2, 3, 4, 5, 6, 7, 8, 9], true, [], [], false⟩] (by kernel_rfl) ?_
      · have hse := @seal_wh' [bWh w, bZ, bIt x, .dat false 2 (P.map dW), .dat false 2 (R.map dW)] [0, 2, 4] w hs (by simp) rfl
        intro q hq
        simp only [List.mem_cons, List.not_mem_nil, or_false] at hq
        rcases hq with rfl | rfl | rfl | rfl | rfl
        · exact hse.symm
        · rfl
        · rfl
        · rfl
        · show V.d (.vec (R.map dW)) = V.d (.vec (List.take R.length (List.drop 0 (R.map dW))))
          rw [List.drop_zero, tk_all]
      have hsh : sealH [bWh w, bZ, bIt x, .dat false 2 (P.map dW), .dat false 2 (R.map dW)] [0, 2, 4] = [Blk.box true (V.d (D.int .i64 w.now) :: slotsV w), Blk.box false [V.d (D.int .i64 0), .d (.vec []), .d (.vec []), .d (.vec []), .d (.vec []), .d (.vec []), .d (.vec []), .d (.vec []), .d (.vec [])], Blk.box true [.d (.int .i64 x.1), .d (.int .i64 x.2)], Blk.dat false 2 (P.map dW), Blk.dat true 2 (R.map dW)] := by
        have h1 : ∀ H, (V.d (.int .i64 w.now) :: slotsV w).map (sealF H [0, 2, 4]) = V.d (.int .i64 w.now) :: slotsV w := fun H => by
          rw [List.map_cons, seal_slots]; rfl
        have h2 : ∀ (X Y Z : List V) (A B : List D), sealH [.box false X, .box false Y, .box false Z, .dat false 2 A, .dat false 2 B] [0, 2, 4] = [.box true (X.map (sealF [.box false X, .box false Y, .box false Z, .dat false 2 A, .dat false 2 B] [0, 2, 4])), .box false (Y.map (sealF [.box false X, .box false Y, .box false Z, .dat false 2 A, .dat false 2 B] [0, 2, 4])), .box true (Z.map (sealF [.box false X, .box false Y, .box false Z, .dat false 2 A, .dat false 2 B] [0, 2, 4])), .dat false 2 A, .dat true 2 B] := fun _ _ _ _ _ => rfl
        unfold bWh bZ bIt
        rw [h2, h1]; rfl
      rw [hsh]
      simp only [permOps, permOp, List.map_cons, List.map_nil, List.getD_cons_zero, List.getD_cons_succ, Option.map_none, Option.map_some]
      simp (maxSteps := 2000000) -implicitDefEqProofs only [zz, zE, evop, ev, ofVal, tget, tput, ok, V.isUndef, intBin, guardOf, initT, Ch.on, calleeOf, withArgs, told, xport, xports, tids, tidss, hget, hput, Blk.ice, freeze, V.cells, D.cells, V.isAgg, V.one, V.clo, clos, V.toD, loadD, structAt, eqCells, D.scalarEq, sliceOf, partsD, partsV, bound, isPtr, Blk.width, elems, lenOf, splice, D.over, resOf, resV, resVs, ↓reduceIte, reduceCtorEq, ↓reduceDIte, Nat.reduceLT, Nat.reduceEqDiff, Nat.reduceAdd, Nat.reduceSub, Nat.reduceMul, Nat.reduceLeDiff, Nat.reduceBEq, Nat.reduceBNe, Int.reduceNeg, Int.reduceAdd, Int.reduceSub, Int.reduceToNat, nilTest, shiftH, Blk.ren, V.ren, renL, initV, frameH, putL, frρ, dI, dW, hs8, ht8, ht9, Int.natCast_nonneg, List.drop_zero, tk_all]
      refine ⟨⟨by omega, okEl_T [x]⟩, ⟨by omega, okEl_T R⟩, ?_⟩
      have hM : List.take (P.length + 1) (P.map dW ++ [D.agg [D.int .i64 x.1, D.int .i64 x.2]]) ++ R.map dW = (P ++ x :: R).map dW := by
        rw [List.take_of_length_le (by simp), List.map_append, List.append_assoc]; rfl
      have hN : P.length + 1 + R.length = (P ++ x :: R).length := by simp; omega
      rw [hM, hN]
      generalize P ++ x :: R = F at hof
      refine acall_ice (ds := [.int .i64 w.now, .vec (F.map dW)]) (by simp only [xports, xport, hget, List.drop_zero, tk_all]) hof ?_
      unfold dWh
      have hsl2 : (slotsV w2).length = 8 := by simp [slotsV, hs2]
      have ht2 : List.take 8 (slotsV w2) = slotsV w2 := List.take_of_length_le (by omega)
      have hw2 : List.map V.d (List.map (fun l => D.vec (List.map dW l)) w2.slots) = slotsV w2 := rfl
      have hdr : List.drop 8 [V.d (D.vec []), V.d (D.vec []), V.d (D.vec []), V.d (D.vec []), V.d (D.vec []), V.d (D.vec []), V.d (D.vec []), V.d (D.vec [])] = [] := rfl
      simp (maxSteps := 2000000) -implicitDefEqProofs only [zz, zE, evop, ev, ofVal, tget, tput, ok, V.isUndef, intBin, guardOf, initT, Ch.on, calleeOf, withArgs, told, xport, xports, tids, tidss, hget, hput, Blk.ice, freeze, V.cells, D.cells, V.isAgg, V.one, V.clo, clos, V.toD, loadD, structAt, eqCells, D.scalarEq, sliceOf, partsD, partsV, bound, isPtr, Blk.width, elems, lenOf, splice, D.over, resOf, resV, resVs, ↓reduceIte, reduceCtorEq, ↓reduceDIte, Nat.reduceLT, Nat.reduceEqDiff, Nat.reduceAdd, Nat.reduceSub, Nat.reduceMul, Nat.reduceLeDiff, Nat.reduceBEq, Nat.reduceBNe, Int.reduceNeg, Int.reduceAdd, Int.reduceSub, Int.reduceToNat, nilTest, shiftH, Blk.ren, V.ren, renL, initV, frameH, putL, frρ, dI, dW, tidss_slots, tids, tidss, AM.freeze, hs2, hw2, hdr, slots_one, hsl2, ht2, List.append_nil, List.length_cons]
      simp only [xports_slots' w2 (show 8 < 36 by decide) hs2, xports_slots' w2 (show 8 < 37 by decide) hs2, xports_slots' w2 (show 8 < 38 by decide) hs2]
end Go.Proofs.Ytaejlmengfahnaa.AM
