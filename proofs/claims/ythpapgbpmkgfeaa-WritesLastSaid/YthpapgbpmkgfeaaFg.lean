/- Slices, turned and sorted. -/
import Derived.Test.YthpapgbpmkgfeaaFf

set_option linter.all false
set_option maxRecDepth 100000
set_option maxHeartbeats 4000000
namespace Go.Proofs.Ythpapgbpmkgfeaa.AM
open Go Go.RowKit

theorem set_dW (l : List (Int × Int)) (i : Nat) (a : Int × Int) : (l.map dW).set i (.agg [.int .i64 a.1, .int .i64 a.2]) = (l.set i a).map dW := by
  rw [List.map_set]; rfl

theorem r_Reverse_W (ws : List (Int × Int)) (hl : ws.length ≤ 1000000) : RSpec Try.prog 55 [.own 0 0 ws.length] [.dat false 2 (ws.map dW)] (.tuple []) [.dat false 2 (ws.reverse.map dW)] := by
  refine RSpec.of_awp envOf_ok hmix Try.func55 rfl (fun args w => Try.call55 args w) (by simp [Try.f55]) ?_
  simp only [Try.f55]
  simp (maxSteps := 2000000) -implicitDefEqProofs only [z00, z01, z02, z03, z04, z05, z06, z07, z08, z09, z0a, z0b, z0c, z0d, z0e, z0f, z0g, z0h, z0i, z0j, z0k, z0l, z0m, z0n, z0o, z0p, z0q, z0r, z0s, z0t, z0u, z0v, z0w, z0x, z0y, z0z, z10, z11, z12, z13, z14, z15, z16, z17, z18, z19, z1a, z1b, z1c, z1d, z1e, z1f, z1g, z1h, z1i, z1j, z1k, z1l, z1m, z1n, z1o, z1p, z1q, z1r, z1s, z1t, z1u, z1v, z1w, z1x, z1y, z1z, z20, z21, z22, z23, z24, z25, z26, z27, z28, z29, z2a, z2b, z2c, z2d, z2e, z2f, z2g, z2h, z2i, z2j, z2k, z2l, z2m, z2n, z2o, z2p, z2q, z2r, z2s, z2t, z2u, z2v, z2w, z2x, z2y, z2z, z30, z31, z32, z33, z34, z35, z36, z37, z38, z39, z3a, z3b, z3c, z3d, z3e, z3f, z3g, z3h, z3i, z3j, z3k, z3l, z3m, z3n, z3o, z3p, z3q, z3r, z3s, z3t, z3u, z3v, z3w, evop, ev, ofVal, tget, tput, ok, V.isUndef, intBin, guardOf, initT, Ch.on, calleeOf, withArgs, told, xport, xports, tids, tidss, hget, hput, Blk.ice, freeze, V.cells, D.cells, V.isAgg, V.one, V.clo, clos, V.toD, loadD, structAt, eqCells, D.scalarEq, sliceOf, partsD, partsV, bound, isPtr, Blk.width, elems, lenOf, splice, D.over, resOf, resV, resVs, z3x, z3y, z3z, z40, z41, ↓reduceIte, reduceCtorEq, ↓reduceDIte, Nat.reduceLT, Nat.reduceEqDiff, Nat.reduceAdd, Nat.reduceSub, Nat.reduceMul, Nat.reduceLeDiff, Nat.reduceBEq, Nat.reduceBNe, z42, z43, z44, z45, z46, z47, z48, z49, z4a, z4b, z4c, z4d, z4e, z4f, z4g, z4h, z4i, z4j, z4k, z4l, z4m, z4n, z4o, z4p, z4q, z4r, z4s, z4t, z4u, z4v, z4w, z4x, z4y, z4z, z50, z51, z52, z53, Int.reduceNeg, Int.reduceAdd, Int.reduceSub, Int.reduceToNat, z54, z55, z56, z57, z58, z59, z5a, z5b, nilTest, z5c, z5d, z5e, z5f, shiftH, Blk.ren, V.ren, renL, initV, frameH, putL, frρ, z5g, z5h, z5i, z5j, E2, E3, E4, E5, E6, E7, E8, E12, E15, E16, E17, E18, E19, E21, E22, E23, E24, E25, E26, E27, E30, E32, E50, E53, E56, E57, E71, E94, E96, E106, E111, E119, E120, E124, E126, E131, E132, E133, E135, E136, E138, E139, E140, E141, E142, dI, dW]
  have hw0 : IntKind.i64.wrap ((ws.length : Int) - 1) = (ws.length : Int) - 1 := wrap_in (by omega)
  refine wloop_ind (σ := Nat × List (Int × Int)) (fun s => ws.length - s.1) (fun s => [(2, .d (.int .i64 s.1)), (3, .d (.int .i64 ((ws.length : Int) - 1 - s.1))), (0, .own 0 0 ws.length)]) (fun s => [.dat false 2 (s.2.map dW)])
    (fun s => s.1 ≤ ws.length ∧ s.2.length = ws.length ∧ ∀ k, k < ws.length → s.2[k]? = if k < s.1 ∨ ws.length ≤ k + s.1 then ws[ws.length - 1 - k]? else ws[k]?) (0, ws) ⟨Nat.zero_le _, rfl, fun k hk => by rw [if_neg (by simp; omega)]⟩ (Weak.sub (by simp [tget, hw0])) ?_
  rintro ⟨i, cur⟩ ⟨hi, hc, hk⟩
  simp only at hi hc hk
  rcases Int.lt_or_le (i : Int) ((ws.length : Int) - 1 - i) with h | h
  · have hj' : ((ws.length : Int) - 1 - (i : Int)) = ((ws.length - 1 - i : Nat) : Int) := by omega
    have hlt : ((i : Int) < ((ws.length - 1 - i : Nat) : Int)) := by omega
    have hij : i < ws.length - 1 - i := by omega
    have hgi : cur[i]? = some cur[i] := List.getElem?_eq_getElem (by omega)
    have hgj : cur[ws.length - 1 - i]? = some (cur[ws.length - 1 - i]'(by omega)) := List.getElem?_eq_getElem (by omega)
    have hgj2 : (cur.set i (cur[ws.length - 1 - i]'(by omega)))[ws.length - 1 - i]? = some (cur[ws.length - 1 - i]'(by omega)) := by
      rw [List.getElem?_set_ne (by omega)]; exact hgj
    simp (maxSteps := 2000000) -implicitDefEqProofs only [z00, z01, z02, z03, z04, z05, z06, z07, z08, z09, z0a, z0b, z0c, z0d, z0e, z0f, z0g, z0h, z0i, z0j, z0k, z0l, z0m, z0n, z0o, z0p, z0q, z0r, z0s, z0t, z0u, z0v, z0w, z0x, z0y, z0z, z10, z11, z12, z13, z14, z15, z16, z17, z18, z19, z1a, z1b, z1c, z1d, z1e, z1f, z1g, z1h, z1i, z1j, z1k, z1l, z1m, z1n, z1o, z1p, z1q, z1r, z1s, z1t, z1u, z1v, z1w, z1x, z1y, z1z, z20, z21, z22, z23, z24, z25, z26, z27, z28, z29, z2a, z2b, z2c, z2d, z2e, z2f, z2g, z2h, z2i, z2j, z2k, z2l, z2m, z2n, z2o, z2p, z2q, z2r, z2s, z2t, z2u, z2v, z2w, z2x, z2y, z2z, z30, z31, z32, z33, z34, z35, z36, z37, z38, z39, z3a, z3b, z3c, z3d, z3e, z3f, z3g, z3h, z3i, z3j, z3k, z3l, z3m, z3n, z3o, z3p, z3q, z3r, z3s, z3t, z3u, z3v, z3w, evop, ev, ofVal, tget, tput, ok, V.isUndef, intBin, guardOf, initT, Ch.on, calleeOf, withArgs, told, xport, xports, tids, tidss, hget, hput, Blk.ice, freeze, V.cells, D.cells, V.isAgg, V.one, V.clo, clos, V.toD, loadD, structAt, eqCells, D.scalarEq, sliceOf, partsD, partsV, bound, isPtr, Blk.width, elems, lenOf, splice, D.over, resOf, resV, resVs, z3x, z3y, z3z, z40, z41, ↓reduceIte, reduceCtorEq, ↓reduceDIte, Nat.reduceLT, Nat.reduceEqDiff, Nat.reduceAdd, Nat.reduceSub, Nat.reduceMul, Nat.reduceLeDiff, Nat.reduceBEq, Nat.reduceBNe, z42, z43, z44, z45, z46, z47, z48, z49, z4a, z4b, z4c, z4d, z4e, z4f, z4g, z4h, z4i, z4j, z4k, z4l, z4m, z4n, z4o, z4p, z4q, z4r, z4s, z4t, z4u, z4v, z4w, z4x, z4y, z4z, z50, z51, z52, z53, Int.reduceNeg, Int.reduceAdd, Int.reduceSub, Int.reduceToNat, z54, z55, z56, z57, z58, z59, z5a, z5b, nilTest, z5c, z5d, z5e, z5f, shiftH, Blk.ren, V.ren, renL, initV, frameH, putL, frρ, z5g, z5h, z5i, z5j, E2, E3, E4, E5, E6, E7, E8, E12, E15, E16, E17, E18, E19, E21, E22, E23, E24, E25, E26, E27, E30, E32, E50, E53, E56, E57, E71, E94, E96, E106, E111, E119, E120, E124, E126, E131, E132, E133, E135, E136, E138, E139, E140, E141, E142, dI, dW, hj', hlt]
    refine wdraw_plan [⟨[], false, [15, 16, 17, 18, 19, 20, 21, 22, 23, 24, 25], [], false⟩, ⟨[], false, [14, 16, 17, 18, 19, 20, 21, 22, 23, 24, 25], [0], false⟩, ⟨[], false, [14, 15, 16, 17, 18, 19, 20, 21, 22, 23, 24, 25, 26, 27], [0, 1], true⟩, ⟨[], false, [14, 15, 16, 17, 18, 19, 20, 21, 22, 23, 24, 25, 26, 27], [0, 1, 2], true⟩, ⟨[], false, [14, 15, 16, 17, 19, 22, 23, 24, 25], [0, 1, 2, 3], false⟩, ⟨[], false, [14, 15, 16, 17, 18, 22, 23, 24, 25], [0, 1, 2, 3, 4], false⟩, ⟨[4, 5], false, [14, 15, 16, 17, 22, 23, 24, 25], [0, 1, 2, 3], false⟩, ⟨[4, 5, 6], false, [14, 15, 16, 17, 22, 23, 24, 25], [0, 1, 2, 3], false⟩, ⟨[], false, [14, 15, 16, 17, 18, 19, 20, 21, 23], [0, 1, 2, 3, 4, 5, 6, 7], false⟩, ⟨[], false, [14, 15, 16, 17, 18, 19, 20, 21, 22], [0, 1, 2, 3, 4, 5, 6, 7, 8], false⟩, ⟨[8, 9], false, [14, 15, 16, 17, 18, 19, 20, 21], [0, 1, 2, 3, 4, 5, 6, 7], false⟩, ⟨[8, 9, 10], false, [14, 15, 16, 17, 18, 19, 20, 21], [0, 1, 2, 3, 4, 5, 6, 7], false⟩, ⟨[0, 1, 4, 5, 6, 7, 8, 9, 10, 11], false, [16, 17], [2, 3], false⟩, ⟨[0, 1, 4, 5, 6, 7, 8, 9, 10, 11, 12], true, [16, 17], [], false⟩, ⟨[0, 1, 2, 3, 4, 5, 6, 7, 8, 9, 10, 11, 12, 13], true, [], [], false⟩, ⟨[0, 1, 2, 3, 4, 5, 6, 7, 8, 9, 10, 11, 12, 13, 14], true, [], [], false⟩] (by decide) ?_
    simp (maxSteps := 2000000) -implicitDefEqProofs only [z00, z01, z02, z03, z04, z05, z06, z07, z08, z09, z0a, z0b, z0c, z0d, z0e, z0f, z0g, z0h, z0i, z0j, z0k, z0l, z0m, z0n, z0o, z0p, z0q, z0r, z0s, z0t, z0u, z0v, z0w, z0x, z0y, z0z, z10, z11, z12, z13, z14, z15, z16, z17, z18, z19, z1a, z1b, z1c, z1d, z1e, z1f, z1g, z1h, z1i, z1j, z1k, z1l, z1m, z1n, z1o, z1p, z1q, z1r, z1s, z1t, z1u, z1v, z1w, z1x, z1y, z1z, z20, z21, z22, z23, z24, z25, z26, z27, z28, z29, z2a, z2b, z2c, z2d, z2e, z2f, z2g, z2h, z2i, z2j, z2k, z2l, z2m, z2n, z2o, z2p, z2q, z2r, z2s, z2t, z2u, z2v, z2w, z2x, z2y, z2z, z30, z31, z32, z33, z34, z35, z36, z37, z38, z39, z3a, z3b, z3c, z3d, z3e, z3f, z3g, z3h, z3i, z3j, z3k, z3l, z3m, z3n, z3o, z3p, z3q, z3r, z3s, z3t, z3u, z3v, z3w, evop, ev, ofVal, tget, tput, ok, V.isUndef, intBin, guardOf, initT, Ch.on, calleeOf, withArgs, told, xport, xports, tids, tidss, hget, hput, Blk.ice, freeze, V.cells, D.cells, V.isAgg, V.one, V.clo, clos, V.toD, loadD, structAt, eqCells, D.scalarEq, sliceOf, partsD, partsV, bound, isPtr, Blk.width, elems, lenOf, splice, D.over, resOf, resV, resVs, z3x, z3y, z3z, z40, z41, ↓reduceIte, reduceCtorEq, ↓reduceDIte, Nat.reduceLT, Nat.reduceEqDiff, Nat.reduceAdd, Nat.reduceSub, Nat.reduceMul, Nat.reduceLeDiff, Nat.reduceBEq, Nat.reduceBNe, z42, z43, z44, z45, z46, z47, z48, z49, z4a, z4b, z4c, z4d, z4e, z4f, z4g, z4h, z4i, z4j, z4k, z4l, z4m, z4n, z4o, z4p, z4q, z4r, z4s, z4t, z4u, z4v, z4w, z4x, z4y, z4z, z50, z51, z52, z53, Int.reduceNeg, Int.reduceAdd, Int.reduceSub, Int.reduceToNat, z54, z55, z56, z57, z58, z59, z5a, z5b, nilTest, z5c, z5d, z5e, z5f, shiftH, Blk.ren, V.ren, renL, initV, frameH, putL, frρ, z5g, z5h, z5i, z5j, E2, E3, E4, E5, E6, E7, E8, E12, E15, E16, E17, E18, E19, E21, E22, E23, E24, E25, E26, E27, E30, E32, E50, E53, E56, E57, E71, E94, E96, E106, E111, E119, E120, E124, E126, E131, E132, E133, E135, E136, E138, E139, E140, E141, E142, dI, dW, hj', hlt, List.getElem?_map, hgi, hgj, hgj2, Option.map_some, Int.natCast_nonneg, set_dW]
    have hwi : IntKind.i64.wrap ((i : Int) + 1) = ((i + 1 : Nat) : Int) := by rw [wrap_in (by omega)]; omega
    have hwj : IntKind.i64.wrap (((ws.length - 1 - i : Nat) : Int) - 1) = (ws.length : Int) - 1 - ((i + 1 : Nat) : Int) := by rw [wrap_in (by omega)]; omega
    refine ⟨by omega, by omega, by omega, by omega, (i + 1, (cur.set i (cur[ws.length - 1 - i]'(by omega))).set (ws.length - 1 - i) cur[i]), ⟨by simp only; omega, by simp [hc], fun k hkl => ?_⟩, by simp only; omega, Weak.trimsM 1 (by simp) rfl (by simp [tget, hwi, hwj, V.lower]) (by simp [Blk.lower])⟩
    by_cases h1 : ws.length - 1 - i = k
    · subst h1
      rw [List.getElem?_set_self (by simp; omega)]
      rw [if_pos (by simp only; omega)]
      have := hk i (by omega)
      rw [if_neg (by omega), hgi] at this
      have e : ws.length - 1 - (ws.length - 1 - i) = i := by omega
      rw [e, this]
    · rw [List.getElem?_set_ne h1]
      by_cases h2 : i = k
      · subst h2
        rw [List.getElem?_set_self (by omega), if_pos (by simp only; omega)]
        have := hk (ws.length - 1 - i) (by omega)
        rw [if_neg (by omega), hgj] at this
        rw [this]
      · rw [List.getElem?_set_ne h2, hk k hkl]
        have : (k < i ∨ ws.length ≤ k + i) ↔ (k < i + 1 ∨ ws.length ≤ k + (i + 1)) := by omega
        simp only [this]
  · have h' : ¬ ((i : Int) < (ws.length : Int) - 1 - (i : Int)) := by omega
    simp (maxSteps := 2000000) -implicitDefEqProofs only [z00, z01, z02, z03, z04, z05, z06, z07, z08, z09, z0a, z0b, z0c, z0d, z0e, z0f, z0g, z0h, z0i, z0j, z0k, z0l, z0m, z0n, z0o, z0p, z0q, z0r, z0s, z0t, z0u, z0v, z0w, z0x, z0y, z0z, z10, z11, z12, z13, z14, z15, z16, z17, z18, z19, z1a, z1b, z1c, z1d, z1e, z1f, z1g, z1h, z1i, z1j, z1k, z1l, z1m, z1n, z1o, z1p, z1q, z1r, z1s, z1t, z1u, z1v, z1w, z1x, z1y, z1z, z20, z21, z22, z23, z24, z25, z26, z27, z28, z29, z2a, z2b, z2c, z2d, z2e, z2f, z2g, z2h, z2i, z2j, z2k, z2l, z2m, z2n, z2o, z2p, z2q, z2r, z2s, z2t, z2u, z2v, z2w, z2x, z2y, z2z, z30, z31, z32, z33, z34, z35, z36, z37, z38, z39, z3a, z3b, z3c, z3d, z3e, z3f, z3g, z3h, z3i, z3j, z3k, z3l, z3m, z3n, z3o, z3p, z3q, z3r, z3s, z3t, z3u, z3v, z3w, evop, ev, ofVal, tget, tput, ok, V.isUndef, intBin, guardOf, initT, Ch.on, calleeOf, withArgs, told, xport, xports, tids, tidss, hget, hput, Blk.ice, freeze, V.cells, D.cells, V.isAgg, V.one, V.clo, clos, V.toD, loadD, structAt, eqCells, D.scalarEq, sliceOf, partsD, partsV, bound, isPtr, Blk.width, elems, lenOf, splice, D.over, resOf, resV, resVs, z3x, z3y, z3z, z40, z41, ↓reduceIte, reduceCtorEq, ↓reduceDIte, Nat.reduceLT, Nat.reduceEqDiff, Nat.reduceAdd, Nat.reduceSub, Nat.reduceMul, Nat.reduceLeDiff, Nat.reduceBEq, Nat.reduceBNe, z42, z43, z44, z45, z46, z47, z48, z49, z4a, z4b, z4c, z4d, z4e, z4f, z4g, z4h, z4i, z4j, z4k, z4l, z4m, z4n, z4o, z4p, z4q, z4r, z4s, z4t, z4u, z4v, z4w, z4x, z4y, z4z, z50, z51, z52, z53, Int.reduceNeg, Int.reduceAdd, Int.reduceSub, Int.reduceToNat, z54, z55, z56, z57, z58, z59, z5a, z5b, nilTest, z5c, z5d, z5e, z5f, shiftH, Blk.ren, V.ren, renL, initV, frameH, putL, frρ, z5g, z5h, z5i, z5j, E2, E3, E4, E5, E6, E7, E8, E12, E15, E16, E17, E18, E19, E21, E22, E23, E24, E25, E26, E27, E30, E32, E50, E53, E56, E57, E71, E94, E96, E106, E111, E119, E120, E124, E126, E131, E132, E133, E135, E136, E138, E139, E140, E141, E142, dI, dW, h']
    have : cur = ws.reverse := by
      apply List.ext_getElem?
      intro k
      rcases Nat.lt_or_ge k ws.length with hkl | hkl
      · rw [hk k hkl, List.getElem?_reverse (by omega)]
        split
        · rfl
        · rename_i hn
          have : ws.length - 1 - k = k := by omega
          rw [this]
      · rw [List.getElem?_eq_none (by omega), List.getElem?_eq_none (by simp; omega)]
    rw [this]
    exact Weak.sub (by simp [tget])

end Go.Proofs.Ythpapgbpmkgfeaa.AM
