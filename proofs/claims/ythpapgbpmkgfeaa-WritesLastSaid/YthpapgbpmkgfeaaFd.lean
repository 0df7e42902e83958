/- The log of writes: the document's, and Put, Mark, Keep, Back. -/
import Derived.Test.YthpapgbpmkgfeaaFc

set_option linter.all false
set_option maxRecDepth 100000
set_option maxHeartbeats 4000000
namespace Go.Proofs.Ythpapgbpmkgfeaa.AM
open Go Go.RowKit

/-- The heap of a log's variable. -/
def bLg (l : Lg) : Blk := .box false [.d (.vec (l.1.map dW)), .d (.vec (l.2.map dI))]

def lowOf (l : List Int) (i : Nat) : Int := if i = 0 then 0 else (l[i - 1]?).getD 0

theorem c_r06_Right (l : Lg) (h1 : l.1.length ≤ 1000000) (h2 : l.2.length ≤ 1000000) : CSpec Try.prog 26 [dLg l] (.bool (logR l)) := by
  refine CSpec.of_awp envOf_ok hmix Try.func26 rfl (fun args w => Try.call26 args w) (by simp [Try.f26]) ?_
  simp only [Try.f26]
  simp (maxSteps := 2000000) -implicitDefEqProofs only [z00, z01, z02, z03, z04, z05, z06, z07, z08, z09, z0a, z0b, z0c, z0d, z0e, z0f, z0g, z0h, z0i, z0j, z0k, z0l, z0m, z0n, z0o, z0p, z0q, z0r, z0s, z0t, z0u, z0v, z0w, z0x, z0y, z0z, z10, z11, z12, z13, z14, z15, z16, z17, z18, z19, z1a, z1b, z1c, z1d, z1e, z1f, z1g, z1h, z1i, z1j, z1k, z1l, z1m, z1n, z1o, z1p, z1q, z1r, z1s, z1t, z1u, z1v, z1w, z1x, z1y, z1z, z20, z21, z22, z23, z24, z25, z26, z27, z28, z29, z2a, z2b, z2c, z2d, z2e, z2f, z2g, z2h, z2i, z2j, z2k, z2l, z2m, z2n, z2o, z2p, z2q, z2r, z2s, z2t, z2u, z2v, z2w, z2x, z2y, z2z, z30, z31, z32, z33, z34, z35, z36, z37, z38, z39, z3a, z3b, z3c, z3d, z3e, z3f, z3g, z3h, z3i, z3j, z3k, z3l, z3m, z3n, z3o, z3p, z3q, z3r, z3s, z3t, z3u, z3v, z3w, evop, ev, ofVal, tget, tput, ok, V.isUndef, intBin, guardOf, initT, Ch.on, calleeOf, withArgs, told, xport, xports, tids, tidss, hget, hput, Blk.ice, freeze, V.cells, D.cells, V.isAgg, V.one, V.clo, clos, V.toD, loadD, structAt, eqCells, D.scalarEq, sliceOf, partsD, partsV, bound, isPtr, Blk.width, elems, lenOf, splice, D.over, resOf, resV, resVs, z3x, z3y, z3z, z40, z41, ↓reduceIte, reduceCtorEq, ↓reduceDIte, Nat.reduceLT, Nat.reduceEqDiff, Nat.reduceAdd, Nat.reduceSub, Nat.reduceMul, Nat.reduceLeDiff, Nat.reduceBEq, Nat.reduceBNe, z42, z43, z44, z45, z46, z47, z48, z49, z4a, z4b, z4c, z4d, z4e, z4f, z4g, z4h, z4i, z4j, z4k, z4l, z4m, z4n, z4o, z4p, z4q, z4r, z4s, z4t, z4u, z4v, z4w, z4x, z4y, z4z, z50, z51, z52, z53, Int.reduceNeg, Int.reduceAdd, Int.reduceSub, Int.reduceToNat, z54, z55, z56, z57, z58, z59, z5a, z5b, nilTest, z5c, z5d, z5e, z5f, shiftH, Blk.ren, V.ren, renL, initV, frameH, putL, frρ, z5g, z5h, z5i, z5j, E2, E3, E4, E5, E6, E7, E8, E12, E15, E16, E17, E18, E19, E21, E22, E23, E24, E25, E26, E27, E30, E32, E50, E53, E56, E57, E71, E94, E96, E106, E111, E119, E120, E124, E126, E131, E132, E133, E135, E136, E138, E139, E140, E141, E142, dI, dW]
  unfold dLg
  simp (maxSteps := 2000000) -implicitDefEqProofs only [z00, z01, z02, z03, z04, z05, z06, z07, z08, z09, z0a, z0b, z0c, z0d, z0e, z0f, z0g, z0h, z0i, z0j, z0k, z0l, z0m, z0n, z0o, z0p, z0q, z0r, z0s, z0t, z0u, z0v, z0w, z0x, z0y, z0z, z10, z11, z12, z13, z14, z15, z16, z17, z18, z19, z1a, z1b, z1c, z1d, z1e, z1f, z1g, z1h, z1i, z1j, z1k, z1l, z1m, z1n, z1o, z1p, z1q, z1r, z1s, z1t, z1u, z1v, z1w, z1x, z1y, z1z, z20, z21, z22, z23, z24, z25, z26, z27, z28, z29, z2a, z2b, z2c, z2d, z2e, z2f, z2g, z2h, z2i, z2j, z2k, z2l, z2m, z2n, z2o, z2p, z2q, z2r, z2s, z2t, z2u, z2v, z2w, z2x, z2y, z2z, z30, z31, z32, z33, z34, z35, z36, z37, z38, z39, z3a, z3b, z3c, z3d, z3e, z3f, z3g, z3h, z3i, z3j, z3k, z3l, z3m, z3n, z3o, z3p, z3q, z3r, z3s, z3t, z3u, z3v, z3w, evop, ev, ofVal, tget, tput, ok, V.isUndef, intBin, guardOf, initT, Ch.on, calleeOf, withArgs, told, xport, xports, tids, tidss, hget, hput, Blk.ice, freeze, V.cells, D.cells, V.isAgg, V.one, V.clo, clos, V.toD, loadD, structAt, eqCells, D.scalarEq, sliceOf, partsD, partsV, bound, isPtr, Blk.width, elems, lenOf, splice, D.over, resOf, resV, resVs, z3x, z3y, z3z, z40, z41, ↓reduceIte, reduceCtorEq, ↓reduceDIte, Nat.reduceLT, Nat.reduceEqDiff, Nat.reduceAdd, Nat.reduceSub, Nat.reduceMul, Nat.reduceLeDiff, Nat.reduceBEq, Nat.reduceBNe, z42, z43, z44, z45, z46, z47, z48, z49, z4a, z4b, z4c, z4d, z4e, z4f, z4g, z4h, z4i, z4j, z4k, z4l, z4m, z4n, z4o, z4p, z4q, z4r, z4s, z4t, z4u, z4v, z4w, z4x, z4y, z4z, z50, z51, z52, z53, Int.reduceNeg, Int.reduceAdd, Int.reduceSub, Int.reduceToNat, z54, z55, z56, z57, z58, z59, z5a, z5b, nilTest, z5c, z5d, z5e, z5f, shiftH, Blk.ren, V.ren, renL, initV, frameH, putL, frρ, z5g, z5h, z5i, z5j, E2, E3, E4, E5, E6, E7, E8, E12, E15, E16, E17, E18, E19, E21, E22, E23, E24, E25, E26, E27, E30, E32, E50, E53, E56, E57, E71, E94, E96, E106, E111, E119, E120, E124, E126, E131, E132, E133, E135, E136, E138, E139, E140, E141, E142, dI, dW]
  refine wloop_count l.1.length (fun i => [(3, .d (.int .i64 i)), (1, .ptr 0 0 0)]) (fun _ => [bLg l]) (fun i => ∀ j < i, ∀ x, l.1[j]? = some x → wrongW x = false) (fun j hj => by omega) (Weak.sub (by simp [tget])) (fun i hi hI => ?_) (fun hI => ?_)
  · have hx : l.1[i]? = some l.1[i] := List.getElem?_eq_getElem hi
    have h' : ((i : Int) < (l.1.length : Int)) := by omega
    simp (maxSteps := 2000000) -implicitDefEqProofs only [z00, z01, z02, z03, z04, z05, z06, z07, z08, z09, z0a, z0b, z0c, z0d, z0e, z0f, z0g, z0h, z0i, z0j, z0k, z0l, z0m, z0n, z0o, z0p, z0q, z0r, z0s, z0t, z0u, z0v, z0w, z0x, z0y, z0z, z10, z11, z12, z13, z14, z15, z16, z17, z18, z19, z1a, z1b, z1c, z1d, z1e, z1f, z1g, z1h, z1i, z1j, z1k, z1l, z1m, z1n, z1o, z1p, z1q, z1r, z1s, z1t, z1u, z1v, z1w, z1x, z1y, z1z, z20, z21, z22, z23, z24, z25, z26, z27, z28, z29, z2a, z2b, z2c, z2d, z2e, z2f, z2g, z2h, z2i, z2j, z2k, z2l, z2m, z2n, z2o, z2p, z2q, z2r, z2s, z2t, z2u, z2v, z2w, z2x, z2y, z2z, z30, z31, z32, z33, z34, z35, z36, z37, z38, z39, z3a, z3b, z3c, z3d, z3e, z3f, z3g, z3h, z3i, z3j, z3k, z3l, z3m, z3n, z3o, z3p, z3q, z3r, z3s, z3t, z3u, z3v, z3w, evop, ev, ofVal, tget, tput, ok, V.isUndef, intBin, guardOf, initT, Ch.on, calleeOf, withArgs, told, xport, xports, tids, tidss, hget, hput, Blk.ice, freeze, V.cells, D.cells, V.isAgg, V.one, V.clo, clos, V.toD, loadD, structAt, eqCells, D.scalarEq, sliceOf, partsD, partsV, bound, isPtr, Blk.width, elems, lenOf, splice, D.over, resOf, resV, resVs, z3x, z3y, z3z, z40, z41, ↓reduceIte, reduceCtorEq, ↓reduceDIte, Nat.reduceLT, Nat.reduceEqDiff, Nat.reduceAdd, Nat.reduceSub, Nat.reduceMul, Nat.reduceLeDiff, Nat.reduceBEq, Nat.reduceBNe, z42, z43, z44, z45, z46, z47, z48, z49, z4a, z4b, z4c, z4d, z4e, z4f, z4g, z4h, z4i, z4j, z4k, z4l, z4m, z4n, z4o, z4p, z4q, z4r, z4s, z4t, z4u, z4v, z4w, z4x, z4y, z4z, z50, z51, z52, z53, Int.reduceNeg, Int.reduceAdd, Int.reduceSub, Int.reduceToNat, z54, z55, z56, z57, z58, z59, z5a, z5b, nilTest, z5c, z5d, z5e, z5f, shiftH, Blk.ren, V.ren, renL, initV, frameH, putL, frρ, z5g, z5h, z5i, z5j, E2, E3, E4, E5, E6, E7, E8, E12, E15, E16, E17, E18, E19, E21, E22, E23, E24, E25, E26, E27, E30, E32, E50, E53, E56, E57, E71, E94, E96, E106, E111, E119, E120, E124, E126, E131, E132, E133, E135, E136, E138, E139, E140, E141, E142, dI, dW, h', bLg, List.getElem?_map, hx, Option.map_some, Int.natCast_nonneg]
    refine acall_flat (by first | rfl | (simp only [xports, xport, hget]; rfl)) (c_r06_one l.1[i]) rfl ?_
    try simp (maxSteps := 2000000) -implicitDefEqProofs only [z00, z01, z02, z03, z04, z05, z06, z07, z08, z09, z0a, z0b, z0c, z0d, z0e, z0f, z0g, z0h, z0i, z0j, z0k, z0l, z0m, z0n, z0o, z0p, z0q, z0r, z0s, z0t, z0u, z0v, z0w, z0x, z0y, z0z, z10, z11, z12, z13, z14, z15, z16, z17, z18, z19, z1a, z1b, z1c, z1d, z1e, z1f, z1g, z1h, z1i, z1j, z1k, z1l, z1m, z1n, z1o, z1p, z1q, z1r, z1s, z1t, z1u, z1v, z1w, z1x, z1y, z1z, z20, z21, z22, z23, z24, z25, z26, z27, z28, z29, z2a, z2b, z2c, z2d, z2e, z2f, z2g, z2h, z2i, z2j, z2k, z2l, z2m, z2n, z2o, z2p, z2q, z2r, z2s, z2t, z2u, z2v, z2w, z2x, z2y, z2z, z30, z31, z32, z33, z34, z35, z36, z37, z38, z39, z3a, z3b, z3c, z3d, z3e, z3f, z3g, z3h, z3i, z3j, z3k, z3l, z3m, z3n, z3o, z3p, z3q, z3r, z3s, z3t, z3u, z3v, z3w, evop, ev, ofVal, tget, tput, ok, V.isUndef, intBin, guardOf, initT, Ch.on, calleeOf, withArgs, told, xport, xports, tids, tidss, hget, hput, Blk.ice, freeze, V.cells, D.cells, V.isAgg, V.one, V.clo, clos, V.toD, loadD, structAt, eqCells, D.scalarEq, sliceOf, partsD, partsV, bound, isPtr, Blk.width, elems, lenOf, splice, D.over, resOf, resV, resVs, z3x, z3y, z3z, z40, z41, ↓reduceIte, reduceCtorEq, ↓reduceDIte, Nat.reduceLT, Nat.reduceEqDiff, Nat.reduceAdd, Nat.reduceSub, Nat.reduceMul, Nat.reduceLeDiff, Nat.reduceBEq, Nat.reduceBNe, z42, z43, z44, z45, z46, z47, z48, z49, z4a, z4b, z4c, z4d, z4e, z4f, z4g, z4h, z4i, z4j, z4k, z4l, z4m, z4n, z4o, z4p, z4q, z4r, z4s, z4t, z4u, z4v, z4w, z4x, z4y, z4z, z50, z51, z52, z53, Int.reduceNeg, Int.reduceAdd, Int.reduceSub, Int.reduceToNat, z54, z55, z56, z57, z58, z59, z5a, z5b, nilTest, z5c, z5d, z5e, z5f, shiftH, Blk.ren, V.ren, renL, initV, frameH, putL, frρ, z5g, z5h, z5i, z5j, E2, E3, E4, E5, E6, E7, E8, E12, E15, E16, E17, E18, E19, E21, E22, E23, E24, E25, E26, E27, E30, E32, E50, E53, E56, E57, E71, E94, E96, E106, E111, E119, E120, E124, E126, E131, E132, E133, E135, E136, E138, E139, E140, E141, E142, dI, dW]
    have hw : IntKind.i64.wrap ((i : Int) + 1) = ((i + 1 : Nat) : Int) := by rw [wrap_in (by omega)]; omega
    split
    · rename_i h
      have : l.1.any wrongW = true := List.any_eq_true.2 ⟨_, List.getElem_mem hi, by simpa using h⟩
      simp [logR, this]
    · rename_i h
      refine ⟨fun j hj x hxj => ?_, Weak.sub (by simp [tget, hw])⟩
      by_cases e : j = i
      · subst e; rw [hx] at hxj; cases hxj; simpa using h
      · exact hI j (by omega) x hxj
  · have h' : ¬ ((l.1.length : Int) < (l.1.length : Int)) := by omega
    have hany : l.1.any wrongW = false := by
      rw [List.any_eq_false]
      intro x hx
      obtain ⟨j, hj, rfl⟩ := List.getElem_of_mem hx
      simpa using hI j hj _ (List.getElem?_eq_getElem hj)
    simp (maxSteps := 2000000) -implicitDefEqProofs only [z00, z01, z02, z03, z04, z05, z06, z07, z08, z09, z0a, z0b, z0c, z0d, z0e, z0f, z0g, z0h, z0i, z0j, z0k, z0l, z0m, z0n, z0o, z0p, z0q, z0r, z0s, z0t, z0u, z0v, z0w, z0x, z0y, z0z, z10, z11, z12, z13, z14, z15, z16, z17, z18, z19, z1a, z1b, z1c, z1d, z1e, z1f, z1g, z1h, z1i, z1j, z1k, z1l, z1m, z1n, z1o, z1p, z1q, z1r, z1s, z1t, z1u, z1v, z1w, z1x, z1y, z1z, z20, z21, z22, z23, z24, z25, z26, z27, z28, z29, z2a, z2b, z2c, z2d, z2e, z2f, z2g, z2h, z2i, z2j, z2k, z2l, z2m, z2n, z2o, z2p, z2q, z2r, z2s, z2t, z2u, z2v, z2w, z2x, z2y, z2z, z30, z31, z32, z33, z34, z35, z36, z37, z38, z39, z3a, z3b, z3c, z3d, z3e, z3f, z3g, z3h, z3i, z3j, z3k, z3l, z3m, z3n, z3o, z3p, z3q, z3r, z3s, z3t, z3u, z3v, z3w, evop, ev, ofVal, tget, tput, ok, V.isUndef, intBin, guardOf, initT, Ch.on, calleeOf, withArgs, told, xport, xports, tids, tidss, hget, hput, Blk.ice, freeze, V.cells, D.cells, V.isAgg, V.one, V.clo, clos, V.toD, loadD, structAt, eqCells, D.scalarEq, sliceOf, partsD, partsV, bound, isPtr, Blk.width, elems, lenOf, splice, D.over, resOf, resV, resVs, z3x, z3y, z3z, z40, z41, ↓reduceIte, reduceCtorEq, ↓reduceDIte, Nat.reduceLT, Nat.reduceEqDiff, Nat.reduceAdd, Nat.reduceSub, Nat.reduceMul, Nat.reduceLeDiff, Nat.reduceBEq, Nat.reduceBNe, z42, z43, z44, z45, z46, z47, z48, z49, z4a, z4b, z4c, z4d, z4e, z4f, z4g, z4h, z4i, z4j, z4k, z4l, z4m, z4n, z4o, z4p, z4q, z4r, z4s, z4t, z4u, z4v, z4w, z4x, z4y, z4z, z50, z51, z52, z53, Int.reduceNeg, Int.reduceAdd, Int.reduceSub, Int.reduceToNat, z54, z55, z56, z57, z58, z59, z5a, z5b, nilTest, z5c, z5d, z5e, z5f, shiftH, Blk.ren, V.ren, renL, initV, frameH, putL, frρ, z5g, z5h, z5i, z5j, E2, E3, E4, E5, E6, E7, E8, E12, E15, E16, E17, E18, E19, E21, E22, E23, E24, E25, E26, E27, E30, E32, E50, E53, E56, E57, E71, E94, E96, E106, E111, E119, E120, E124, E126, E131, E132, E133, E135, E136, E138, E139, E140, E141, E142, dI, dW, h', bLg]
    refine wloop_count l.2.length (fun i => [(6, .d (.int .i64 i)), (5, .d (.int .i64 (lowOf l.2 i))), (1, .ptr 0 0 0)]) (fun _ => [bLg l]) (fun i => ∀ j < i, ∀ x, l.2[j]? = some x → lowOf l.2 j ≤ x ∧ offI l.1.length x = false ∧ 0 ≤ x) (fun j hj => by omega) (Weak.sub (by simp [tget, lowOf])) (fun i hi hJ => ?_) (fun hJ => ?_)
    · have hx : l.2[i]? = some l.2[i] := List.getElem?_eq_getElem hi
      have h' : ((i : Int) < (l.2.length : Int)) := by omega
      have hw : IntKind.i64.wrap ((i : Int) + 1) = ((i + 1 : Nat) : Int) := by rw [wrap_in (by omega)]; omega
      simp (maxSteps := 2000000) -implicitDefEqProofs only [z00, z01, z02, z03, z04, z05, z06, z07, z08, z09, z0a, z0b, z0c, z0d, z0e, z0f, z0g, z0h, z0i, z0j, z0k, z0l, z0m, z0n, z0o, z0p, z0q, z0r, z0s, z0t, z0u, z0v, z0w, z0x, z0y, z0z, z10, z11, z12, z13, z14, z15, z16, z17, z18, z19, z1a, z1b, z1c, z1d, z1e, z1f, z1g, z1h, z1i, z1j, z1k, z1l, z1m, z1n, z1o, z1p, z1q, z1r, z1s, z1t, z1u, z1v, z1w, z1x, z1y, z1z, z20, z21, z22, z23, z24, z25, z26, z27, z28, z29, z2a, z2b, z2c, z2d, z2e, z2f, z2g, z2h, z2i, z2j, z2k, z2l, z2m, z2n, z2o, z2p, z2q, z2r, z2s, z2t, z2u, z2v, z2w, z2x, z2y, z2z, z30, z31, z32, z33, z34, z35, z36, z37, z38, z39, z3a, z3b, z3c, z3d, z3e, z3f, z3g, z3h, z3i, z3j, z3k, z3l, z3m, z3n, z3o, z3p, z3q, z3r, z3s, z3t, z3u, z3v, z3w, evop, ev, ofVal, tget, tput, ok, V.isUndef, intBin, guardOf, initT, Ch.on, calleeOf, withArgs, told, xport, xports, tids, tidss, hget, hput, Blk.ice, freeze, V.cells, D.cells, V.isAgg, V.one, V.clo, clos, V.toD, loadD, structAt, eqCells, D.scalarEq, sliceOf, partsD, partsV, bound, isPtr, Blk.width, elems, lenOf, splice, D.over, resOf, resV, resVs, z3x, z3y, z3z, z40, z41, ↓reduceIte, reduceCtorEq, ↓reduceDIte, Nat.reduceLT, Nat.reduceEqDiff, Nat.reduceAdd, Nat.reduceSub, Nat.reduceMul, Nat.reduceLeDiff, Nat.reduceBEq, Nat.reduceBNe, z42, z43, z44, z45, z46, z47, z48, z49, z4a, z4b, z4c, z4d, z4e, z4f, z4g, z4h, z4i, z4j, z4k, z4l, z4m, z4n, z4o, z4p, z4q, z4r, z4s, z4t, z4u, z4v, z4w, z4x, z4y, z4z, z50, z51, z52, z53, Int.reduceNeg, Int.reduceAdd, Int.reduceSub, Int.reduceToNat, z54, z55, z56, z57, z58, z59, z5a, z5b, nilTest, z5c, z5d, z5e, z5f, shiftH, Blk.ren, V.ren, renL, initV, frameH, putL, frρ, z5g, z5h, z5i, z5j, E2, E3, E4, E5, E6, E7, E8, E12, E15, E16, E17, E18, E19, E21, E22, E23, E24, E25, E26, E27, E30, E32, E50, E53, E56, E57, E71, E94, E96, E106, E111, E119, E120, E124, E126, E131, E132, E133, E135, E136, E138, E139, E140, E141, E142, dI, dW, h', bLg, List.getElem?_map, hx, Option.map_some, Int.natCast_nonneg]
      refine wdraw_plan [⟨[], false, [31, 34], [], false⟩, ⟨[0], false, [31, 34], [], false⟩, ⟨[], false, [29, 30, 34], [0, 1], false⟩, ⟨[0, 1, 2], false, [34], [], false⟩, ⟨[0, 1, 2, 3], false, [34], [], false⟩, ⟨[], false, [29, 30, 31, 32, 33], [0, 1, 2, 3, 4], false⟩, ⟨[0, 1, 2, 3, 4, 5], true, [], [], false⟩, ⟨[0, 1, 2, 3, 4, 5, 6], true, [], [], false⟩, ⟨[0, 1, 2, 3, 4, 5, 6, 7], false, [39, 42, 43, 44], [], false⟩, ⟨[0, 1, 2, 3, 4, 5, 6, 7, 8], false, [39, 42, 43, 44], [], false⟩, ⟨[0, 1, 2, 3, 4, 5, 6, 7], false, [37, 38, 42, 43, 44], [8, 9], false⟩, ⟨[0, 1, 2, 3, 4, 5, 6, 7, 8, 9, 10], false, [42, 43, 44], [], false⟩, ⟨[0, 1, 2, 3, 4, 5, 6, 7, 8, 9, 10, 11], false, [42, 43, 44], [], false⟩, ⟨[0, 1, 2, 3, 4, 5, 6, 7], false, [37, 38, 39, 40, 41], [8, 9, 10, 11, 12], false⟩, ⟨[0, 1, 2, 3, 4, 5, 6, 7, 13], false, [37, 38, 39, 40, 41], [8, 9, 10, 11, 12], false⟩, ⟨[0, 1, 2, 3, 4, 5, 6, 7, 13, 14], false, [37, 38, 39, 40, 41], [8, 9, 10, 11, 12], false⟩, ⟨[0, 1, 2, 3, 4, 5, 6, 7, 8, 9, 10, 11, 12, 13, 14, 15], false, [], [], false⟩, ⟨[0, 1, 2, 3, 4, 5, 6, 7, 8, 9, 10, 11, 12, 13, 14, 15, 16], true, [], [], false⟩] (by decide) ?_
      simp (maxSteps := 2000000) -implicitDefEqProofs only [z00, z01, z02, z03, z04, z05, z06, z07, z08, z09, z0a, z0b, z0c, z0d, z0e, z0f, z0g, z0h, z0i, z0j, z0k, z0l, z0m, z0n, z0o, z0p, z0q, z0r, z0s, z0t, z0u, z0v, z0w, z0x, z0y, z0z, z10, z11, z12, z13, z14, z15, z16, z17, z18, z19, z1a, z1b, z1c, z1d, z1e, z1f, z1g, z1h, z1i, z1j, z1k, z1l, z1m, z1n, z1o, z1p, z1q, z1r, z1s, z1t, z1u, z1v, z1w, z1x, z1y, z1z, z20, z21, z22, z23, z24, z25, z26, z27, z28, z29, z2a, z2b, z2c, z2d, z2e, z2f, z2g, z2h, z2i, z2j, z2k, z2l, z2m, z2n, z2o, z2p, z2q, z2r, z2s, z2t, z2u, z2v, z2w, z2x, z2y, z2z, z30, z31, z32, z33, z34, z35, z36, z37, z38, z39, z3a, z3b, z3c, z3d, z3e, z3f, z3g, z3h, z3i, z3j, z3k, z3l, z3m, z3n, z3o, z3p, z3q, z3r, z3s, z3t, z3u, z3v, z3w, evop, ev, ofVal, tget, tput, ok, V.isUndef, intBin, guardOf, initT, Ch.on, calleeOf, withArgs, told, xport, xports, tids, tidss, hget, hput, Blk.ice, freeze, V.cells, D.cells, V.isAgg, V.one, V.clo, clos, V.toD, loadD, structAt, eqCells, D.scalarEq, sliceOf, partsD, partsV, bound, isPtr, Blk.width, elems, lenOf, splice, D.over, resOf, resV, resVs, z3x, z3y, z3z, z40, z41, ↓reduceIte, reduceCtorEq, ↓reduceDIte, Nat.reduceLT, Nat.reduceEqDiff, Nat.reduceAdd, Nat.reduceSub, Nat.reduceMul, Nat.reduceLeDiff, Nat.reduceBEq, Nat.reduceBNe, z42, z43, z44, z45, z46, z47, z48, z49, z4a, z4b, z4c, z4d, z4e, z4f, z4g, z4h, z4i, z4j, z4k, z4l, z4m, z4n, z4o, z4p, z4q, z4r, z4s, z4t, z4u, z4v, z4w, z4x, z4y, z4z, z50, z51, z52, z53, Int.reduceNeg, Int.reduceAdd, Int.reduceSub, Int.reduceToNat, z54, z55, z56, z57, z58, z59, z5a, z5b, nilTest, z5c, z5d, z5e, z5f, shiftH, Blk.ren, V.ren, renL, initV, frameH, putL, frρ, z5g, z5h, z5i, z5j, E2, E3, E4, E5, E6, E7, E8, E12, E15, E16, E17, E18, E19, E21, E22, E23, E24, E25, E26, E27, E30, E32, E50, E53, E56, E57, E71, E94, E96, E106, E111, E119, E120, E124, E126, E131, E132, E133, E135, E136, E138, E139, E140, E141, E142, dI, dW, h', bLg, List.getElem?_map, hx, Option.map_some, Int.natCast_nonneg]
      have hlow : lowOf l.2 (i + 1) = l.2[i] := by simp [lowOf, hx]
      have hlow0 : ∀ (j : Nat) (x : Int), l.2[j]? = some x → logR l = true → lowOf l.2 j ≤ x := fun j x hj hr => by
        simp only [logR, Bool.and_eq_true, Bool.not_eq_true', List.any_eq_false] at hr
        obtain ⟨⟨_, r2⟩, r3⟩ := hr
        unfold lowOf
        split
        · have := r2 x (List.mem_of_getElem? hj)
          simp [offI] at this; omega
        · rename_i h0
          obtain ⟨k, rfl⟩ : ∃ k, j = k + 1 := ⟨j - 1, by omega⟩
          have hk : k < l.2.length := by have := (List.getElem?_eq_some_iff.1 hj).1; omega
          simp only [Nat.add_sub_cancel, List.getElem?_eq_getElem hk, Option.getD_some]
          exact (srt_iff _).1 r3 k _ _ (List.getElem?_eq_getElem hk) hj
      have hoff : ∀ x, x ∈ l.2 → logR l = true → offI l.1.length x = false := fun x hx hr => by
        simp only [logR, Bool.and_eq_true, Bool.not_eq_true', List.any_eq_false] at hr
        simpa using hr.1.2 x hx
      split
      · rename_i hlt
        split
        · rename_i hgt
          have : logR l = false := by
            rw [Bool.eq_false_iff]
            intro hr
            have := hoff _ (List.getElem_mem hi) hr
            simp [offI] at this; omega
          rw [this]
        · rename_i hgt
          refine ⟨fun j hj x hxj => ?_, Weak.trims 1 rfl (by simp [tget, hw, hlow, V.lower]) (by simp [Blk.lower, lowerL, V.lower])⟩
          by_cases e : j = i
          · subst e; rw [hx] at hxj; cases hxj
            have h0 : 0 ≤ lowOf l.2 j := by
              unfold lowOf
              split
              · exact Int.le_refl _
              · rename_i h0
                have hk : j - 1 < l.2.length := by omega
                simp only [List.getElem?_eq_getElem hk, Option.getD_some]
                exact (hJ (j - 1) (by omega) _ (List.getElem?_eq_getElem hk)).2.2
            simp at hlt
            refine ⟨hlt, ?_, by omega⟩
            simp [offI]; omega
          · exact hJ j (by omega) x hxj
      · rename_i hlt
        have : logR l = false := by
          rw [Bool.eq_false_iff]
          intro hr
          have := hlow0 i _ hx hr
          simp at hlt; omega
        rw [this]
    · have h' : ¬ ((l.2.length : Int) < (l.2.length : Int)) := by omega
      simp (maxSteps := 2000000) -implicitDefEqProofs only [z00, z01, z02, z03, z04, z05, z06, z07, z08, z09, z0a, z0b, z0c, z0d, z0e, z0f, z0g, z0h, z0i, z0j, z0k, z0l, z0m, z0n, z0o, z0p, z0q, z0r, z0s, z0t, z0u, z0v, z0w, z0x, z0y, z0z, z10, z11, z12, z13, z14, z15, z16, z17, z18, z19, z1a, z1b, z1c, z1d, z1e, z1f, z1g, z1h, z1i, z1j, z1k, z1l, z1m, z1n, z1o, z1p, z1q, z1r, z1s, z1t, z1u, z1v, z1w, z1x, z1y, z1z, z20, z21, z22, z23, z24, z25, z26, z27, z28, z29, z2a, z2b, z2c, z2d, z2e, z2f, z2g, z2h, z2i, z2j, z2k, z2l, z2m, z2n, z2o, z2p, z2q, z2r, z2s, z2t, z2u, z2v, z2w, z2x, z2y, z2z, z30, z31, z32, z33, z34, z35, z36, z37, z38, z39, z3a, z3b, z3c, z3d, z3e, z3f, z3g, z3h, z3i, z3j, z3k, z3l, z3m, z3n, z3o, z3p, z3q, z3r, z3s, z3t, z3u, z3v, z3w, evop, ev, ofVal, tget, tput, ok, V.isUndef, intBin, guardOf, initT, Ch.on, calleeOf, withArgs, told, xport, xports, tids, tidss, hget, hput, Blk.ice, freeze, V.cells, D.cells, V.isAgg, V.one, V.clo, clos, V.toD, loadD, structAt, eqCells, D.scalarEq, sliceOf, partsD, partsV, bound, isPtr, Blk.width, elems, lenOf, splice, D.over, resOf, resV, resVs, z3x, z3y, z3z, z40, z41, ↓reduceIte, reduceCtorEq, ↓reduceDIte, Nat.reduceLT, Nat.reduceEqDiff, Nat.reduceAdd, Nat.reduceSub, Nat.reduceMul, Nat.reduceLeDiff, Nat.reduceBEq, Nat.reduceBNe, z42, z43, z44, z45, z46, z47, z48, z49, z4a, z4b, z4c, z4d, z4e, z4f, z4g, z4h, z4i, z4j, z4k, z4l, z4m, z4n, z4o, z4p, z4q, z4r, z4s, z4t, z4u, z4v, z4w, z4x, z4y, z4z, z50, z51, z52, z53, Int.reduceNeg, Int.reduceAdd, Int.reduceSub, Int.reduceToNat, z54, z55, z56, z57, z58, z59, z5a, z5b, nilTest, z5c, z5d, z5e, z5f, shiftH, Blk.ren, V.ren, renL, initV, frameH, putL, frρ, z5g, z5h, z5i, z5j, E2, E3, E4, E5, E6, E7, E8, E12, E15, E16, E17, E18, E19, E21, E22, E23, E24, E25, E26, E27, E30, E32, E50, E53, E56, E57, E71, E94, E96, E106, E111, E119, E120, E124, E126, E131, E132, E133, E135, E136, E138, E139, E140, E141, E142, dI, dW, h', bLg]
      have hoff : l.2.any (offI l.1.length) = false := by
        rw [List.any_eq_false]
        intro x hx
        obtain ⟨j, hj, rfl⟩ := List.getElem_of_mem hx
        have := (hJ j hj _ (List.getElem?_eq_getElem hj)).2.1
        simpa using this
      have hs : srt l.2 = true := (srt_iff _).2 (fun j x y hx hy => by
        have hj := (List.getElem?_eq_some_iff.1 hy).1
        have := (hJ (j + 1) hj y hy).1
        simpa [lowOf, hx] using this)
      unfold logR
      rw [hany, hoff, hs]
      (repeat' split) <;> (first | rfl | (simp_all [IntKind.wrap_i64]; done) | (simp [IntKind.wrap_i64] at * <;> omega) | (simp_all [IntKind.wrap_i64] <;> omega) | (congr 2; rw [Bool.eq_iff_iff]; simp_all; omega) | grind)

end Go.Proofs.Ythpapgbpmkgfeaa.AM
