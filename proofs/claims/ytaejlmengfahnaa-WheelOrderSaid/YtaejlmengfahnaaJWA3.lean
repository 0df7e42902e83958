/- The texts Env, Fa, Fb, Rl, Fc, Fd, Fe, Ff, Fg, Fh, Fi, Fy, Fj, Ua, Ub, Am33, Am29, Am34, Am35, Am42, Uc, Am43, Ud, Ue, Uf, Ug, Uh, joined. -/
import Derived.Test.YtaejlmengfahnaaRows
import Derived.KernelRfl
import Derived.Test.YtaejlmengfahnaaShB
import Derived.Lib.Overlaps
import Derived.Test.YtaejlmengfahnaaJWA2

set_option linter.all false
namespace Go.Proofs.Ytaejlmengfahnaa.AM
open Go Go.RowKit

theorem hmix : Try.prog.follows .mixedOrders = true := by kernel_rfl
theorem E2 : envOf Try.prog 2 = some { agg := false, cmp := [], size := 1, bytes := 8, shape := .int .i64, zero := [.d (.int .i64 0)] } := by kernel_rfl
theorem E3 : envOf Try.prog 3 = some { agg := false, cmp := [], size := 1, bytes := 8, shape := .int .i64, zero := [.d (.int .i64 0)] } := by kernel_rfl
theorem E4 : envOf Try.prog 4 = some { agg := false, cmp := [], size := 1, bytes := 1, shape := .bool, zero := [.d (.bool false)] } := by kernel_rfl
theorem E5 : envOf Try.prog 5 = some { agg := false, cmp := [], size := 1, bytes := 1, shape := .int .u8, zero := [.d (.int .u8 0)] } := by kernel_rfl
theorem E6 : envOf Try.prog 6 = some { agg := false, cmp := [], size := 1, bytes := 1, shape := .int .u8, zero := [.d (.int .u8 0)] } := by kernel_rfl
theorem E7 : envOf Try.prog 7 = some { agg := true, cmp := [false, false, true, false], size := 4, bytes := 24, shape := .struct [(0, 1), (1, 1), (2, 1), (3, 1)], zero := [.d (.int .i64 0), .d (.int .i64 0), .d (.bool false), .d (.int .u8 0)] } := by kernel_rfl
theorem E8 : envOf Try.prog 8 = some { agg := true, cmp := [false, false, true, false], size := 4, bytes := 24, shape := .struct [(0, 1), (1, 1), (2, 1), (3, 1)], zero := [.d (.int .i64 0), .d (.int .i64 0), .d (.bool false), .d (.int .u8 0)] } := by kernel_rfl
theorem E12 : envOf Try.prog 12 = some { agg := false, cmp := [], size := 1, bytes := 8, shape := .int .u64, zero := [.d (.int .u64 0)] } := by kernel_rfl
theorem E15 : envOf Try.prog 15 = some { agg := false, cmp := [], size := 1, bytes := 8, shape := .other, zero := [.d .nilp] } := by kernel_rfl
theorem E16 : envOf Try.prog 16 = some { agg := false, cmp := [], size := 1, bytes := 8, shape := .other, zero := [.d .nilp] } := by kernel_rfl
theorem E17 : envOf Try.prog 17 = some { agg := false, cmp := [], size := 1, bytes := 8, shape := .other, zero := [.d .nilp] } := by kernel_rfl
theorem E18 : envOf Try.prog 18 = some { agg := true, cmp := [], size := 1, bytes := 8, shape := .struct [(0, 1)], zero := [.d .nilp] } := by kernel_rfl
theorem E19 : envOf Try.prog 19 = some { agg := true, cmp := [], size := 1, bytes := 8, shape := .struct [(0, 1)], zero := [.d .nilp] } := by kernel_rfl
theorem E21 : envOf Try.prog 21 = some { agg := false, cmp := [], size := 1, bytes := 4, shape := .int .i32, zero := [.d (.int .i32 0)] } := by kernel_rfl
theorem E22 : envOf Try.prog 22 = some { agg := false, cmp := [], size := 1, bytes := 24, shape := .slice 53, zero := [.nils] } := by kernel_rfl
theorem E23 : envOf Try.prog 23 = some { agg := true, cmp := [], size := 8, bytes := 192, shape := .array 8 22, zero := [.nils, .nils, .nils, .nils, .nils, .nils, .nils, .nils] } := by kernel_rfl
theorem E24 : envOf Try.prog 24 = some { agg := true, cmp := [], size := 9, bytes := 200, shape := .struct [(0, 1), (1, 8)], zero := [.d (.int .i64 0), .nils, .nils, .nils, .nils, .nils, .nils, .nils, .nils] } := by kernel_rfl
theorem E25 : envOf Try.prog 25 = some { agg := true, cmp := [], size := 9, bytes := 200, shape := .struct [(0, 1), (1, 8)], zero := [.d (.int .i64 0), .nils, .nils, .nils, .nils, .nils, .nils, .nils, .nils] } := by kernel_rfl
theorem E28 : envOf Try.prog 28 = some { agg := false, cmp := [], size := 1, bytes := 24, shape := .slice 60, zero := [.nils] } := by kernel_rfl
theorem E29 : envOf Try.prog 29 = some { agg := true, cmp := [], size := 8, bytes := 192, shape := .array 8 28, zero := [.nils, .nils, .nils, .nils, .nils, .nils, .nils, .nils] } := by kernel_rfl
theorem E30 : envOf Try.prog 30 = some { agg := true, cmp := [], size := 9, bytes := 200, shape := .struct [(0, 1), (1, 8)], zero := [.d (.int .i64 0), .nils, .nils, .nils, .nils, .nils, .nils, .nils, .nils] } := by kernel_rfl
theorem E31 : envOf Try.prog 31 = some { agg := true, cmp := [], size := 9, bytes := 200, shape := .struct [(0, 1), (1, 8)], zero := [.d (.int .i64 0), .nils, .nils, .nils, .nils, .nils, .nils, .nils, .nils] } := by kernel_rfl
theorem E34 : envOf Try.prog 34 = some { agg := false, cmp := [], size := 1, bytes := 8, shape := .int .i64, zero := [.d (.int .i64 0)] } := by kernel_rfl
theorem E52 : envOf Try.prog 52 = some { agg := true, cmp := [false, false], size := 2, bytes := 16, shape := .struct [(0, 1), (1, 1)], zero := [.d (.int .i64 0), .d (.int .i64 0)] } := by kernel_rfl
theorem E53 : envOf Try.prog 53 = some { agg := true, cmp := [false, false], size := 2, bytes := 16, shape := .struct [(0, 1), (1, 1)], zero := [.d (.int .i64 0), .d (.int .i64 0)] } := by kernel_rfl
theorem E56 : envOf Try.prog 56 = some { agg := false, cmp := [], size := 1, bytes := 2, shape := .int .u16, zero := [.d (.int .u16 0)] } := by kernel_rfl
theorem E57 : envOf Try.prog 57 = some { agg := false, cmp := [], size := 1, bytes := 24, shape := .slice 5, zero := [.nils] } := by kernel_rfl
theorem E59 : envOf Try.prog 59 = some { agg := true, cmp := [], size := 9, bytes := 72, shape := .array 9 3, zero := [.d (.int .i64 0), .d (.int .i64 0), .d (.int .i64 0), .d (.int .i64 0), .d (.int .i64 0), .d (.int .i64 0), .d (.int .i64 0), .d (.int .i64 0), .d (.int .i64 0)] } := by kernel_rfl
theorem E60 : envOf Try.prog 60 = some { agg := true, cmp := [false, false], size := 2, bytes := 16, shape := .struct [(0, 1), (1, 1)], zero := [.d (.int .i64 0), .d (.int .i64 0)] } := by kernel_rfl
theorem E66 : envOf Try.prog 66 = some { agg := false, cmp := [], size := 1, bytes := 8, shape := .other, zero := [.d .nilp] } := by kernel_rfl
theorem E80 : envOf Try.prog 80 = some { agg := true, cmp := [], size := 9, bytes := 9, shape := .array 9 4, zero := [.d (.bool false), .d (.bool false), .d (.bool false), .d (.bool false), .d (.bool false), .d (.bool false), .d (.bool false), .d (.bool false), .d (.bool false)] } := by kernel_rfl
theorem E82 : envOf Try.prog 82 = some { agg := false, cmp := [], size := 1, bytes := 8, shape := .int .u64, zero := [.d (.int .u64 0)] } := by kernel_rfl
theorem E89 : envOf Try.prog 89 = some { agg := false, cmp := [], size := 1, bytes := 24, shape := .slice 3, zero := [.nils] } := by kernel_rfl
theorem E94 : envOf Try.prog 94 = some { agg := false, cmp := [], size := 1, bytes := 8, shape := .int .i64, zero := [.d (.int .i64 0)] } := by kernel_rfl
theorem E101 : envOf Try.prog 101 = some { agg := false, cmp := [], size := 1, bytes := 4, shape := .int .u32, zero := [.d (.int .u32 0)] } := by kernel_rfl
theorem E103 : envOf Try.prog 103 = some { agg := false, cmp := [], size := 1, bytes := 8, shape := .int .u64, zero := [.d (.int .u64 0)] } := by kernel_rfl
theorem E104 : envOf Try.prog 104 = some { agg := false, cmp := [], size := 1, bytes := 8, shape := .int .u64, zero := [.d (.int .u64 0)] } := by kernel_rfl
theorem E108 : envOf Try.prog 108 = some { agg := false, cmp := [], size := 1, bytes := 8, shape := .other, zero := [.d .nilp] } := by kernel_rfl
theorem E110 : envOf Try.prog 110 = some { agg := false, cmp := [], size := 1, bytes := 8, shape := .other, zero := [.d .nilp] } := by kernel_rfl
theorem E115 : envOf Try.prog 115 = some { agg := true, cmp := [], size := 0, bytes := 0, shape := .array 0 16, zero := [] } := by kernel_rfl
theorem E116 : envOf Try.prog 116 = some { agg := true, cmp := [], size := 0, bytes := 0, shape := .struct [(0, 0)], zero := [] } := by kernel_rfl
theorem E117 : envOf Try.prog 117 = some { agg := true, cmp := [], size := 0, bytes := 0, shape := .struct [(0, 0)], zero := [] } := by kernel_rfl
theorem E119 : envOf Try.prog 119 = some { agg := false, cmp := [], size := 1, bytes := 1, shape := .int .u8, zero := [.d (.int .u8 0)] } := by kernel_rfl
theorem E120 : envOf Try.prog 120 = some { agg := false, cmp := [], size := 1, bytes := 1, shape := .int .u8, zero := [.d (.int .u8 0)] } := by kernel_rfl
theorem E122 : envOf Try.prog 122 = some { agg := false, cmp := [], size := 1, bytes := 8, shape := .other, zero := [.d .nilp] } := by kernel_rfl
theorem E123 : envOf Try.prog 123 = some { agg := false, cmp := [], size := 1, bytes := 4, shape := .int .i32, zero := [.d (.int .i32 0)] } := by kernel_rfl
theorem E124 : envOf Try.prog 124 = some { agg := false, cmp := [], size := 1, bytes := 4, shape := .int .i32, zero := [.d (.int .i32 0)] } := by kernel_rfl
theorem E125 : envOf Try.prog 125 = some { agg := true, cmp := [], size := 11, bytes := 48, shape := .struct [(0, 1), (1, 1), (2, 1), (3, 1), (4, 1), (5, 1), (6, 1), (7, 1), (8, 1), (9, 1), (10, 1)], zero := [.d (.int .u64 0), .d (.int .u64 0), .d (.int .u32 0), .d (.int .u8 0), .d (.int .u8 0), .d (.int .u8 0), .d (.int .u8 0), .d .nilf, .d .nilp, .d (.int .i32 0), .d (.int .i32 0)] } := by kernel_rfl
theorem E126 : envOf Try.prog 126 = some { agg := true, cmp := [], size := 11, bytes := 48, shape := .struct [(0, 1), (1, 1), (2, 1), (3, 1), (4, 1), (5, 1), (6, 1), (7, 1), (8, 1), (9, 1), (10, 1)], zero := [.d (.int .u64 0), .d (.int .u64 0), .d (.int .u32 0), .d (.int .u8 0), .d (.int .u8 0), .d (.int .u8 0), .d (.int .u8 0), .d .nilf, .d .nilp, .d (.int .i32 0), .d (.int .i32 0)] } := by kernel_rfl
def zE := (And.intro (And.intro (And.intro (And.intro (And.intro @E2 (And.intro @E3 @E4)) (And.intro @E5 (And.intro @E6 @E7))) (And.intro (And.intro @E8 (And.intro @E12 @E15)) (And.intro @E16 (And.intro @E17 @E18)))) (And.intro (And.intro (And.intro @E19 (And.intro @E21 @E22)) (And.intro @E23 (And.intro @E24 @E25))) (And.intro (And.intro @E28 (And.intro @E29 @E30)) (And.intro @E31 (And.intro @E34 @E52))))) (And.intro (And.intro (And.intro (And.intro @E53 (And.intro @E56 @E57)) (And.intro @E59 (And.intro @E60 @E66))) (And.intro (And.intro @E80 (And.intro @E82 @E89)) (And.intro @E94 (And.intro @E101 @E103)))) (And.intro (And.intro (And.intro @E104 (And.intro @E108 @E110)) (And.intro @E115 (And.intro @E116 @E117))) (And.intro (And.intro @E119 (And.intro @E120 @E122)) (And.intro (And.intro @E123 @E124) (And.intro @E125 @E126))))))

end Go.Proofs.Ytaejlmengfahnaa.AM

set_option linter.all false
set_option maxRecDepth 100000
namespace Go.Proofs.Ytaejlmengfahnaa.AM
open Go Go.RowKit

def tickR (n : Int) : Bool := decide (0 ≤ n) && decide (n ≤ 2147483647)
def tickAfter (now ticks : Int) : Int × Int := if tickR now = true ∧ 1 ≤ ticks then (if 2147483647 - now < ticks then (0, 6) else (now + ticks, 0)) else (0, 1)

theorem c_tick_Right (n : Int) : CSpec Try.prog 44 [.int .i64 n] (.bool (tickR n)) := by
  refine CSpec.of_awp envOf_ok hmix Try.func44 rfl (fun args w => Try.call44 args w) (by simp [Try.f44]) ?_
  simp only [Try.f44]
  simp (maxSteps := 2000000) -implicitDefEqProofs only [zz, zE, evop, ev, ofVal, tget, tput, ok, V.isUndef, intBin, guardOf, initT, Ch.on, calleeOf, withArgs, told, xport, xports, tids, tidss, hget, hput, Blk.ice, freeze, V.cells, D.cells, V.isAgg, V.one, V.clo, clos, V.toD, loadD, structAt, eqCells, D.scalarEq, sliceOf, partsD, partsV, bound, isPtr, Blk.width, elems, lenOf, splice, D.over, resOf, resV, resVs, ↓reduceIte, reduceCtorEq, ↓reduceDIte, Nat.reduceLT, Nat.reduceEqDiff, Nat.reduceAdd, Nat.reduceSub, Nat.reduceMul, Nat.reduceLeDiff, Nat.reduceBEq, Nat.reduceBNe, Int.reduceNeg, Int.reduceAdd, Int.reduceSub, Int.reduceToNat, nilTest, shiftH, Blk.ren, V.ren, renL, initV, frameH, putL, frρ]
  unfold tickR
  split <;> simp_all <;> omega

theorem c_r04_Right (n : Int) : CSpec Try.prog 26 [.int .i64 n] (.bool (tickR n)) := by
  refine CSpec.of_awp envOf_ok hmix Try.func26 rfl (fun args w => Try.call26 args w) (by simp [Try.f26]) ?_
  simp only [Try.f26]
  simp (maxSteps := 2000000) -implicitDefEqProofs only [zz, zE, evop, ev, ofVal, tget, tput, ok, V.isUndef, intBin, guardOf, initT, Ch.on, calleeOf, withArgs, told, xport, xports, tids, tidss, hget, hput, Blk.ice, freeze, V.cells, D.cells, V.isAgg, V.one, V.clo, clos, V.toD, loadD, structAt, eqCells, D.scalarEq, sliceOf, partsD, partsV, bound, isPtr, Blk.width, elems, lenOf, splice, D.over, resOf, resV, resVs, ↓reduceIte, reduceCtorEq, ↓reduceDIte, Nat.reduceLT, Nat.reduceEqDiff, Nat.reduceAdd, Nat.reduceSub, Nat.reduceMul, Nat.reduceLeDiff, Nat.reduceBEq, Nat.reduceBNe, Int.reduceNeg, Int.reduceAdd, Int.reduceSub, Int.reduceToNat, nilTest, shiftH, Blk.ren, V.ren, renL, initV, frameH, putL, frρ]
  unfold tickR
  split <;> simp_all <;> omega

theorem c_tick_After (n k : Int) : CSpec Try.prog 30 [.int .i64 n, .int .i64 k] (.tuple [.int .i64 (tickAfter n k).1, .int .i64 (tickAfter n k).2]) := by
  refine CSpec.of_awp envOf_ok hmix Try.func30 rfl (fun args w => Try.call30 args w) (by simp [Try.f30]) ?_
  simp only [Try.f30]
  simp (maxSteps := 2000000) -implicitDefEqProofs only [zz, zE, evop, ev, ofVal, tget, tput, ok, V.isUndef, intBin, guardOf, initT, Ch.on, calleeOf, withArgs, told, xport, xports, tids, tidss, hget, hput, Blk.ice, freeze, V.cells, D.cells, V.isAgg, V.one, V.clo, clos, V.toD, loadD, structAt, eqCells, D.scalarEq, sliceOf, partsD, partsV, bound, isPtr, Blk.width, elems, lenOf, splice, D.over, resOf, resV, resVs, ↓reduceIte, reduceCtorEq, ↓reduceDIte, Nat.reduceLT, Nat.reduceEqDiff, Nat.reduceAdd, Nat.reduceSub, Nat.reduceMul, Nat.reduceLeDiff, Nat.reduceBEq, Nat.reduceBNe, Int.reduceNeg, Int.reduceAdd, Int.reduceSub, Int.reduceToNat, nilTest, shiftH, Blk.ren, V.ren, renL, initV, frameH, putL, frρ]
  refine acall_flat' (c_tick_Right _) rfl ?_
  try simp (maxSteps := 2000000) -implicitDefEqProofs only [zz, zE, evop, ev, ofVal, tget, tput, ok, V.isUndef, intBin, guardOf, initT, Ch.on, calleeOf, withArgs, told, xport, xports, tids, tidss, hget, hput, Blk.ice, freeze, V.cells, D.cells, V.isAgg, V.one, V.clo, clos, V.toD, loadD, structAt, eqCells, D.scalarEq, sliceOf, partsD, partsV, bound, isPtr, Blk.width, elems, lenOf, splice, D.over, resOf, resV, resVs, ↓reduceIte, reduceCtorEq, ↓reduceDIte, Nat.reduceLT, Nat.reduceEqDiff, Nat.reduceAdd, Nat.reduceSub, Nat.reduceMul, Nat.reduceLeDiff, Nat.reduceBEq, Nat.reduceBNe, Int.reduceNeg, Int.reduceAdd, Int.reduceSub, Int.reduceToNat, nilTest, shiftH, Blk.ren, V.ren, renL, initV, frameH, putL, frρ]
  unfold tickAfter tickR
  (repeat' split) <;> (first | rfl | (simp_all [IntKind.wrap_i64]; done) | (simp [IntKind.wrap_i64] at * <;> omega) | (simp_all [IntKind.wrap_i64] <;> omega) | (congr 2; rw [Bool.eq_iff_iff]; simp_all; omega) | grind)

theorem c_r04_After (n k : Int) : CSpec Try.prog 36 [.int .i64 n, .int .i64 k] (.tuple [.int .i64 (tickAfter n k).1, .int .i64 (tickAfter n k).2]) := by
  refine CSpec.of_awp envOf_ok hmix Try.func36 rfl (fun args w => Try.call36 args w) (by simp [Try.f36]) ?_
  simp only [Try.f36]
  simp (maxSteps := 2000000) -implicitDefEqProofs only [zz, zE, evop, ev, ofVal, tget, tput, ok, V.isUndef, intBin, guardOf, initT, Ch.on, calleeOf, withArgs, told, xport, xports, tids, tidss, hget, hput, Blk.ice, freeze, V.cells, D.cells, V.isAgg, V.one, V.clo, clos, V.toD, loadD, structAt, eqCells, D.scalarEq, sliceOf, partsD, partsV, bound, isPtr, Blk.width, elems, lenOf, splice, D.over, resOf, resV, resVs, ↓reduceIte, reduceCtorEq, ↓reduceDIte, Nat.reduceLT, Nat.reduceEqDiff, Nat.reduceAdd, Nat.reduceSub, Nat.reduceMul, Nat.reduceLeDiff, Nat.reduceBEq, Nat.reduceBNe, Int.reduceNeg, Int.reduceAdd, Int.reduceSub, Int.reduceToNat, nilTest, shiftH, Blk.ren, V.ren, renL, initV, frameH, putL, frρ]
  unfold tickAfter tickR
  (repeat' split) <;> (first | rfl | (simp_all [IntKind.wrap_i64]; done) | (simp [IntKind.wrap_i64] at * <;> omega) | (simp_all [IntKind.wrap_i64] <;> omega) | (congr 2; rw [Bool.eq_iff_iff]; simp_all; omega) | grind)

end Go.Proofs.Ytaejlmengfahnaa.AM

set_option linter.all false
set_option maxRecDepth 100000
namespace Go.Proofs.Ytaejlmengfahnaa.AM
open Go Go.RowKit

def dI (n : Int) : D := .int .i64 n
def dW (w : Int × Int) : D := .agg [.int .i64 w.1, .int .i64 w.2]

theorem c_isNaN (n : Int) : CSpec Try.prog 53 [.int .i64 n] (.bool false) := by
  refine CSpec.of_awp envOf_ok hmix Try.func53 rfl (fun args w => Try.call53 args w) (by simp [Try.f53]) ?_
  simp only [Try.f53]
  simp (maxSteps := 2000000) -implicitDefEqProofs only [zz, zE, evop, ev, ofVal, tget, tput, ok, V.isUndef, intBin, guardOf, initT, Ch.on, calleeOf, withArgs, told, xport, xports, tids, tidss, hget, hput, Blk.ice, freeze, V.cells, D.cells, V.isAgg, V.one, V.clo, clos, V.toD, loadD, structAt, eqCells, D.scalarEq, sliceOf, partsD, partsV, bound, isPtr, Blk.width, elems, lenOf, splice, D.over, resOf, resV, resVs, ↓reduceIte, reduceCtorEq, ↓reduceDIte, Nat.reduceLT, Nat.reduceEqDiff, Nat.reduceAdd, Nat.reduceSub, Nat.reduceMul, Nat.reduceLeDiff, Nat.reduceBEq, Nat.reduceBNe, Int.reduceNeg, Int.reduceAdd, Int.reduceSub, Int.reduceToNat, nilTest, shiftH, Blk.ren, V.ren, renL, initV, frameH, putL, frρ, dI, dW]

def idxOf {α : Type} (p : α → Bool) (l : List α) : Int := match l.findIdx? p with
  | some i => i
  | none => -1

theorem findIdx_at {α : Type} {p : α → Bool} {l : List α} {i : Nat} (h : i < l.length) (hb : ∀ j < i, ∀ x, l[j]? = some x → p x = false) (hp : p l[i] = true) : l.findIdx? p = some i := by
  rw [List.findIdx?_eq_some_iff_getElem]
  exact ⟨h, hp, fun j hj => by simpa using hb j hj _ (List.getElem?_eq_getElem (by omega))⟩

theorem idxOf_nonneg {α : Type} (p : α → Bool) (l : List α) : decide (0 ≤ idxOf p l) = l.any p := by
  unfold idxOf
  cases h : l.findIdx? p with
  | none =>
    rw [List.findIdx?_eq_none_iff] at h
    have : l.any p = false := by simpa using h
    simp [this]
  | some i =>
    rw [List.findIdx?_eq_some_iff_getElem] at h
    obtain ⟨h1, h2, _⟩ := h
    have : l.any p = true := List.any_eq_true.2 ⟨_, List.getElem_mem h1, h2⟩
    simp [this]

def srt : List Int → Bool
  | a :: b :: r => decide (a ≤ b) && srt (b :: r)
  | _ => true


end Go.Proofs.Ytaejlmengfahnaa.AM

set_option linter.all false
set_option maxRecDepth 100000
namespace Go.Proofs.Ytaejlmengfahnaa.AM
open Go Go.RowKit

theorem sh_int {P : Program} {n t : Nat} {k : IntKind} {ds : List D} (ht : P.underlying t = some (.int k)) (h : Sh P (n + 1) t ds) : ∃ x, ds = [.int k x] ∧ k.min ≤ x ∧ x ≤ k.max := by
  simp only [Sh, ht] at h
  obtain ⟨x, rfl, hw⟩ := h
  exact ⟨x, rfl, by simpa [Lit.wf] using hw⟩

theorem sh_list {P : Program} {n t e : Nat} {α : Type} {f : α → D} {g : α → Prop} {ds : List D} (ht : P.underlying t = some (.slice e)) (he : ∀ d, ShE P n e d → ∃ x, d = f x ∧ g x) (h : Sh P (n + 1) t ds) :
    ∃ xs : List α, ds = [.vec (xs.map f)] ∧ xs.length ≤ maxLen ∧ ∀ x ∈ xs, g x := by
  simp only [Sh, ht] at h
  obtain ⟨els, rfl, hl, hw⟩ := h
  have : ∀ els : List (List D), (∀ x ∈ els, Sh P n e x) → ∃ xs : List α, xs.length = els.length ∧ els.map (oneD P e) = xs.map f ∧ ∀ x ∈ xs, g x := by
    intro els
    induction els with
    | nil => exact fun _ => ⟨[], rfl, rfl, by simp⟩
    | cons a r ih =>
      intro h
      obtain ⟨y, hy, hg⟩ := he (oneD P e a) ⟨a, h a (by simp), rfl⟩
      obtain ⟨xs, h1, h2, h3⟩ := ih (fun x hx => h x (by simp [hx]))
      refine ⟨y :: xs, by simp [h1], by simp [h2, hy], ?_⟩
      intro x hx
      rcases List.mem_cons.1 hx with rfl | hx
      · exact hg
      · exact h3 x hx
  obtain ⟨xs, h1, h2, h3⟩ := this els hw
  exact ⟨xs, by rw [h2], by omega, h3⟩

theorem shE_bool {P : Program} {n t : Nat} {d : D} (ht : P.underlying t = some .bool) (h : ShE P (n + 1) t d) : ∃ b, d = .bool b := by
  obtain ⟨ds, h1, rfl⟩ := h
  simp only [Sh, ht] at h1
  obtain ⟨b, rfl⟩ := h1
  exact ⟨b, by simp [oneD, ht]⟩

end Go.Proofs.Ytaejlmengfahnaa.AM

set_option linter.all false
set_option maxRecDepth 100000
set_option maxHeartbeats 4000000
namespace Go.Proofs.Ytaejlmengfahnaa.AM
open Go Go.RowKit

theorem wrap_in {x : Int} (h : -9223372036854775808 ≤ x ∧ x ≤ 9223372036854775807) : IntKind.i64.wrap x = x := by rw [IntKind.wrap_i64]; omega

end Go.Proofs.Ytaejlmengfahnaa.AM

set_option linter.all false
set_option maxRecDepth 100000
set_option maxHeartbeats 4000000
namespace Go.Proofs.Ytaejlmengfahnaa.AM
open Go Go.RowKit

end Go.Proofs.Ytaejlmengfahnaa.AM

set_option linter.all false
set_option maxRecDepth 100000
set_option maxHeartbeats 4000000
namespace Go.Proofs.Ytaejlmengfahnaa.AM
open Go Go.RowKit

end Go.Proofs.Ytaejlmengfahnaa.AM

set_option linter.all false
set_option maxRecDepth 100000
set_option maxHeartbeats 4000000
namespace Go.Proofs.Ytaejlmengfahnaa.AM
open Go Go.RowKit

end Go.Proofs.Ytaejlmengfahnaa.AM

set_option linter.all false
set_option maxRecDepth 100000
set_option maxHeartbeats 4000000
namespace Go.Proofs.Ytaejlmengfahnaa.AM
open Go Go.RowKit

theorem set_dW (l : List (Int × Int)) (i : Nat) (a : Int × Int) : (l.map dW).set i (.agg [.int .i64 a.1, .int .i64 a.2]) = (l.set i a).map dW := by
  rw [List.map_set]; rfl

end Go.Proofs.Ytaejlmengfahnaa.AM

set_option linter.all false
set_option maxRecDepth 100000
set_option maxHeartbeats 4000000
namespace Go.Proofs.Ytaejlmengfahnaa.AM
open Go Go.RowKit

section
variable {α : Type}

def insK (lt : α → α → Bool) (x : α) (A : List α) : Nat := A.length - (A.reverse.takeWhile (lt x)).length
def insR (lt : α → α → Bool) (x : α) (A : List α) : List α := A.take (insK lt x A) ++ x :: A.drop (insK lt x A)
def isort (lt : α → α → Bool) (l : List α) : List α := l.foldl (fun A x => insR lt x A) []

theorem takeWhile_len {p : α → Bool} : ∀ (l : List α) (k : Nat), k ≤ l.length → (∀ i, i < k → ∀ y, l[i]? = some y → p y = true) → (∀ y, l[k]? = some y → p y = false) → (l.takeWhile p).length = k
  | [], k, h, _, _ => by simp at h; simp [h]
  | a :: l, 0, h, _, h2 => by
    have := h2 a rfl
    simp [List.takeWhile_cons, this]
  | a :: l, k + 1, h, h1, h2 => by
    have ha := h1 0 (by omega) a rfl
    rw [List.takeWhile_cons, if_pos ha, List.length_cons, takeWhile_len l k (by simpa using h) (fun i hi y hy => h1 (i + 1) (by omega) y (by simpa using hy)) (fun y hy => h2 y (by simpa using hy))]

theorem insK_eq {lt : α → α → Bool} {x : α} {A : List α} {k : Nat} (hk : k ≤ A.length) (h1 : ∀ i, k ≤ i → ∀ y, A[i]? = some y → lt x y = true) (h2 : k = 0 ∨ ∃ y, A[k - 1]? = some y ∧ lt x y = false) : insK lt x A = k := by
  unfold insK
  rw [takeWhile_len A.reverse (A.length - k) (by simp) (fun i hi y hy => ?_) (fun y hy => ?_)]
  · omega
  · rw [List.getElem?_reverse (by omega)] at hy
    exact h1 _ (by omega) y hy
  · have hlt : A.length - k < A.reverse.length := (List.getElem?_eq_some_iff.1 hy).1
    simp at hlt
    rw [List.getElem?_reverse (by omega)] at hy
    rcases h2 with h2 | ⟨z, hz, hz2⟩
    · omega
    · have e : A.length - 1 - (A.length - k) = k - 1 := by omega
      rw [e, hz] at hy; cases hy; exact hz2

def insAt (P A R : List α) (x : α) (k : Nat) : List α := P ++ (A.take k ++ x :: A.drop k) ++ R

theorem insAt_length {P A R : List α} {x : α} {k : Nat} (hk : k ≤ A.length) : (insAt P A R x k).length = P.length + A.length + 1 + R.length := by
  simp [insAt]; omega

theorem insAt_get {P A R : List α} {x : α} {k : Nat} (hk : k ≤ A.length) (i : Nat) : (insAt P A R x k)[i]? = if i < P.length then P[i]? else if i < P.length + k then A[i - P.length]? else if i = P.length + k then some x else if i ≤ P.length + A.length then A[i - P.length - 1]? else R[i - P.length - A.length - 1]? := by
  unfold insAt
  rw [List.append_assoc, List.getElem?_append]
  by_cases h1 : i < P.length
  · rw [if_pos h1, if_pos h1]
  · rw [if_neg h1, if_neg h1, List.getElem?_append]
    have hl : (A.take k ++ x :: A.drop k).length = A.length + 1 := by simp; omega
    rw [hl, List.getElem?_append]
    have hl2 : (A.take k).length = k := by simp; omega
    rw [hl2]
    by_cases h2 : i < P.length + k
    · rw [if_pos (by omega), if_pos (by omega), if_pos h2, List.getElem?_take, if_pos (by omega)]
    · rw [if_neg h2]
      by_cases h3 : i = P.length + k
      · rw [if_pos (by omega), if_neg (by omega), if_pos h3]
        have : i - P.length - k = 0 := by omega
        rw [this]; rfl
      · rw [if_neg h3]
        by_cases h4 : i ≤ P.length + A.length
        · rw [if_pos (by omega), if_neg (by omega), if_pos h4]
          obtain ⟨d, hd⟩ : ∃ d, i - P.length - k = d + 1 := ⟨i - P.length - k - 1, by omega⟩
          rw [hd, List.getElem?_cons_succ, List.getElem?_drop]
          congr 1; omega
        · rw [if_neg (by omega), if_neg h4]
          congr 1

theorem insAt_swap {P A R : List α} {x y : α} {k : Nat} (hk : k + 1 ≤ A.length) (hy : A[k]? = some y) : ((insAt P A R x (k + 1)).set (P.length + k + 1) y).set (P.length + k) x = insAt P A R x k := by
  apply List.ext_getElem?
  intro i
  have hlen := insAt_length (P := P) (R := R) (x := x) hk
  by_cases h1 : P.length + k = i
  · subst h1
    rw [List.getElem?_set_self (by simp; omega), insAt_get (by omega), if_neg (by omega), if_neg (by omega), if_pos rfl]
  · rw [List.getElem?_set_ne h1]
    by_cases h2 : P.length + k + 1 = i
    · subst h2
      rw [List.getElem?_set_self (by omega), insAt_get (by omega), if_neg (by omega), if_neg (by omega), if_neg (by omega), if_pos (by omega)]
      have : P.length + k + 1 - P.length - 1 = k := by omega
      rw [this, hy]
    · rw [List.getElem?_set_ne h2, insAt_get hk, insAt_get (by omega)]
      by_cases h3 : i < P.length
      · rw [if_pos h3, if_pos h3]
      · rw [if_neg h3, if_neg h3]
        by_cases h4 : i < P.length + k
        · rw [if_pos (by omega), if_pos h4]
        · have f1 : ¬ i < P.length + (k + 1) := by omega
          have f2 : ¬ i = P.length + (k + 1) := by omega
          have f3 : ¬ i = P.length + k := by omega
          simp only [f1, f2, f3, h4, if_false]

end

theorem isort_snoc {α : Type} (lt : α → α → Bool) (l : List α) (x : α) : isort lt (l ++ [x]) = insR lt x (isort lt l) := by simp [isort]
theorem insR_length {α : Type} (lt : α → α → Bool) (x : α) (A : List α) : (insR lt x A).length = A.length + 1 := by
  simp [insR]; unfold insK; omega
theorem isort_length {α : Type} (lt : α → α → Bool) : ∀ (l : List α), (isort lt l).length = l.length := by
  intro l
  have : ∀ (l A : List α), (l.foldl (fun A x => insR lt x A) A).length = A.length + l.length := by
    intro l
    induction l with
    | nil => intro A; simp
    | cons x l ih => intro A; simp only [List.foldl_cons]; rw [ih, insR_length]; simp; omega
  simpa [isort] using this l []

def sortPart (lt : Int × Int → Int × Int → Bool) (ws : List (Int × Int)) (a b : Nat) : List (Int × Int) := ws.take a ++ isort lt ((ws.drop a).take (b - a)) ++ ws.drop b

end Go.Proofs.Ytaejlmengfahnaa.AM

set_option linter.all false
set_option maxRecDepth 100000
set_option maxHeartbeats 4000000
namespace Go.Proofs.Ytaejlmengfahnaa.AM
open Go Go.RowKit

theorem CSpec.of_same {P : Program} {f : Nat} {k k' : IntKind} {n m : Int} (hc : Callable P f) (h : ∀ w, Calls P f #[.int k n] w fun e w' => e = .returned (.int k' m) ∧ w' = w) : CSpec P f [.int k n] (.int k' m) := by
  refine ⟨hc, fun S0 w cs hS0 hlen hrel => ?_⟩
  match cs, hlen with
  | [c], _ =>
    have := hrel 0 _ c rfl rfl
    cases this
    refine (h w).mono ?_
    rintro e w' ⟨rfl, rfl⟩
    exact ⟨_, S0, rfl, .int _ _, fun B hB => ⟨.inl hB, hS0 B hB⟩, .refl⟩

theorem c_bitsLen (x : Int) (h0 : 0 ≤ x) (h1 : x ≤ 18446744073709551615) : CSpec Try.prog 56 [.int .u64 x] (.int .i64 (Lib.bitLen x.toNat)) :=
  CSpec.of_same (fun args w => Try.call56 args w) (fun w => Try.bits_Len x w h0 h1)

end Go.Proofs.Ytaejlmengfahnaa.AM

set_option linter.all false
set_option maxRecDepth 100000
set_option maxHeartbeats 4000000
namespace Go.Proofs.Ytaejlmengfahnaa.AM
open Go Go.RowKit

def cmpI (a b : Int) : Int := if a < b then -1 else if b < a then 1 else 0

theorem c_Compare (a b : Int) : CSpec Try.prog 48 [.int .i64 a, .int .i64 b] (.int .i64 (cmpI a b)) := by
  refine CSpec.of_awp envOf_ok hmix Try.func48 rfl (fun args w => Try.call48 args w) (by simp [Try.f48]) ?_
  simp only [Try.f48]
  simp (maxSteps := 2000000) -implicitDefEqProofs only [zz, zE, evop, ev, ofVal, tget, tput, ok, V.isUndef, intBin, guardOf, initT, Ch.on, calleeOf, withArgs, told, xport, xports, tids, tidss, hget, hput, Blk.ice, freeze, V.cells, D.cells, V.isAgg, V.one, V.clo, clos, V.toD, loadD, structAt, eqCells, D.scalarEq, sliceOf, partsD, partsV, bound, isPtr, Blk.width, elems, lenOf, splice, D.over, resOf, resV, resVs, ↓reduceIte, reduceCtorEq, ↓reduceDIte, Nat.reduceLT, Nat.reduceEqDiff, Nat.reduceAdd, Nat.reduceSub, Nat.reduceMul, Nat.reduceLeDiff, Nat.reduceBEq, Nat.reduceBNe, Int.reduceNeg, Int.reduceAdd, Int.reduceSub, Int.reduceToNat, nilTest, shiftH, Blk.ren, V.ren, renL, initV, frameH, putL, frρ, dI, dW]
  refine acall_flat' (c_isNaN _) rfl ?_
  try simp (maxSteps := 2000000) -implicitDefEqProofs only [zz, zE, evop, ev, ofVal, tget, tput, ok, V.isUndef, intBin, guardOf, initT, Ch.on, calleeOf, withArgs, told, xport, xports, tids, tidss, hget, hput, Blk.ice, freeze, V.cells, D.cells, V.isAgg, V.one, V.clo, clos, V.toD, loadD, structAt, eqCells, D.scalarEq, sliceOf, partsD, partsV, bound, isPtr, Blk.width, elems, lenOf, splice, D.over, resOf, resV, resVs, ↓reduceIte, reduceCtorEq, ↓reduceDIte, Nat.reduceLT, Nat.reduceEqDiff, Nat.reduceAdd, Nat.reduceSub, Nat.reduceMul, Nat.reduceLeDiff, Nat.reduceBEq, Nat.reduceBNe, Int.reduceNeg, Int.reduceAdd, Int.reduceSub, Int.reduceToNat, nilTest, shiftH, Blk.ren, V.ren, renL, initV, frameH, putL, frρ, dI, dW]
  refine acall_flat' (c_isNaN _) rfl ?_
  try simp (maxSteps := 2000000) -implicitDefEqProofs only [zz, zE, evop, ev, ofVal, tget, tput, ok, V.isUndef, intBin, guardOf, initT, Ch.on, calleeOf, withArgs, told, xport, xports, tids, tidss, hget, hput, Blk.ice, freeze, V.cells, D.cells, V.isAgg, V.one, V.clo, clos, V.toD, loadD, structAt, eqCells, D.scalarEq, sliceOf, partsD, partsV, bound, isPtr, Blk.width, elems, lenOf, splice, D.over, resOf, resV, resVs, ↓reduceIte, reduceCtorEq, ↓reduceDIte, Nat.reduceLT, Nat.reduceEqDiff, Nat.reduceAdd, Nat.reduceSub, Nat.reduceMul, Nat.reduceLeDiff, Nat.reduceBEq, Nat.reduceBNe, Int.reduceNeg, Int.reduceAdd, Int.reduceSub, Int.reduceToNat, nilTest, shiftH, Blk.ren, V.ren, renL, initV, frameH, putL, frρ, dI, dW]
  unfold cmpI
  split
  · simp_all
  · split <;> simp_all


end Go.Proofs.Ytaejlmengfahnaa.AM

set_option linter.all false
set_option maxRecDepth 100000
set_option maxHeartbeats 4000000
namespace Go.Proofs.Ytaejlmengfahnaa.AM
open Go Go.RowKit

theorem c_Or2 (a b : Int) : CSpec Try.prog 47 [.vec [.int .i64 a, .int .i64 b]] (.int .i64 (if a = 0 then b else a)) := by
  refine CSpec.of_awp envOf_ok hmix Try.func47 rfl (fun args w => Try.call47 args w) (by simp [Try.f47]) ?_
  simp only [Try.f47]
  simp (maxSteps := 2000000) -implicitDefEqProofs only [zz, zE, evop, ev, ofVal, tget, tput, ok, V.isUndef, intBin, guardOf, initT, Ch.on, calleeOf, withArgs, told, xport, xports, tids, tidss, hget, hput, Blk.ice, freeze, V.cells, D.cells, V.isAgg, V.one, V.clo, clos, V.toD, loadD, structAt, eqCells, D.scalarEq, sliceOf, partsD, partsV, bound, isPtr, Blk.width, elems, lenOf, splice, D.over, resOf, resV, resVs, ↓reduceIte, reduceCtorEq, ↓reduceDIte, Nat.reduceLT, Nat.reduceEqDiff, Nat.reduceAdd, Nat.reduceSub, Nat.reduceMul, Nat.reduceLeDiff, Nat.reduceBEq, Nat.reduceBNe, Int.reduceNeg, Int.reduceAdd, Int.reduceSub, Int.reduceToNat, nilTest, shiftH, Blk.ren, V.ren, renL, initV, frameH, putL, frρ, dI, dW]
  refine wloop_count 2 (fun i => [(8, .d (.int .i64 i)), (7, .d (.int .i64 2)), (6, .d (.vec [.int .i64 a, .int .i64 b])), (3, .d (.int .i64 0)), (2, .d (.int .i64 0))]) (fun _ => []) (fun i => (1 ≤ i → a = 0) ∧ (2 ≤ i → b = 0)) ⟨fun h => by omega, fun h => by omega⟩ (Weak.sub (by simp [tget])) (fun i hi hI => ?_) (fun hI => ?_)
  · have e0 : ((0 : Nat) : Int) = 0 := rfl
    have e1 : ((1 : Nat) : Int) = 1 := rfl
    have w0 : IntKind.i64.wrap 1 = 1 := wrap_in (by omega)
    have w1 : IntKind.i64.wrap 2 = 2 := wrap_in (by omega)
    obtain rfl | rfl : i = 0 ∨ i = 1 := by omega
    · simp (maxSteps := 2000000) -implicitDefEqProofs only [zz, zE, evop, ev, ofVal, tget, tput, ok, V.isUndef, intBin, guardOf, initT, Ch.on, calleeOf, withArgs, told, xport, xports, tids, tidss, hget, hput, Blk.ice, freeze, V.cells, D.cells, V.isAgg, V.one, V.clo, clos, V.toD, loadD, structAt, eqCells, D.scalarEq, sliceOf, partsD, partsV, bound, isPtr, Blk.width, elems, lenOf, splice, D.over, resOf, resV, resVs, ↓reduceIte, reduceCtorEq, ↓reduceDIte, Nat.reduceLT, Nat.reduceEqDiff, Nat.reduceAdd, Nat.reduceSub, Nat.reduceMul, Nat.reduceLeDiff, Nat.reduceBEq, Nat.reduceBNe, Int.reduceNeg, Int.reduceAdd, Int.reduceSub, Int.reduceToNat, nilTest, shiftH, Blk.ren, V.ren, renL, initV, frameH, putL, frρ, dI, dW, e0, w0, Int.reduceLT, Int.reduceLE]
      split
      · rename_i h
        simp at h
        simp [h]
      · rename_i h
        simp at h
        exact ⟨by simp [h], Weak.sub (by simp [tget, w0])⟩
    · simp (maxSteps := 2000000) -implicitDefEqProofs only [zz, zE, evop, ev, ofVal, tget, tput, ok, V.isUndef, intBin, guardOf, initT, Ch.on, calleeOf, withArgs, told, xport, xports, tids, tidss, hget, hput, Blk.ice, freeze, V.cells, D.cells, V.isAgg, V.one, V.clo, clos, V.toD, loadD, structAt, eqCells, D.scalarEq, sliceOf, partsD, partsV, bound, isPtr, Blk.width, elems, lenOf, splice, D.over, resOf, resV, resVs, ↓reduceIte, reduceCtorEq, ↓reduceDIte, Nat.reduceLT, Nat.reduceEqDiff, Nat.reduceAdd, Nat.reduceSub, Nat.reduceMul, Nat.reduceLeDiff, Nat.reduceBEq, Nat.reduceBNe, Int.reduceNeg, Int.reduceAdd, Int.reduceSub, Int.reduceToNat, nilTest, shiftH, Blk.ren, V.ren, renL, initV, frameH, putL, frρ, dI, dW, e1, w1, Int.reduceLT, Int.reduceLE]
      have ha := hI.1 (Nat.le_refl _)
      split
      · rename_i h
        simp [ha]
      · rename_i h
        simp at h
        exact ⟨by simp [ha, h], Weak.sub (by simp [tget, w1])⟩
  · have e2 : ((2 : Nat) : Int) = 2 := rfl
    simp (maxSteps := 2000000) -implicitDefEqProofs only [zz, zE, evop, ev, ofVal, tget, tput, ok, V.isUndef, intBin, guardOf, initT, Ch.on, calleeOf, withArgs, told, xport, xports, tids, tidss, hget, hput, Blk.ice, freeze, V.cells, D.cells, V.isAgg, V.one, V.clo, clos, V.toD, loadD, structAt, eqCells, D.scalarEq, sliceOf, partsD, partsV, bound, isPtr, Blk.width, elems, lenOf, splice, D.over, resOf, resV, resVs, ↓reduceIte, reduceCtorEq, ↓reduceDIte, Nat.reduceLT, Nat.reduceEqDiff, Nat.reduceAdd, Nat.reduceSub, Nat.reduceMul, Nat.reduceLeDiff, Nat.reduceBEq, Nat.reduceBNe, Int.reduceNeg, Int.reduceAdd, Int.reduceSub, Int.reduceToNat, nilTest, shiftH, Blk.ren, V.ren, renL, initV, frameH, putL, frρ, dI, dW, e2, Int.reduceLT]
    have ha := hI.1 (by omega)
    have hb := hI.2 (by omega)
    simp [ha, hb]

end Go.Proofs.Ytaejlmengfahnaa.AM

set_option linter.all false
set_option maxRecDepth 100000
set_option maxHeartbeats 4000000
namespace Go.Proofs.Ytaejlmengfahnaa.AM
open Go Go.RowKit

def whB (w : Int) : Bool := decide (1 ≤ w) && decide (w ≤ 8)
def ltI (x y : Int × Int) : Bool := decide (x.2 < y.2) || (decide (x.2 = y.2) && decide (x.1 < y.1))
def cmpT (x y : Int × Int) : Int := if cmpI x.2 y.2 = 0 then cmpI x.1 y.1 else cmpI x.2 y.2
theorem ltI_iff {x y : Int × Int} : ltI x y = true ↔ x.2 < y.2 ∨ x.2 = y.2 ∧ x.1 < y.1 := by simp [ltI]
theorem ltI_trans {x y z : Int × Int} (h : ltI x y = true) (h' : ltI y z = true) : ltI x z = true := by
  rw [ltI_iff] at *; omega
theorem ltI_irr (x : Int × Int) : ltI x x = false := by simp [ltI]
theorem ltI_asy {x y : Int × Int} (h : ltI x y = true) : ltI y x = false := by
  cases e : ltI y x with
  | false => rfl
  | true => have := ltI_trans h e; rw [ltI_irr] at this; cases this
theorem ltI_tot {x y : Int × Int} (h : x ≠ y) : ltI x y = true ∨ ltI y x = true := by
  rw [ltI_iff, ltI_iff]
  rcases Int.lt_trichotomy x.2 y.2 with a | a | a
  · exact .inl (.inl a)
  · rcases Int.lt_trichotomy x.1 y.1 with b | b | b
    · exact .inl (.inr ⟨a, b⟩)
    · exact absurd (Prod.ext b a) h
    · exact .inr (.inr ⟨a.symm, b⟩)
  · exact .inr (.inl a)
theorem cmpI_neg (a b : Int) : cmpI a b < 0 ↔ a < b := by unfold cmpI; split <;> (try split) <;> omega
theorem cmpI_zero (a b : Int) : cmpI a b = 0 ↔ a = b := by unfold cmpI; split <;> (try split) <;> omega
theorem cmpT_neg (x y : Int × Int) : decide (cmpT x y < 0) = ltI x y := by
  rw [Bool.eq_iff_iff, ltI_iff, decide_eq_true_eq]
  unfold cmpT
  split
  · rename_i h
    rw [cmpI_zero] at h
    rw [cmpI_neg]; omega
  · rename_i h
    rw [cmpI_zero] at h
    rw [cmpI_neg]; omega

def Srt (l : List (Int × Int)) : Prop := l.Pairwise (fun x y => ltI x y = true)
theorem srt_unique : ∀ {l l' : List (Int × Int)}, Srt l → Srt l' → (∀ x, x ∈ l ↔ x ∈ l') → l = l'
  | [], [], _, _, _ => rfl
  | [], y :: r, _, _, h => by have := (h y).2 (by simp); simp at this
  | x :: r, [], _, _, h => by have := (h x).1 (by simp); simp at this
  | x :: r, y :: s, h1, h2, h => by
    have a1 := List.pairwise_cons.1 h1
    have a2 := List.pairwise_cons.1 h2
    have e : x = y := by
      refine Classical.byContradiction fun ne => ?_
      have b1 : y ∈ r := by
        have := (h y).2 (by simp)
        rcases List.mem_cons.1 this with g | g
        · exact absurd g.symm ne
        · exact g
      have b2 : x ∈ s := by
        have := (h x).1 (by simp)
        rcases List.mem_cons.1 this with g | g
        · exact absurd g ne
        · exact g
      have := ltI_asy (a1.1 y b1)
      rw [a2.1 x b2] at this; cases this
    subst e
    congr 1
    refine srt_unique a1.2 a2.2 (fun z => ?_)
    have := h z
    simp only [List.mem_cons] at this
    constructor
    · intro hz
      rcases this.1 (.inr hz) with g | g
      · subst g; have := a1.1 z hz; rw [ltI_irr] at this; cases this
      · exact g
    · intro hz
      rcases this.2 (.inr hz) with g | g
      · subst g; have := a2.1 z hz; rw [ltI_irr] at this; cases this
      · exact g
theorem srt_filter {l : List (Int × Int)} (h : Srt l) (p : Int × Int → Bool) : Srt (l.filter p) := List.Pairwise.filter p h
theorem srt_nodup {l : List (Int × Int)} (h : Srt l) : l.Nodup := List.Pairwise.imp (fun {a b} hab e => by subst e; rw [ltI_irr] at hab; cases hab) h

theorem srt_split {l : List (Int × Int)} (h : Srt l) (x : Int × Int) {k : Nat} (hk : k ≤ l.length) (h1 : ∀ i, i < k → ∀ y, l[i]? = some y → ltI y x = true) (h2 : ∀ i, k ≤ i → ∀ y, l[i]? = some y → ltI y x = false) :
    l.take k = l.filter (fun y => ltI y x) ∧ l.drop k = l.filter (fun y => !ltI y x) := by
  have a : ∀ y ∈ l.take k, ltI y x = true := fun y hy => by
    obtain ⟨i, hi, rfl⟩ := List.getElem_of_mem hy
    have hi' : i < k := by simp at hi; omega
    exact h1 i hi' _ (by rw [List.getElem_take]; exact List.getElem?_eq_getElem (by simp at hi; omega))
  have b : ∀ y ∈ l.drop k, ltI y x = false := fun y hy => by
    obtain ⟨i, hi, rfl⟩ := List.getElem_of_mem hy
    exact h2 (k + i) (by omega) _ (by rw [List.getElem_drop]; exact List.getElem?_eq_getElem (by simp at hi; omega))
  have e := List.take_append_drop k l
  constructor
  · conv => rhs; rw [← e]
    rw [List.filter_append, List.filter_eq_self.2 a, List.filter_eq_nil_iff.2 (fun y hy => by simp [b y hy]), List.append_nil]
  · conv => rhs; rw [← e]
    rw [List.filter_append, List.filter_eq_nil_iff.2 (fun y hy => by simp [a y hy]), List.filter_eq_self.2 (fun y hy => by simp [b y hy]), List.nil_append]

def insI (x : Int × Int) (l : List (Int × Int)) : List (Int × Int) := l.filter (fun y => ltI y x) ++ x :: l.filter (fun y => !ltI y x)
theorem mem_insI {x y : Int × Int} {l : List (Int × Int)} : y ∈ insI x l ↔ y = x ∨ y ∈ l := by
  simp only [insI, List.mem_append, List.mem_cons, List.mem_filter]
  constructor
  · rintro (h | h | h)
    · exact .inr h.1
    · exact .inl h
    · exact .inr h.1
  · rintro (h | h)
    · exact .inr (.inl h)
    · cases e : ltI y x with
      | true => exact .inl ⟨h, rfl⟩
      | false => exact .inr (.inr ⟨h, rfl⟩)
theorem srt_insI {x : Int × Int} {l : List (Int × Int)} (h : Srt l) (hx : x ∉ l) : Srt (insI x l) := by
  refine List.pairwise_append.2 ⟨srt_filter h _, List.pairwise_cons.2 ⟨fun y hy => ?_, srt_filter h _⟩, fun a ha b hb => ?_⟩
  · have := List.mem_filter.1 hy
    have hne : y ≠ x := fun e => hx (e ▸ this.1)
    rcases ltI_tot hne with g | g
    · rw [g] at this; simp at this
    · exact g
  · have h1 := (List.mem_filter.1 ha).2
    rcases List.mem_cons.1 hb with rfl | hb
    · exact h1
    · have h2 := List.mem_filter.1 hb
      have hne : b ≠ x := fun e => hx (e ▸ h2.1)
      rcases ltI_tot hne with g | g
      · rw [g] at h2; simp at h2
      · exact ltI_trans h1 g

theorem insR_ins {x : Int × Int} {A : List (Int × Int)} (h : Srt A) (hx : x ∉ A) : insR (fun a b => decide (cmpT a b < 0)) x A = insI x A := by
  obtain ⟨k, hk, h1, h2⟩ : ∃ k, k ≤ A.length ∧ (∀ i, i < k → ∀ y, A[i]? = some y → ltI y x = true) ∧ (∀ i, k ≤ i → ∀ y, A[i]? = some y → ltI y x = false) := by
    refine ⟨(A.filter fun y => ltI y x).length, List.length_filter_le .., ?_⟩
    clear hx
    induction A with
    | nil => exact ⟨fun i hi y hy => by simp at hy, fun i hi y hy => by simp at hy⟩
    | cons a r ih =>
      have h' := List.pairwise_cons.1 h
      obtain ⟨i1, i2⟩ := ih h'.2
      cases e : ltI a x with
      | true =>
        rw [List.filter_cons_of_pos (by simpa using e)]
        refine ⟨fun i hi y hy => ?_, fun i hi y hy => ?_⟩
        · cases i with
          | zero => simp at hy; subst hy; exact e
          | succ i => exact i1 i (by simpa using hi) y (by simpa using hy)
        · cases i with
          | zero => simp at hi
          | succ i => exact i2 i (by simpa using hi) y (by simpa using hy)
      | false =>
        have hr : ∀ y ∈ r, ltI y x = false := fun y hy => by
          cases g : ltI y x with
          | false => rfl
          | true => have := ltI_trans (h'.1 y hy) g; rw [e] at this; cases this
        have hn : (r.filter fun y => ltI y x) = [] := List.filter_eq_nil_iff.2 (fun y hy => by simp [hr y hy])
        rw [List.filter_cons_of_neg (by simp [e]), hn]
        refine ⟨fun i hi y hy => by simp at hi, fun i hi y hy => ?_⟩
        rcases List.mem_cons.1 (List.mem_of_getElem? hy) with g | g
        · subst g; exact e
        · exact hr y g
  obtain ⟨s1, s2⟩ := srt_split h x hk h1 h2
  have hK : insK (fun a b => decide (cmpT a b < 0)) x A = k := by
    refine insK_eq hk (fun i hi y hy => ?_) ?_
    · show decide (cmpT x y < 0) = true
      rw [cmpT_neg]
      have := h2 i hi y hy
      have hne : x ≠ y := fun e => hx (e ▸ List.mem_of_getElem? hy)
      rcases ltI_tot hne with g | g
      · exact g
      · rw [this] at g; cases g
    · rcases Nat.eq_zero_or_pos k with h0 | h0
      · exact .inl h0
      · right
        have hl : k - 1 < A.length := by omega
        refine ⟨A[k - 1], List.getElem?_eq_getElem hl, ?_⟩
        show decide (cmpT x _ < 0) = false
        rw [cmpT_neg]
        exact ltI_asy (h1 (k - 1) (by omega) _ (List.getElem?_eq_getElem hl))
  unfold insR insI
  rw [hK, s1, s2]
def sortT (l : List (Int × Int)) : List (Int × Int) := isort (fun a b => decide (cmpT a b < 0)) l
theorem sortT_ok : ∀ (l : List (Int × Int)), l.Nodup → Srt (sortT l) ∧ ∀ x, x ∈ sortT l ↔ x ∈ l := by
  intro l hn
  have key : ∀ (l A : List (Int × Int)), Srt A → l.Nodup → (∀ x ∈ l, x ∉ A) → Srt (l.foldl (fun A x => insR (fun a b => decide (cmpT a b < 0)) x A) A) ∧ ∀ x, x ∈ l.foldl (fun A x => insR (fun a b => decide (cmpT a b < 0)) x A) A ↔ x ∈ A ∨ x ∈ l := by
    intro l
    induction l with
    | nil => intro A hA _ _; exact ⟨hA, fun x => by simp⟩
    | cons y r ih =>
      intro A hA hn hd
      have hn' := List.nodup_cons.1 hn
      have hy := hd y (by simp)
      simp only [List.foldl_cons]
      rw [insR_ins hA hy]
      obtain ⟨a, b⟩ := ih (insI y A) (srt_insI hA hy) hn'.2 (fun x hx hm => by
        rcases mem_insI.1 hm with g | g
        · subst g; exact hn'.1 hx
        · exact hd x (by simp [hx]) g)
      refine ⟨a, fun x => ?_⟩
      rw [b, mem_insI, List.mem_cons]
      constructor
      · rintro ((h | h) | h)
        · exact .inr (.inl h)
        · exact .inl h
        · exact .inr (.inr h)
      · rintro (h | h | h)
        · exact .inl (.inr h)
        · exact .inl (.inl h)
        · exact .inr h
  obtain ⟨a, b⟩ := key l [] List.Pairwise.nil hn (fun x _ => by simp)
  exact ⟨a, fun x => by have := b x; simpa [sortT, isort] using this⟩

structure Wh where
  now : Int
  slots : List (List (Int × Int))
def dWh (w : Wh) : D := .agg (.int .i64 w.now :: w.slots.map fun l => .vec (l.map dW))
def slotW (w : Wh) (i : Nat) : List (Int × Int) := (w.slots[i]?).getD []
def itemOk (now : Int) (i : Nat) (x : Int × Int) : Bool := whB x.1 && tickR x.2 && decide (now < x.2) && (x.2.tmod 8 == (i : Int))
structure RightW (w : Wh) : Prop where
  now : tickR w.now = true
  len : w.slots.length = 8
  items : ∀ i l, w.slots[i]? = some l → ∀ x ∈ l, itemOk w.now i x = true
  srt : ∀ l ∈ w.slots, Srt l
  who : (w.slots.flatten.map fun x => x.1).Nodup
def itemsW (w : Wh) : List (Int × Int) := sortT w.slots.flatten
theorem nodup_who {l : List (Int × Int)} (h : (l.map fun x => x.1).Nodup) : l.Nodup := (List.pairwise_map.1 h).imp (fun hab e => hab (congrArg _ e))
theorem RightW.mem {w : Wh} (h : RightW w) {x : Int × Int} : x ∈ itemsW w ↔ ∃ (i : Nat) (l : List (Int × Int)), w.slots[i]? = some l ∧ x ∈ l := by
  rw [itemsW, (sortT_ok _ (nodup_who h.who)).2, List.mem_flatten]
  constructor
  · rintro ⟨l, hl, hx⟩
    obtain ⟨i, hi, rfl⟩ := List.getElem_of_mem hl
    exact ⟨i, _, List.getElem?_eq_getElem hi, hx⟩
  · rintro ⟨i, l, hl, hx⟩
    exact ⟨l, List.mem_of_getElem? hl, hx⟩
theorem RightW.sorted {w : Wh} (h : RightW w) : Srt (itemsW w) := (sortT_ok _ (nodup_who h.who)).1
theorem itemOk_mod {now : Int} {i : Nat} {x : Int × Int} (h : itemOk now i x = true) : x.2.tmod 8 = i := by
  simp only [itemOk, Bool.and_eq_true, beq_iff_eq] at h; exact h.2
theorem RightW.slot {w : Wh} (h : RightW w) {i : Nat} {l : List (Int × Int)} (hl : w.slots[i]? = some l) : l = (itemsW w).filter fun x => x.2.tmod 8 == (i : Int) := by
  refine srt_unique (h.srt l (List.mem_of_getElem? hl)) (srt_filter h.sorted _) (fun x => ?_)
  rw [List.mem_filter, h.mem]
  constructor
  · intro hx
    exact ⟨⟨i, l, hl, hx⟩, by simpa using itemOk_mod (h.items i l hl x hx)⟩
  · rintro ⟨⟨j, l', hl', hx⟩, hm⟩
    have hj := itemOk_mod (h.items j l' hl' x hx)
    have : (j : Int) = i := by rw [← hj]; simpa using hm
    have : j = i := by omega
    subst this
    rw [hl] at hl'; cases hl'; exact hx
def ofW (now : Int) (l : List (Int × Int)) : Wh := ⟨now, (List.range 8).map fun (i : Nat) => l.filter fun x => x.2.tmod 8 == (i : Int)⟩
theorem RightW.of {w : Wh} (h : RightW w) : ofW w.now (itemsW w) = w := by
  have e : w = ⟨w.now, w.slots⟩ := rfl
  rw [e]
  show (⟨w.now, _⟩ : Wh) = _
  congr 1
  refine List.ext_getElem? (fun i => ?_)
  rw [List.getElem?_map]
  rcases Nat.lt_or_ge i 8 with g | g
  · rw [List.getElem?_range g]
    have hl : i < w.slots.length := by rw [h.len]; exact g
    rw [List.getElem?_eq_getElem hl]
    exact congrArg some (h.slot (List.getElem?_eq_getElem hl)).symm
  · rw [List.getElem?_eq_none (by simpa using g), List.getElem?_eq_none (by rw [h.len]; exact g)]; rfl
end Go.Proofs.Ytaejlmengfahnaa.AM

set_option linter.all false
set_option maxRecDepth 100000
set_option maxHeartbeats 4000000
namespace Go.Proofs.Ytaejlmengfahnaa.AM
open Go Go.RowKit

theorem pig : ∀ (k : Nat) (l : List Int), l.Nodup → (∀ x ∈ l, 1 ≤ x ∧ x ≤ (k : Int)) → l.length ≤ k
  | 0, l, _, h => by
    cases l with
    | nil => simp
    | cons x r => have := h x (by simp); omega
  | k + 1, l, hn, h => by
    by_cases hm : ((k + 1 : Nat) : Int) ∈ l
    · have h1 := List.length_erase_of_mem hm
      have := pig k (l.erase ((k + 1 : Nat) : Int)) (hn.erase _) (fun x hx => by
        have hne : x ≠ ((k + 1 : Nat) : Int) := fun e => by subst e; exact hn.not_mem_erase hx
        have := h x (List.mem_of_mem_erase hx)
        omega)
      have hp := List.length_pos_of_mem hm
      omega
    · have := pig k l hn (fun x hx => by
        have hne : x ≠ ((k + 1 : Nat) : Int) := fun e => hm (e ▸ hx)
        have := h x hx
        omega)
      omega
theorem RightW.whos {w : Wh} (h : RightW w) : ∀ x ∈ w.slots.flatten, 1 ≤ x.1 ∧ x.1 ≤ 8 := fun x hx => by
  obtain ⟨l, hl, hx⟩ := List.mem_flatten.1 hx
  obtain ⟨i, hi, rfl⟩ := List.getElem_of_mem hl
  have := h.items i _ (List.getElem?_eq_getElem hi) x hx
  simp only [itemOk, Bool.and_eq_true] at this
  exact whB_0' this.1.1.1
where whB_0' {n : Int} (h : whB n = true) : 1 ≤ n ∧ n ≤ 8 := by simpa [whB] using h
theorem RightW.few {w : Wh} (h : RightW w) : w.slots.flatten.length ≤ 8 := by
  have := pig 8 (w.slots.flatten.map fun x => x.1) h.who (fun x hx => by
    obtain ⟨y, hy, rfl⟩ := List.mem_map.1 hx
    exact h.whos y hy)
  rw [List.length_map] at this
  exact this
theorem itemsW_len (w : Wh) : (itemsW w).length = w.slots.flatten.length := isort_length ..

def rightB (w : Wh) : Bool :=
  tickR w.now && ((List.range 8).all fun i => (slotW w i).all (itemOk w.now i) && decide ((slotW w i).Pairwise (fun x y => ltI x y = true))) && decide ((w.slots.flatten.map fun x => x.1).Nodup)
theorem slotW_get {w : Wh} {i : Nat} {l : List (Int × Int)} (h : w.slots[i]? = some l) : slotW w i = l := by simp [slotW, h]
theorem rightB_iff {w : Wh} (hl : w.slots.length = 8) : rightB w = true ↔ RightW w := by
  simp only [rightB, Bool.and_eq_true, List.all_eq_true, List.mem_range, decide_eq_true_eq]
  constructor
  · rintro ⟨⟨a, b⟩, c⟩
    refine ⟨a, hl, fun i l h x hx => ?_, fun l hm => ?_, c⟩
    · have hi : i < 8 := by have := (List.getElem?_eq_some_iff.1 h).1; omega
      have := (b i hi).1
      rw [slotW_get h] at this
      exact this x hx
    · obtain ⟨i, hi, rfl⟩ := List.getElem_of_mem hm
      have := (b i (by omega)).2
      rwa [slotW_get (List.getElem?_eq_getElem hi)] at this
  · rintro ⟨a, _, b, c, d⟩
    refine ⟨⟨a, fun i hi => ?_⟩, d⟩
    have h : w.slots[i]? = some w.slots[i] := List.getElem?_eq_getElem (by omega)
    rw [slotW_get h]
    exact ⟨fun x hx => b i _ h x hx, c _ (List.mem_of_getElem? h)⟩

theorem filter_comm {α : Type} (p q : α → Bool) (l : List α) : (l.filter p).filter q = (l.filter q).filter p := by
  rw [List.filter_filter, List.filter_filter]
  congr 1; funext x; exact Bool.and_comm _ _
theorem srt_two {l : List (Int × Int)} (h : Srt l) (x : Int × Int) : l.filter (fun y => ltI y x) ++ l.filter (fun y => !ltI y x) = l := by
  have hd : ∀ a ∈ l.filter (fun y => ltI y x), ∀ b ∈ l.filter (fun y => !ltI y x), ltI a b = true := fun a ha b hb => by
    have h1 := (List.mem_filter.1 ha).2
    have h2 := (List.mem_filter.1 hb).2
    simp only [Bool.not_eq_true'] at h2
    by_cases e : b = x
    · subst e; exact h1
    · rcases ltI_tot e with g | g
      · rw [h2] at g; cases g
      · exact ltI_trans h1 g
  refine srt_unique (List.pairwise_append.2 ⟨srt_filter h _, srt_filter h _, hd⟩) h (fun y => ?_)
  rw [List.mem_append, List.mem_filter, List.mem_filter]
  constructor
  · rintro (g | g)
    · exact g.1
    · exact g.1
  · intro g
    cases e : ltI y x with
    | true => exact .inl ⟨g, rfl⟩
    | false => exact .inr ⟨g, rfl⟩
theorem filter_insI {x : Int × Int} {l : List (Int × Int)} (h : Srt l) (p : Int × Int → Bool) : (insI x l).filter p = if p x = true then insI x (l.filter p) else l.filter p := by
  unfold insI
  rw [List.filter_append, List.filter_cons, filter_comm _ p, filter_comm _ p]
  split
  · rfl
  · exact srt_two (srt_filter h p) x

def putW (w : Wh) (x : Int × Int) : Wh := ⟨w.now, w.slots.set (x.2.tmod 8).toNat (insI x (slotW w (x.2.tmod 8).toNat))⟩
theorem putW_of {w : Wh} (h : RightW w) (x : Int × Int) (hx : 0 ≤ x.2) : putW w x = ofW w.now (insI x (itemsW w)) := by
  have h0 := Int.tmod_nonneg 8 hx
  have h1 := Int.tmod_lt_of_pos x.2 (show (0 : Int) < 8 by decide)
  show (⟨w.now, _⟩ : Wh) = ⟨w.now, _⟩
  congr 1
  refine List.ext_getElem? (fun i => ?_)
  rw [List.getElem?_map]
  rcases Nat.lt_or_ge i 8 with g | g
  · have hl : i < w.slots.length := by rw [h.len]; exact g
    have hg : w.slots[i]? = some w.slots[i] := List.getElem?_eq_getElem hl
    rw [List.getElem?_range g, Option.map_some, filter_insI h.sorted]
    by_cases e : (x.2.tmod 8).toNat = i
    · subst e
      rw [List.getElem?_set_self hl, slotW_get hg]
      have e2 : (x.2.tmod 8 == (((x.2.tmod 8).toNat : Nat) : Int)) = true := by simp; omega
      rw [if_pos e2, ← h.slot hg]
    · rw [List.getElem?_set_ne e, hg]
      have e2 : ¬ (x.2.tmod 8 == (i : Int)) = true := by simp; omega
      rw [if_neg e2, ← h.slot hg]
  · rw [List.getElem?_eq_none (by rw [List.length_set, h.len]; exact g), List.getElem?_eq_none (by simpa using g)]; rfl
def sieveW (now : Int) (w : Wh) (p : Int × Int → Bool) : Wh := ⟨now, w.slots.map fun l => l.filter p⟩
theorem sieveW_of {w : Wh} (h : RightW w) (now : Int) (p : Int × Int → Bool) : sieveW now w p = ofW now ((itemsW w).filter p) := by
  show (⟨now, _⟩ : Wh) = ⟨now, _⟩
  congr 1
  refine List.ext_getElem? (fun i => ?_)
  rw [List.getElem?_map, List.getElem?_map]
  rcases Nat.lt_or_ge i 8 with g | g
  · have hl : i < w.slots.length := by rw [h.len]; exact g
    have hg : w.slots[i]? = some w.slots[i] := List.getElem?_eq_getElem hl
    rw [List.getElem?_range g, hg, Option.map_some, Option.map_some, filter_comm, ← h.slot hg]
  · rw [List.getElem?_eq_none (by rw [h.len]; exact g), List.getElem?_eq_none (by simpa using g)]; rfl

theorem mem_ofW {now : Int} {l : List (Int × Int)} {i : Nat} {s : List (Int × Int)} (h : (ofW now l).slots[i]? = some s) : i < 8 ∧ s = l.filter fun x => x.2.tmod 8 == (i : Int) := by
  have hi : i < 8 := by have := (List.getElem?_eq_some_iff.1 h).1; simpa [ofW] using this
  refine ⟨hi, ?_⟩
  simp only [ofW, List.getElem?_map, List.getElem?_range hi, Option.map_some, Option.some.injEq] at h
  exact h.symm
theorem perm_parts {l : List (Int × Int)} (hm : ∀ x ∈ l, 0 ≤ x.2) : ∀ n : Nat, (((List.range n).map fun (i : Nat) => l.filter fun x => x.2.tmod 8 == (i : Int)).flatten).Perm (l.filter fun x => decide (x.2.tmod 8 < (n : Int)))
  | 0 => by
    have : l.filter (fun x => decide (x.2.tmod 8 < ((0 : Nat) : Int))) = [] := List.filter_eq_nil_iff.2 (fun x hx => by
      have := Int.tmod_nonneg 8 (hm x hx); simp; omega)
    rw [this]; simp
  | n + 1 => by
    rw [List.range_succ, List.map_append, List.flatten_append]
    simp only [List.map_cons, List.map_nil, List.flatten_cons, List.flatten_nil, List.append_nil]
    refine ((perm_parts hm n).append_right _).trans ?_
    clear hm
    induction l with
    | nil => simp
    | cons x r ih =>
      by_cases h1 : x.2.tmod 8 < (n : Int)
      · have e1 : (x.2.tmod 8 == (n : Int)) = false := by simp; omega
        have e2 : x.2.tmod 8 < ((n + 1 : Nat) : Int) := by omega
        simp only [List.filter_cons, h1, e1, e2, decide_true, if_true, List.cons_append]
        exact List.Perm.cons _ (by simpa using ih)
      · by_cases h2 : x.2.tmod 8 = (n : Int)
        · have e1 : (x.2.tmod 8 == (n : Int)) = true := by simpa using h2
          have e2 : x.2.tmod 8 < ((n + 1 : Nat) : Int) := by omega
          simp only [List.filter_cons, h1, e1, e2, decide_true, decide_false, if_true, Bool.false_eq_true, if_false]
          exact List.perm_middle.trans (List.Perm.cons _ (by simpa using ih))
        · have e1 : (x.2.tmod 8 == (n : Int)) = false := by simpa using h2
          have e2 : ¬ x.2.tmod 8 < ((n + 1 : Nat) : Int) := by omega
          simp only [List.filter_cons, h1, e1, e2, decide_false, Bool.false_eq_true, if_false]
          simpa using ih
theorem ofW_perm {now : Int} {l : List (Int × Int)} (hm : ∀ x ∈ l, 0 ≤ x.2) : (ofW now l).slots.flatten.Perm l := by
  have := perm_parts hm 8
  have e : l.filter (fun x => decide (x.2.tmod 8 < ((8 : Nat) : Int))) = l := List.filter_eq_self.2 (fun x hx => by
    have := Int.tmod_lt_of_pos x.2 (show (0 : Int) < 8 by decide); simp; omega)
  rw [e] at this
  exact this
theorem ofW_right {now : Int} {l : List (Int × Int)} (hn : tickR now = true) (hs : Srt l) (hu : (l.map fun x => x.1).Nodup) (hi : ∀ x ∈ l, whB x.1 = true ∧ tickR x.2 = true ∧ now < x.2) : RightW (ofW now l) ∧ itemsW (ofW now l) = l := by
  have hm : ∀ x ∈ l, 0 ≤ x.2 := fun x hx => by have := (hi x hx).2.1; simp [tickR] at this; omega
  have hp := ofW_perm (now := now) hm
  have hR : RightW (ofW now l) := by
    refine ⟨hn, by simp [ofW], fun i s h x hx => ?_, fun s hs' => ?_, ?_⟩
    · obtain ⟨_, rfl⟩ := mem_ofW h
      obtain ⟨a, b⟩ := List.mem_filter.1 hx
      obtain ⟨p, q, r⟩ := hi x a
      simp only [itemOk, p, q, Bool.true_and, Bool.and_eq_true, decide_eq_true_eq]
      exact ⟨r, b⟩
    · obtain ⟨i, hi', rfl⟩ := List.getElem_of_mem hs'
      obtain ⟨_, e⟩ := mem_ofW (List.getElem?_eq_getElem hi')
      rw [e]; exact srt_filter hs _
    · exact (hp.map _).nodup_iff.2 hu
  refine ⟨hR, srt_unique hR.sorted hs (fun x => ?_)⟩
  rw [itemsW, (sortT_ok _ (nodup_who hR.who)).2]
  exact hp.mem_iff
end Go.Proofs.Ytaejlmengfahnaa.AM

set_option linter.all false
namespace Go.Proofs.Ytaejlmengfahnaa.AM
open Go Go.RowKit

section
variable {P : Program} {E : Env} {n m : Nat} {φ φ' : Nat → Option Loc} {S S' : Nat → Prop} {H H' : Heap} {w : World} {T T' : Tmps} {ρ : Nat → Nat}

theorem Weak.renD (ρ : Nat → Nat) (hT : ∀ t, Ren ρ H' (tget T' t) (tget T t)) (hB : ∀ i, hget H' i ≠ .unborn → RenB ρ H H' i) (hU : ∀ i, hget H' i = .unborn → hget H (ρ i) = .unborn)
    (hinj : ∀ i j, hget H' i ≠ .unborn → hget H' j ≠ .unborn → ρ i = ρ j → hget H (ρ i) ≠ .unborn → i = j)
    (hm : ∀ i, i < m → hget H' i = .dead ∨ (ρ i = i ∧ (hget H i ≠ .unborn → hget H' i ≠ .unborn))) : Weak m T H T' H' := by
  intro C φ S w a hH hT0
  refine ⟨φren φ ρ H', S, Weak.ren_heap hH hB hU hinj, fun t => RV.renR hB hU (hT t) (hT0 t), ⟨.refl _ _, Nat.le_refl _, fun id h hu => ?_⟩⟩
  rcases hm id h with hd | ⟨h1, h2⟩
  · exact .inl hd
  rcases hB id (h2 hu) with ⟨fz, cells, cells', g1, g2, g3⟩ | ⟨fz, sz, els, g1, g2⟩ | ⟨sz, g1, g2⟩ | g1
  · rw [h1] at g2
    right
    exact ⟨by rw [g1, g2]; simp [SameShape, g3.length], by simp [φren, g1, h1]⟩
  · rw [h1] at g2
    right
    exact ⟨by rw [g1, g2]; simp [SameShape], by simp [φren, g1, h1]⟩
  · rw [h1] at g2; exact absurd g2 hu
  · exact .inl g1

theorem Weak.pickD (l : List Nat) (hnd : l.Nodup) (hlen : l.length = H'.length) (hT : ∀ q ∈ T', Ren (pickρ l (H.length + H'.length)) H' q.2 (tget T q.1)) (hB : ∀ i, i < H'.length → RenB (pickρ l (H.length + H'.length)) H H' i)
    (hml : m ≤ l.length) (hm : ∀ i, i < m → hget H' i = .dead ∨ l[i]? = some i) : Weak m T H T' H' := by
  have hborn : ∀ i, i < H'.length → hget H' i ≠ .unborn := fun i hi e => by
    rcases hB i hi with ⟨_, _, _, h, _⟩ | ⟨_, _, _, h, _⟩ | ⟨_, h, _⟩ | h <;> rw [e] at h <;> cases h
  have hin : ∀ i, i < H'.length → ∃ x, l[i]? = some x ∧ pickρ l (H.length + H'.length) i = x := fun i hi => by
    have : i < l.length := by omega
    exact ⟨l[i], List.getElem?_eq_getElem this, by simp [pickρ, List.getElem?_eq_getElem this]⟩
  have hno : ∀ i, hget H' i ≠ .unborn → i < H'.length := fun i h => Classical.byContradiction fun hn => h (hget_length H' i (by omega))
  refine Weak.renD (pickρ l (H.length + H'.length)) (fun t => ?_) (fun i hu => hB i (hno i hu)) (fun i hu => ?_) (fun i j hi hj he hu => ?_) (fun i hi => ?_)
  · rcases tget_mem (T' := T') (t := t) with h | ⟨q, h1, rfl, h3⟩
    · rw [h]; exact .undef _
    · rw [h3]; exact hT q h1
  · have : H'.length ≤ i := Classical.byContradiction fun hn => hborn i (by omega) hu
    have h2 : pickρ l (H.length + H'.length) i = i + (H.length + H'.length) := by simp [pickρ, List.getElem?_eq_none (by omega : l.length ≤ i)]
    rw [h2]; exact hget_length H _ (by omega)
  · obtain ⟨x, h1, h2⟩ := hin i (hno i hi)
    obtain ⟨y, h3, h4⟩ := hin j (hno j hj)
    rw [h2, h4] at he
    subst he
    have a1 := (List.getElem?_eq_some_iff.1 h1)
    have a2 := (List.getElem?_eq_some_iff.1 h3)
    exact (List.getElem_inj hnd).1 (a1.2.trans a2.2.symm)
  · rcases hm i hi with h | h
    · exact .inl h
    · exact .inr ⟨by simp [pickρ, h], fun _ => hborn i (by omega)⟩

theorem RSpec.pre {f : Nat} {vs vs' : List V} {H1 : Heap} {r : V} (h : RSpec P f vs' H' r H1) (hl : vs'.length = vs.length) (hW : Weak H.length (initV 0 vs) H (initV 0 vs') H') : RSpec P f vs H r H1 := by
  refine ⟨h.1, fun C φ S w cs hH hv => ?_⟩
  have hlen := hv.len
  obtain ⟨φ1, S1, g1, g2, g3⟩ := hW C φ S w { tmps := cs.toArray, defers := [] } hH (fun t => by
    rw [initV_get]
    simp only [Nat.zero_le, if_true, Nat.sub_zero]
    cases hx : vs[t]? with
    | none => exact .d _ _ (.undef _)
    | some v =>
      have ht : t < cs.length := by have := (List.getElem?_eq_some_iff.1 hx).1; omega
      have := hv.at_ t v cs[t] hx (List.getElem?_eq_getElem ht)
      simpa [Array.getD_eq_getD_getElem?, ht] using this)
  have hv1 : RVs φ1 S1 H' w vs' cs := ⟨by omega, fun i v c hi hc => by
    have := g2 i
    rw [initV_get] at this
    simp only [Nat.zero_le, if_true, Nat.sub_zero, hi] at this
    have hlt := (List.getElem?_eq_some_iff.1 hc).1
    have e : cs[i] = c := (List.getElem?_eq_some_iff.1 hc).2
    simpa [Array.getD_eq_getD_getElem?, hlt, e] using this⟩
  refine (h.2 C φ1 S1 w cs g1 hv1).mono ?_
  rintro e w' ⟨c, φ2, S2, rfl, h1, h2, h3, h4⟩
  have ht := g3.trans (h3.toM (m := H.length) h4.size)
  refine ⟨c, φ2, S2, rfl, h1, h2, ⟨ht.keepS, fun id hu => ht.keepH id (Classical.byContradiction fun hn => hu (hget_length H id (by omega))) hu⟩, h4⟩

theorem RSpec.congr {f : Nat} {vs : List V} {r : V} {H1 H2 : Heap} (h : RSpec P f vs H r H1) (hH : ∀ id, hget H2 id = hget H1 id) : RSpec P f vs H r H2 := by
  refine ⟨h.1, fun C φ S w cs hH0 hv => (h.2 C φ S w cs hH0 hv).mono ?_⟩
  rintro e w' ⟨c, φ', S', rfl, h1, h2, h3, h4⟩
  exact ⟨c, φ', S', rfl, h1.congr hH, h2.congr hH, ⟨h3.keepS, fun id hu => by rw [hH]; exact h3.keepH id hu⟩, h4⟩

end
end Go.Proofs.Ytaejlmengfahnaa.AM

set_option linter.all false
namespace Go.Proofs.Ytaejlmengfahnaa.AM
open Go Go.RowKit

theorem FSpec.cspec {P : Program} {f : Nat} {args : List D} {r : V} {H1 : Heap} {d : D} (h : FSpec P f args r H1) (hx : xport H1 40 r = some d) : CSpec P f args d := by
  refine ⟨h.1, fun S0 w cs hS0 hlen hrel => (h.2 S0 w cs hS0 hlen hrel).mono ?_⟩
  rintro e w' ⟨c, φ1, S1, rfl, hr, hH1, hk⟩
  refine ⟨c, fun B => (S0 B ∨ w.heap.size ≤ B) ∧ B < w'.heap.size, rfl, ?_, fun B hB => hB, hk⟩
  have hv1 : ∀ B, S1 B → S0 B ∨ w.heap.size ≤ B := fun B hB => by
    rcases hH1.vis B hB with h | h | h
    · exact .inl h
    · exact h.elim
    · exact .inr h
  have hv2 : ∀ i L, φ1 i = some L → S0 L.blk ∨ w.heap.size ≤ L.blk := fun i L hL => by
    rcases hH1.own i L hL with h | h
    · exact h.elim
    · exact .inr h
  exact xport_rel hH1 (fun B hB => ⟨hv1 B hB, hH1.low B hB⟩) 40 r c d (fun i _ L hL => ⟨hv2 i L hL, hH1.lt hL⟩) hr hx


end Go.Proofs.Ytaejlmengfahnaa.AM

set_option linter.all false
namespace Go.Proofs.Ytaejlmengfahnaa.AM
open Go Go.RowKit

section
variable {P : Program} {E : Env} {n m : Nat}

def Snd (P : Program) (E : Env) (n m : Nat) (c : Code) (T : Tmps) (H : Heap) (Q : Ex → Tmps → Heap → Prop) : Prop :=
  ∀ (C : Ctx) (φ : Nat → Option Loc) (S : Nat → Prop) (a : Act) (w : World), Stands C n T H φ S a w → c.wp P (PostQ C n m φ S H w Q) a w

theorem Snd.of_awp (hE : EOk P E) (hmix : P.follows .mixedOrders = true) {c : Code} {T : Tmps} {H : Heap} {Q : Ex → Tmps → Heap → Prop} (h : awp P E n m c T H Q) : Snd P E n m c T H Q :=
  fun C φ S a w hst => awp_sound hE hmix c hst h

theorem Snd.weak {c : Code} {T T' : Tmps} {H H' : Heap} {Q : Ex → Tmps → Heap → Prop} (hw : Weak m T H T' H') (h : Snd P E n m c T' H' Q) : Snd P E n m c T H Q := fun C φ S a w hst => by
  obtain ⟨φ', S', h1, h2, h3⟩ := hw C φ S w a hst.heap hst.tmps
  exact wp_mono (h C φ' S' a w ⟨h1, h2, hst.size, hst.defers⟩) (fun e a' w' hp => hp.from h3 .refl)

def cutK (P : Program) (E : Env) (n m : Nat) (y : Code) (Q : Ex → Tmps → Heap → Prop) : Ex → Tmps → Heap → Prop := fun e T H => match e with
  | .normal => Snd P E n m y T H Q
  | e => Q e T H
theorem cutK_normal {y : Code} {Q : Ex → Tmps → Heap → Prop} {T : Tmps} {H : Heap} : cutK P E n m y Q .normal T H = Snd P E n m y T H Q := rfl
theorem cutK_ret {y : Code} {Q : Ex → Tmps → Heap → Prop} {T : Tmps} {H : Heap} : cutK P E n m y Q .ret T H = Q .ret T H := rfl
theorem cutK_exit {y : Code} {Q : Ex → Tmps → Heap → Prop} {T : Tmps} {H : Heap} {i : Nat} : cutK P E n m y Q (.exit i) T H = Q (.exit i) T H := rfl

theorem Snd.seq (hE : EOk P E) (hmix : P.follows .mixedOrders = true) {x y : Code} {T : Tmps} {H : Heap} {Q : Ex → Tmps → Heap → Prop} (h : awp P E n m x T H (cutK P E n m y Q)) : Snd P E n m (.seq x y) T H Q := fun C φ S a w hst => by
  refine wp_seq (wp_mono (awp_sound hE hmix x hst h) ?_)
  rintro e a1 w1 ⟨e', T', H', φ', S', hq, rfl, hst', hs', hk'⟩
  cases e' with
  | normal => exact wp_mono (hq C φ' S' a1 w1 hst') (fun e a2 w2 hp => hp.from hs' hk')
  | exit id => exact ⟨.exit id, T', H', φ', S', hq, rfl, hst', hs', hk'⟩
  | ret => exact ⟨.ret, T', H', φ', S', hq, rfl, hst', hs', hk'⟩

def hdN : Nat → Code → Code
  | k + 1, .seq x y => .seq x (hdN k y)
  | _, _ => .skip
def tlN : Nat → Code → Code
  | k + 1, .seq _ y => tlN k y
  | _, c => c

theorem Snd.upto (hE : EOk P E) (hmix : P.follows .mixedOrders = true) {Q : Ex → Tmps → Heap → Prop} : ∀ (k : Nat) (c : Code) {T : Tmps} {H : Heap}, awp P E n m (hdN k c) T H (cutK P E n m (tlN k c) Q) → Snd P E n m c T H Q
  | 0, c, T, H, h => h
  | k + 1, c, T, H, h => by
    cases c with
    | seq x y =>
      refine Snd.seq hE hmix (awp_mono x (fun e T' H' he => ?_) h)
      cases e with
      | normal => exact Snd.upto hE hmix k y he
      | exit i => exact he
      | ret => exact he
    | _ => exact h

theorem RSpec.of_snd {f : Nat} {fn : Func} {body : Code} {vs : List V} {H0 H1 : Heap} {r : V} (hE : EOk P E) (hmix : P.follows .mixedOrders = true) (hf : P.funcs[f]? = some fn) (hb : fn.body = some body) (hcall : Callable P f) (hn : vs.length ≤ fn.ntmps)
    (h : Snd P E fn.ntmps H0.length body (initV 0 vs) H0 (FinR E H0.length fn.results.toList r H1)) : RSpec P f vs H0 r H1 := by
  refine ⟨hcall, fun C φ S w cs hH hv => ?_⟩
  have hlen := hv.len
  have hsz : (cs.toArray ++ Array.replicate (fn.ntmps - cs.toArray.size) undef).size = fn.ntmps := by simp; omega
  have hst : Stands C fn.ntmps (initV 0 vs) H0 φ S { tmps := cs.toArray ++ Array.replicate (fn.ntmps - cs.toArray.size) undef, defers := [] } w := by
    refine ⟨hH, fun t => ?_, hsz, rfl⟩
    rw [initV_get]
    simp only [Nat.zero_le, if_true, Nat.sub_zero]
    by_cases ht : t < vs.length
    · have hc : t < cs.length := by omega
      rw [List.getElem?_eq_getElem ht]
      have : (cs.toArray ++ Array.replicate (fn.ntmps - cs.toArray.size) undef).getD t undef = cs[t] := by
        simp [Array.getElem?_append, hc]
      rw [this]
      exact hv.at_ t _ _ (List.getElem?_eq_getElem ht) (List.getElem?_eq_getElem hc)
    · rw [List.getElem?_eq_none (by omega)]
      exact .d _ _ (.undef _)
  refine calls_of_wp hf hb (wp_mono (h _ _ _ _ _ hst) ?_)
  rintro e a' w' ⟨e', T', H', φ', S', hq, rfl, hst', hs', hk'⟩
  have fin : (∃ v, resOf E T' H' fn.results.toList = some v ∧ Weak H0.length [(0, v)] H' [(0, r)] H1) → a'.defers = [] ∧ ∃ v, (results fn a'.tmps).run P w' = .ok v w' ∧
      ∃ c φ1 S1, Ending.returned v = .returned c ∧ RV φ1 S1 H1 w' r c ∧ HRel C φ1 S1 H1 w' ∧ Step φ S H0 w φ1 S1 H1 w' ∧ Kp C w w' := by
    rintro ⟨v, hv, hx⟩
    obtain ⟨c, hrun, hc⟩ := resOf_sound hE hst' hv
    obtain ⟨φ1, S1, g1, g2, g3⟩ := hx _ φ' S' w' { tmps := #[c], defers := [] } hst'.heap (fun t => by
      simp only [tget]
      split
      · rename_i e; subst e; exact hc
      · exact .d _ _ (.undef _))
    have hall := hs'.trans g3
    refine ⟨hst'.defers, c, hrun, c, φ1, S1, rfl, ?_, g1, ⟨hall.keepS, fun id hu => hall.keepH id (Classical.byContradiction fun hn => hu (hget_length H0 id (by omega))) hu⟩, hk'⟩
    have := g2 0
    simpa [tget] using this
  cases e' with
  | normal => exact fin hq
  | ret => exact fin hq
  | exit id => exact hq.elim
theorem NSpec.of_snd {f : Nat} {fn : Func} {body : Code} {vs : List V} {H0 : Heap} {Qf : V → Heap → Prop} (hE : EOk P E) (hmix : P.follows .mixedOrders = true) (hf : P.funcs[f]? = some fn) (hb : fn.body = some body) (hcall : Callable P f) (hn : vs.length ≤ fn.ntmps)
    (h : Snd P E fn.ntmps H0.length body (initV 0 vs) H0 (FinN E H0.length fn.results.toList Qf)) : NSpec P f vs H0 Qf := by
  refine ⟨hcall, fun C φ S w cs hH hv => ?_⟩
  have hlen := hv.len
  have hsz : (cs.toArray ++ Array.replicate (fn.ntmps - cs.toArray.size) undef).size = fn.ntmps := by simp; omega
  have hst : Stands C fn.ntmps (initV 0 vs) H0 φ S { tmps := cs.toArray ++ Array.replicate (fn.ntmps - cs.toArray.size) undef, defers := [] } w := by
    refine ⟨hH, fun t => ?_, hsz, rfl⟩
    rw [initV_get]
    simp only [Nat.zero_le, if_true, Nat.sub_zero]
    by_cases ht : t < vs.length
    · have hc : t < cs.length := by omega
      rw [List.getElem?_eq_getElem ht]
      have : (cs.toArray ++ Array.replicate (fn.ntmps - cs.toArray.size) undef).getD t undef = cs[t] := by
        simp [Array.getElem?_append, hc]
      rw [this]
      exact hv.at_ t _ _ (List.getElem?_eq_getElem ht) (List.getElem?_eq_getElem hc)
    · rw [List.getElem?_eq_none (by omega)]
      exact .d _ _ (.undef _)
  refine calls_of_wp hf hb (wp_mono (h _ _ _ _ _ hst) ?_)
  rintro e a' w' ⟨e', T', H', φ', S', hq, rfl, hst', hs', hk'⟩
  obtain ⟨r, H1, hQ, hq⟩ := hq
  have fin : (∃ v, resOf E T' H' fn.results.toList = some v ∧ Weak H0.length [(0, v)] H' [(0, r)] H1) → a'.defers = [] ∧ ∃ v, (results fn a'.tmps).run P w' = .ok v w' ∧
      ∃ r H1, Qf r H1 ∧ ∃ c φ1 S1, Ending.returned v = .returned c ∧ RV φ1 S1 H1 w' r c ∧ HRel C φ1 S1 H1 w' ∧ Step φ S H0 w φ1 S1 H1 w' ∧ Kp C w w' := by
    rintro ⟨v, hv, hx⟩
    obtain ⟨c, hrun, hc⟩ := resOf_sound hE hst' hv
    obtain ⟨φ1, S1, g1, g2, g3⟩ := hx _ φ' S' w' { tmps := #[c], defers := [] } hst'.heap (fun t => by
      simp only [tget]
      split
      · rename_i e; subst e; exact hc
      · exact .d _ _ (.undef _))
    have hall := hs'.trans g3
    refine ⟨hst'.defers, c, hrun, r, H1, hQ, c, φ1, S1, rfl, ?_, g1, ⟨hall.keepS, fun id hu => hall.keepH id (Classical.byContradiction fun hn => hu (hget_length H0 id (by omega))) hu⟩, hk'⟩
    have := g2 0
    simpa [tget] using this
  cases e' with
  | normal => exact fin hq
  | ret => exact fin hq
  | exit id => exact hq.elim
end

end Go.Proofs.Ytaejlmengfahnaa.AM

set_option linter.all false
namespace Go.Proofs.Ytaejlmengfahnaa.AM
open Go Go.RowKit

def sealF (H : Heap) (ids : List Nat) : V → V
  | .own id off len => if id ∈ ids then (match hget H id with | .dat _ _ els => .d (.vec ((els.drop off).take len)) | _ => .own id off len) else .own id off len
  | .nils => .d (.vec [])
  | .ptr id i j => if id ∈ ids then (match xport H 40 (.ptr id i j) with | some d => if tids H 40 (.ptr id i j) = [id] then .d d else .ptr id i j | none => .ptr id i j) else .ptr id i j
  | v => v

def sealB (H : Heap) (ids : List Nat) : Blk → Blk
  | .box fz cells => .box fz (cells.map (sealF H ids))
  | b => b

def sealH (H : Heap) (ids : List Nat) : Heap := (freeze H ids).map (sealB H ids)

theorem hget_map (f : Blk → Blk) (hf : f .unborn = .unborn) : ∀ (H : Heap) (i : Nat), hget (H.map f) i = f (hget H i)
  | [], i => by simp [hget, hf]
  | b :: r, 0 => by simp [hget]
  | b :: r, i + 1 => by simpa [hget] using hget_map f hf r i

section
variable {m : Nat} {φ : Nat → Option Loc} {S S1 : Nat → Prop} {H H' : Heap} {C : Ctx} {w : World} {T T' : Tmps}

theorem sealF_rel (ids : List Nat) (hH : HRel C φ S H w) (hS : ∀ B, S B → S1 B) (ht : ∀ id ∈ ids, ∀ L, φ id = some L → S1 L.blk) (hst : Step φ S H w φ S1 H' w) {v : V} {c : Value} (h : RV φ S H w v c) : RV φ S1 H' w (sealF H ids v) c := by
  unfold sealF
  split
  · rename_i id off len
    split
    · rename_i hid
      split
      · rename_i fz sz els hg
        have hx : xport H 40 (.own id off len) = some (.vec ((els.drop off).take len)) := by simp [xport, hg]
        exact .d _ _ (xport_rel hH hS 40 _ c _ (fun i hi L hL => ht i (by simp [tids] at hi; rw [hi]; exact hid) L hL) h hx)
      · exact h.step hst
    · exact h.step hst
  · have hx : xport H 40 (.nils) = some (.vec []) := by simp [xport]
    exact .d _ _ (xport_rel hH hS 40 _ c _ (fun i hi L hL => by simp [tids] at hi) h hx)
  · rename_i id i j
    split
    · rename_i hid
      split
      · rename_i d hx
        split
        · rename_i htid
          exact .d _ _ (xport_rel hH hS 40 _ c _ (fun k hk L hL => ht k (by rw [htid] at hk; simp at hk; rw [hk]; exact hid) L hL) h hx)
        · exact h.step hst
      · exact h.step hst
    · exact h.step hst
  · exact h.step hst

theorem Weak.sealed (ids : List Nat) (hT : ∀ q ∈ T', q.2 = sealF H ids (tget T q.1)) : Weak m T H T' (sealH H ids) := by
  intro C φ S w a hH hT0
  obtain ⟨S1, p1, p2, p3⟩ := HRel.freeze hH ids hH
  have hg : ∀ i, hget (sealH H ids) i = sealB H ids (hget (freeze H ids) i) := fun i => hget_map _ rfl _ i
  have hst2 : Step φ S1 (AM.freeze H ids) w φ S1 (sealH H ids) w := ⟨.refl _ _, fun i hi => by
    rw [hg]
    cases hb : hget (AM.freeze H ids) i with
    | unborn => exact absurd hb hi
    | dead => exact .inl rfl
    | box fz cells => exact .inr ⟨by simp [sealB, SameShape], rfl⟩
    | dat fz sz els => exact .inr ⟨by simp [sealB, SameShape], rfl⟩⟩
  have hst := p2.trans hst2 (Nat.le_refl _) (Nat.le_refl _)
  have hS : ∀ B, S B → S1 B := fun B hB => (p2.keepS B hB (hH.low B hB)).1
  have key : ∀ v c, RV φ S H w v c → RV φ S1 (sealH H ids) w (sealF H ids v) c := fun v c h => sealF_rel ids hH hS p3 hst h
  have hfz : ∀ i fz cells, hget (AM.freeze H ids) i = .box fz cells → ∃ fz0, hget H i = .box fz0 cells := by
    intro i fz cells
    have : ∀ (l : List Nat) (H : Heap), hget (AM.freeze H l) i = .box fz cells → ∃ fz0, hget H i = .box fz0 cells := by
      intro l
      induction l with
      | nil => intro H h; exact ⟨fz, h⟩
      | cons id r ih =>
        intro H h
        obtain ⟨fz0, h0⟩ := ih _ h
        rw [hget_hput] at h0
        split at h0
        · rename_i e
          subst e
          cases hb : hget H i <;> rw [hb] at h0 <;> simp [Blk.ice] at h0
          exact ⟨_, by rw [h0.2]⟩
        · exact ⟨fz0, h0⟩
    exact this ids H
  refine ⟨φ, S1, ⟨p1.n0, p1.own, p1.vis, p1.inj, fun i => ?_, p1.low⟩, fun t => ?_, hst.toM (Nat.le_refl _)⟩
  · rw [hg]
    have hb := p1.blk i
    cases hgi : hget (AM.freeze H ids) i with
    | unborn => rw [hgi] at hb; exact hb
    | dead => rw [hgi] at hb; exact hb
    | box fz cells =>
      rw [hgi] at hb
      obtain ⟨fz0, h0⟩ := hfz i fz cells hgi
      have hb0 := hH.blk i
      rw [h0] at hb0
      obtain ⟨L, cs, t, h1, h2, h3, h4, h5, h6⟩ := hb
      obtain ⟨L', cs', t', k1, k2, k3, k4, k5, k6⟩ := hb0
      rw [h1] at k1
      cases k1
      have hcs : cs = cs' := by
        have := h3.heap.symm.trans k3.heap
        simp at this
        exact this.1
      subst hcs
      refine ⟨L, cs, t, h1, h2, h3, by simpa using h4, fun k v c hk hc => ?_, h6⟩
      simp only [List.getElem?_map, Option.map_eq_some_iff] at hk
      obtain ⟨v0, hv0, rfl⟩ := hk
      exact key v0 c (k5 k v0 c hv0 hc)
    | dat fz sz els =>
      rw [hgi] at hb
      rcases hb with h | ⟨L, cs, t, h1, h2, h3, h4, h5, h6⟩
      · exact .inl h
      · exact .inr ⟨L, cs, t, h1, h2, h3, h4, h5, h6⟩
  · rcases tget_mem (T' := T') (t := t) with h | ⟨q, h1, rfl, h3⟩
    · rw [h]; exact .d _ _ (.undef _)
    · rw [h3, hT q h1]; exact key _ _ (hT0 _)

theorem Weak.trans' {m : Nat} {T1 T2 T3 : Tmps} {H1 H2 H3 : Heap} (h : Weak m T1 H1 T2 H2) (h' : Weak m T2 H2 T3 H3) : Weak m T1 H1 T3 H3 := by
  intro C φ S w a hH hT
  obtain ⟨φ1, S1, a1, a2, a3⟩ := h C φ S w a hH hT
  obtain ⟨φ2, S2, b1, b2, b3⟩ := h' C φ1 S1 w a a1 a2
  exact ⟨φ2, S2, b1, b2, a3.trans b3⟩

theorem Weak.close (ids : List Nat) (n : Nat) (hmn : m ≤ n) (hH : (sealH H ids).take n = H') (hT : ∀ q ∈ T', q.2 = sealF H ids (tget T q.1) ∧ V.lower n q.2 = true) (hB : ∀ b ∈ H', Blk.lower n b = true) : Weak m T H T' H' := by
  refine Weak.trans' (Weak.sealed (T' := T'.map fun q => (q.1, sealF H ids (tget T q.1))) ids (fun q hq => ?_)) (Weak.trimsM n hmn hH (fun q hq => ⟨?_, (hT q hq).2⟩) hB)
  · obtain ⟨q0, _, rfl⟩ := List.mem_map.1 hq
    rfl
  · rw [(hT q hq).1]
    clear hT
    induction T' with
    | nil => simp at hq
    | cons p r ih =>
      simp only [List.map_cons, tget]
      by_cases e : q.1 = p.1
      · rw [if_pos e, e]
      · rw [if_neg e]
        rcases List.mem_cons.1 hq with rfl | hq
        · exact absurd rfl e
        · exact ih hq
end

section
variable {P : Program} {E : Env}
theorem CSpec.of_snd {f : Nat} {fn : Func} {body : Code} {args : List D} {r : D} (hE : EOk P E) (hmix : P.follows .mixedOrders = true) (hf : P.funcs[f]? = some fn) (hb : fn.body = some body) (hcall : Callable P f) (hn : args.length ≤ fn.ntmps)
    (h : Snd P E fn.ntmps 0 body (initT 0 args) [] (Fin E fn.results.toList r)) : CSpec P f args r := by
  refine ⟨hcall, fun S0 w cs hS0 hlen hrel => ?_⟩
  have hsz : (cs.toArray ++ Array.replicate (fn.ntmps - cs.toArray.size) undef).size = fn.ntmps := by simp; omega
  have hst : Stands ⟨w.heap.size, fun _ => False, S0⟩ fn.ntmps (initT 0 args) [] (fun _ => none) S0 { tmps := cs.toArray ++ Array.replicate (fn.ntmps - cs.toArray.size) undef, defers := [] } w := by
    refine ⟨⟨Nat.le_refl _, (fun id L h => by cases h), (fun B hB => .inl hB), (fun i j L L' h => by cases h), (fun id => rfl), hS0⟩, fun t => ?_, hsz, rfl⟩
    rw [initT_get]
    simp only [Nat.zero_le, if_true, Nat.sub_zero]
    by_cases ht : t < args.length
    · have hc : t < cs.length := by omega
      rw [List.getElem?_eq_getElem ht]
      have : (cs.toArray ++ Array.replicate (fn.ntmps - cs.toArray.size) undef).getD t undef = cs[t] := by
        simp [Array.getElem?_append, hc]
      rw [this]
      exact .d _ _ (hrel t _ _ (List.getElem?_eq_getElem ht) (List.getElem?_eq_getElem hc))
    · rw [List.getElem?_eq_none (by omega)]
      exact .d _ _ (.undef _)
  refine calls_of_wp hf hb (wp_mono (h _ _ _ _ _ hst) ?_)
  rintro e a' w' ⟨e', T', H', φ', S', hq, rfl, hst', hs', hk'⟩
  have fin : (∃ v, resOf E T' H' fn.results.toList = some v ∧ xport H' 40 v = some r) → a'.defers = [] ∧ ∃ v, (results fn a'.tmps).run P w' = .ok v w' ∧ ∃ c S', Ending.returned v = .returned c ∧ RD S' w' r c ∧ (∀ B, S' B → (S0 B ∨ w.heap.size ≤ B) ∧ B < w'.heap.size) ∧ Kp ⟨w.heap.size, fun _ => False, S0⟩ w w' := by
    rintro ⟨v, hv, hx⟩
    obtain ⟨c, hrun, hc⟩ := resOf_sound hE hst' hv
    refine ⟨hst'.defers, c, hrun, c, fun B => (S0 B ∨ w.heap.size ≤ B) ∧ B < w'.heap.size, rfl, ?_, fun B hB => hB, hk'⟩
    have hv1 : ∀ B, S' B → S0 B ∨ w.heap.size ≤ B := fun B hB => by
      rcases hst'.heap.vis B hB with h | h | h
      · exact .inl h
      · exact h.elim
      · exact .inr h
    have hv2 : ∀ i L, φ' i = some L → S0 L.blk ∨ w.heap.size ≤ L.blk := fun i L hL => by
      rcases hst'.heap.own i L hL with h | h
      · exact h.elim
      · exact .inr h
    exact xport_rel hst'.heap (fun B hB => ⟨hv1 B hB, hst'.heap.low B hB⟩) 40 v c r (fun i _ L hL => ⟨hv2 i L hL, hst'.heap.lt hL⟩) hc hx
  cases e' with
  | normal => exact fin hq
  | ret => exact fin hq
  | exit id => exact hq.elim

end
end Go.Proofs.Ytaejlmengfahnaa.AM

set_option linter.all false
namespace Go.Proofs.Ytaejlmengfahnaa.AM
open Go Go.RowKit

section
variable {P : Program} {E : Env} {C : Ctx} {n m : Nat}

theorem aops_soundL (hE : EOk P E) {all : Array Oper} {Q : Tmps → Heap → Prop} {Q' : Exit → Act → World → Prop} {L : List Nat} : ∀ (rest : List Oper) (k : Nat) {T : Tmps} {H : Heap} {φ : Nat → Option Loc} {S : Nat → Prop} {a : Act} {w : World}, (∀ i, i < rest.length → rest[i]? = all.toList[k + i]?) →
    Stands C n T H φ S a w → aops P E n all.toList rest T H Q → (∀ a' w', NextQ C n m φ S H w Q a' w' → wpOps P all Q' L a' w') → wpOps P all Q' ((List.range rest.length).map (k + ·) ++ L) a w
  | [], k, T, H, φ, S, a, w, _, hst, h, hQ => hQ _ _ ⟨T, H, φ, S, h, hst, .refl, .refl⟩
  | o :: rest, k, T, H, φ, S, a, w, hr, hst, h, hQ => by
    have ho : all[k]? = some o := by have := hr 0 (by simp); simpa using this.symm
    have hrest : ∀ i, i < rest.length → rest[i]? = all.toList[k + 1 + i]? := fun i hi => by have := hr (i + 1) (by simp; omega); rw [show k + (i + 1) = k + 1 + i by omega] at this; simpa using this
    have hlist : (List.range (o :: rest).length).map (k + ·) = k :: (List.range rest.length).map (k + 1 + ·) := by
      rw [List.length_cons, List.range_succ_eq_map]
      simp only [List.map_cons, List.map_map, Nat.add_zero]
      congr 1
      apply List.map_congr_left
      intro i _
      simp; omega
    rw [hlist, List.cons_append]
    simp only [wpOps, ho]
    have step : ∀ {T : Tmps}, Stands C n T H φ S a w → astep P E n o T H (fun T' H' => aops P E n all.toList rest T' H' Q) → o.wp P a w (wpOps P all Q' ((List.range rest.length).map (k + 1 + ·) ++ L)) Q' := fun {T} hst h => by
      refine Oper.wp_mono ?_ (astep_sound (m := m) (Q := Q') hE hst h)
      rintro a' w' ⟨T', H', φ', S', h1, h2, h3, h4⟩
      exact aops_soundL hE rest (k + 1) hrest h2 h1 (fun a'' w'' ⟨T2, H2, φ2, S2, g1, g2, g3, g4⟩ => hQ _ _ ⟨T2, H2, φ2, S2, g1, g2, h3.trans g3, h4.trans g4⟩)
    simp only [aops] at h
    split at h
    · rename_i hg
      have hw : Region.wanted o (yielded all a.tmps) = true := by simp [Region.wanted, hg]
      rw [if_pos hw]
      exact .inl (step hst h)
    · rename_i j want hg
      split at h
      · rename_i t ht
        split at h
        · rename_i b hb
          have hy := yielded_of ht hst.tmps hb
          have hv := hst.tmps t
          rw [hb] at hv
          split at h
          · rename_i hbw
            subst hbw
            have hw : Region.wanted o (yielded all a.tmps) = true := by simp [Region.wanted, hg, hy]
            rw [if_pos hw]
            exact .inl (step ⟨hst.heap, hst.tmps.told hv, hst.size, hst.defers⟩ h)
          · rename_i hbw
            have hw : ¬ Region.wanted o (yielded all a.tmps) = true := by simp [Region.wanted, hg, hy]; exact hbw
            rw [if_neg hw]
            have hbn : b = !want := by cases b <;> cases want <;> simp_all
            subst hbn
            exact aops_soundL hE rest (k + 1) hrest (Stands.skip ⟨hst.heap, hst.tmps.told hv, hst.size, hst.defers⟩ o.dst) h hQ
        · rename_i hb
          have hv := hst.tmps t
          rw [hb] at hv
          have hy := yielded_no ht (tuple0_inv hv)
          have hw : ¬ Region.wanted o (yielded all a.tmps) = true := by simp [Region.wanted, hg, hy]
          rw [if_neg hw]
          exact aops_soundL hE rest (k + 1) hrest (Stands.skip hst o.dst) h hQ
        · exact h.elim
      · exact h.elim

theorem range_cut (j l : Nat) (h : j ≤ l) : List.range l = (List.range j).map (0 + ·) ++ (List.range (l - j)).map (j + ·) := by
  refine List.ext_getElem? (fun i => ?_)
  rcases Nat.lt_or_ge i j with g | g
  · rw [List.getElem?_append_left (by simpa using g), List.getElem?_map, List.getElem?_range (by omega), List.getElem?_range g]; simp
  · rw [List.getElem?_append_right (by simpa using g), List.getElem?_map]
    simp only [List.length_map, List.length_range]
    rcases Nat.lt_or_ge i l with q | q
    · rw [List.getElem?_range q, List.getElem?_range (by omega)]; simp; omega
    · rw [List.getElem?_eq_none (by simpa using q), List.getElem?_eq_none (by simp; omega)]; rfl

theorem Snd.seqS {x y : Code} {T : Tmps} {H : Heap} {Q : Ex → Tmps → Heap → Prop} (h : Snd P E n m x T H (cutK P E n m y Q)) : Snd P E n m (.seq x y) T H Q := fun C φ S a w hst => by
  refine wp_seq (wp_mono (h C φ S a w hst) ?_)
  rintro e a1 w1 ⟨e', T', H', φ', S', hq, rfl, hst', hs', hk'⟩
  cases e' with
  | normal => exact wp_mono (hq C φ' S' a1 w1 hst') (fun e a2 w2 hp => hp.from hs' hk')
  | exit id => exact ⟨.exit id, T', H', φ', S', hq, rfl, hst', hs', hk'⟩
  | ret => exact ⟨.ret, T', H', φ', S', hq, rfl, hst', hs', hk'⟩
end
end Go.Proofs.Ytaejlmengfahnaa.AM

set_option linter.all false
namespace Go.Proofs.Ytaejlmengfahnaa.AM
open Go Go.RowKit

section
variable {P : Program} {E : Env} {C : Ctx} {n m : Nat} {φ : Nat → Option Loc} {S : Nat → Prop} {H H' : Heap} {w : World} {T T' : Tmps}

theorem Weak.reborn {id l nid sz : Nat} {els : List D} {v : V} (hv : v = .own id 0 l ∨ ∃ k, v = .full id 0 l k) (hg : hget H id = .dat false sz els) (hu : hget H nid = .unborn) (hl : l ≤ els.length) :
    Weak m [(0, v)] H [(0, .own nid 0 l)] (hput (hput H id .dead) nid (.dat false sz (els.take l))) := by
  intro C φ S w a hH hT
  have hbr := hH.blk id
  rw [hg] at hbr
  have h0 : RV φ S H w (.own id 0 l) (a.tmps.getD 0 undef) := by
    have := hT 0
    simp only [tget, if_true] at this
    rcases hv with rfl | ⟨k, rfl⟩
    · exact this
    · exact this.unfull
  obtain ⟨q1, q2, q3⟩ := hH.app hg hu (.dat false sz (els.take l)) (φ id) (w' := w) rfl rfl rfl (Nat.le_refl _) (fun _ _ => rfl) (fun _ _ _ _ => rfl) (fun _ _ _ => rfl) (fun L' h => .inl ⟨L', h, rfl⟩)
    (fun hst => by
      rcases hbr with ⟨hn, hnone⟩ | ⟨L, cs, t', s1, s2, s3, s4, s5, s6⟩
      · exact .inl ⟨by simp [hn], by simp [upd, hnone]⟩
      · refine .inr ⟨L, cs, t', by simp [upd, s1], s2, fun e he => s3 e (List.mem_of_mem_take he), ?_, fun j e k x he hx => ?_, s6⟩
        · have : (els.take l).length * sz ≤ els.length * sz := Nat.mul_le_mul_right _ (by simp; omega)
          omega
        · rw [List.getElem?_take] at he
          split at he
          · obtain ⟨c', h1, h2⟩ := s5 j e k x he hx
            exact ⟨c', h1, h2.keep hst.keepS⟩
          · cases he)
  refine ⟨_, _, q1, fun t => ?_, q2.toM (Nat.le_refl _)⟩
  simp only [tget]
  split
  · rename_i e
    subst e
    generalize a.tmps.getD 0 undef = c at h0
    cases h0 with | own _ _ _ l' cap A hub hh =>
      obtain ⟨r1, r2, r3, r4⟩ := hh false sz els hg
      refine .own nid 0 l l' cap A (by rw [hget_hput]; simp) (fun fz sz' els' hg' => ?_)
      rw [hget_hput] at hg'; simp at hg'
      obtain ⟨rfl, rfl, rfl⟩ := hg'
      refine ⟨by simp; omega, r2, r3, ?_⟩
      rcases r4 with h | ⟨L, hL, hA, hf⟩
      · exact .inl h
      · exact .inr ⟨L, by simp [upd, hL], hA, hf⟩
  · exact .d _ _ (.undef _)

def undefEl (sz : Nat) : D := .agg (List.replicate sz .undef)

theorem RSpec.full {f n sz : Nat} {vs : List V} {els : List D} {Hs : Heap} {r : V} {H1 : Heap} (hn : els.length = n) (hc : Callable P f)
    (h : ∀ k, n ≤ k → RSpec P f (.full 0 0 n k :: vs) (.dat false sz (els ++ List.replicate (k - n) (undefEl sz)) :: Hs) r H1) : RSpec P f (.own 0 0 n :: vs) (.dat false sz els :: Hs) r H1 := by
  refine ⟨hc, fun C φ S w cs hH hv => ?_⟩
  match cs, hv.len with
  | c :: cs', _ =>
    have h0 := hv.at_ 0 (.own 0 0 n) c rfl rfl
    cases h0 with | own _ _ _ l cap A hub hh =>
      obtain ⟨r1, r2, r3, r4⟩ := hh false sz els rfl
      subst r2
      have hbr := hH.blk 0
      have hgs : ∀ i, i ≠ 0 → hget (.dat false sz (els ++ List.replicate (cap - l) (undefEl sz)) :: Hs) i = hget (.dat false sz els :: Hs) i := fun i hi => by
        cases i with
        | zero => exact absurd rfl hi
        | succ i => rfl
      have hst : Step φ S (.dat false sz els :: Hs) w φ S (.dat false sz (els ++ List.replicate (cap - l) (undefEl sz)) :: Hs) w := ⟨.refl _ _, fun i hi => by
        by_cases e : i = 0
        · subst e; exact .inr ⟨⟨rfl, by simp⟩, rfl⟩
        · rw [hgs i e]; exact (Step.refl (φ := φ) (S := S) (H := .dat false sz els :: Hs) (w := w)).keepH i hi⟩
      have hH' : HRel C φ S (.dat false sz (els ++ List.replicate (cap - l) (undefEl sz)) :: Hs) w := ⟨hH.n0, hH.own, hH.vis, hH.inj, fun i => by
        by_cases e : i = 0
        · subst e
          rcases hbr with ⟨hn', hnone⟩ | ⟨L, cs2, t', s1, s2, s3, s4, s5, s6⟩
          · subst hn'
            have hl0 : l = 0 := by simpa using hn.symm
            have hc0 : cap = 0 := by
              rcases r4 with h | ⟨L, hL, _⟩
              · exact h
              · rw [hL] at hnone; cases hnone
            subst hl0 hc0
            exact .inl ⟨rfl, hnone⟩
          · refine .inr ⟨L, cs2, t', s1, s2, fun e he => ?_, ?_, fun j e k x he hx => ?_, s6⟩
            · rcases List.mem_append.1 he with g | g
              · exact s3 e g
              · rw [List.eq_of_mem_replicate g]; simp [undefEl, D.cells]
            · rcases r4 with h | ⟨L', hL', _, hf⟩
              · have : cap - l = 0 := by omega
                rw [this]; simpa using s4
              · rw [s1] at hL'; cases hL'
                rw [s2.size, Nat.zero_add] at hf
                have e1 : (els ++ List.replicate (cap - l) (undefEl sz)).length = cap := by simp; omega
                rw [e1]; exact hf
            · rw [List.getElem?_append] at he
              split at he
              · obtain ⟨c', h1, h2⟩ := s5 j e k x he hx
                exact ⟨c', h1, h2.keep hst.keepS⟩
              · rename_i hj
                have hje := List.mem_of_getElem? he
                have : e = undefEl sz := List.eq_of_mem_replicate hje
                subst this
                have hk : k < sz := by have := (List.getElem?_eq_some_iff.1 hx).1; simpa [undefEl, D.cells] using this
                have hx' : x = .undef := by
                  simp only [undefEl, D.cells] at hx
                  exact List.eq_of_mem_replicate (List.mem_of_getElem? hx)
                subst hx'
                have hjl : j - els.length < cap - l := by have := (List.getElem?_eq_some_iff.1 he).1; simpa using this
                have hjc : j + 1 ≤ cap := by omega
                rcases r4 with h | ⟨L', hL', _, hf⟩
                · omega
                · rw [s1] at hL'; cases hL'
                  rw [s2.size, Nat.zero_add] at hf
                  have hm : (j + 1) * sz ≤ cap * sz := Nat.mul_le_mul_right _ hjc
                  rw [Nat.add_mul, Nat.one_mul] at hm
                  have hlt : L.off + (j * sz + k) < cs2.size := by omega
                  exact ⟨cs2[L.off + (j * sz + k)], Array.getElem?_eq_getElem hlt, .undef _⟩
        · rw [hgs i e]
          exact (hH.blk i).keep hst rfl (fun _ _ => ⟨rfl, Iff.rfl⟩), hH.low⟩
      have hv' : RVs φ S (.dat false sz (els ++ List.replicate (cap - l) (undefEl sz)) :: Hs) w (.full 0 0 l cap :: vs) (.slice A l cap :: cs') := by
        refine .cons (.full 0 0 l cap A (by simp [hget]) (fun fz sz' els' hg => ?_)) ⟨by have := hv.len; simpa using this, fun i v c' h1 h2 => (hv.at_ (i + 1) v c' h1 h2).step hst⟩
        simp only [hget] at hg
        cases hg
        exact ⟨by simp; omega, r3, r4⟩
      refine ((h cap r3).2 C φ S w _ hH' hv').mono ?_
      rintro e w' ⟨c, φ', S', rfl, p1, p2, p3, p4⟩
      exact ⟨c, φ', S', rfl, p1, p2, hst.trans p3 (Nat.le_refl _) p4.size, p4⟩

end
end Go.Proofs.Ytaejlmengfahnaa.AM

set_option linter.all false
set_option maxRecDepth 100000
set_option maxHeartbeats 8000000
namespace Go.Proofs.Ytaejlmengfahnaa.AM
open Go Go.RowKit

theorem c_It_ahead (x y : Int × Int) : CSpec Try.prog 32 [dW x, dW y] (.int .i64 (cmpT x y)) := by
  refine CSpec.of_awp envOf_ok hmix Try.func32 rfl (fun args w => Try.call32 args w) (by simp [Try.f32]) ?_
  simp only [Try.f32]
  simp (maxSteps := 2000000) -implicitDefEqProofs only [zz, zE, evop, ev, ofVal, tget, tput, ok, V.isUndef, intBin, guardOf, initT, Ch.on, calleeOf, withArgs, told, xport, xports, tids, tidss, hget, hput, Blk.ice, freeze, V.cells, D.cells, V.isAgg, V.one, V.clo, clos, V.toD, loadD, structAt, eqCells, D.scalarEq, sliceOf, partsD, partsV, bound, isPtr, Blk.width, elems, lenOf, splice, D.over, resOf, resV, resVs, ↓reduceIte, reduceCtorEq, ↓reduceDIte, Nat.reduceLT, Nat.reduceEqDiff, Nat.reduceAdd, Nat.reduceSub, Nat.reduceMul, Nat.reduceLeDiff, Nat.reduceBEq, Nat.reduceBNe, Int.reduceNeg, Int.reduceAdd, Int.reduceSub, Int.reduceToNat, nilTest, shiftH, Blk.ren, V.ren, renL, initV, frameH, putL, frρ, dI, dW]
  refine wdraw_plan [⟨[], false, [7, 8, 10, 11, 12, 13], [], false⟩, ⟨[0], false, [7, 8, 10, 11, 12, 13], [], false⟩, ⟨[], false, [5, 6, 10, 11, 12, 13], [0, 1], false⟩, ⟨[2], false, [5, 6, 10, 11, 12, 13], [0, 1], false⟩, ⟨[0, 1, 2, 3], false, [10, 11, 12, 13], [], false⟩, ⟨[], false, [5, 6, 7, 8, 9, 12, 13], [0, 1, 2, 3, 4], false⟩, ⟨[5], false, [5, 6, 7, 8, 9, 12, 13], [0, 1, 2, 3, 4], false⟩, ⟨[], false, [5, 6, 7, 8, 9, 10, 11], [0, 1, 2, 3, 4, 5, 6], false⟩, ⟨[7], false, [5, 6, 7, 8, 9, 10, 11], [0, 1, 2, 3, 4, 5, 6], false⟩, ⟨[0, 1, 2, 3, 4, 5, 6, 7, 8], true, [], [], false⟩, ⟨[0, 1, 2, 3, 4, 5, 6, 7, 8, 9], true, [], [], false⟩, ⟨[0, 1, 2, 3, 4, 5, 6, 7, 8, 9, 10], true, [], [], false⟩, ⟨[0, 1, 2, 3, 4, 5, 6, 7, 8, 9, 10, 11], true, [], [], false⟩] (by decide) ?_
  simp (maxSteps := 2000000) -implicitDefEqProofs only [zz, zE, evop, ev, ofVal, tget, tput, ok, V.isUndef, intBin, guardOf, initT, Ch.on, calleeOf, withArgs, told, xport, xports, tids, tidss, hget, hput, Blk.ice, freeze, V.cells, D.cells, V.isAgg, V.one, V.clo, clos, V.toD, loadD, structAt, eqCells, D.scalarEq, sliceOf, partsD, partsV, bound, isPtr, Blk.width, elems, lenOf, splice, D.over, resOf, resV, resVs, ↓reduceIte, reduceCtorEq, ↓reduceDIte, Nat.reduceLT, Nat.reduceEqDiff, Nat.reduceAdd, Nat.reduceSub, Nat.reduceMul, Nat.reduceLeDiff, Nat.reduceBEq, Nat.reduceBNe, Int.reduceNeg, Int.reduceAdd, Int.reduceSub, Int.reduceToNat, nilTest, shiftH, Blk.ren, V.ren, renL, initV, frameH, putL, frρ, dI, dW]
  refine dcall_flat' (c_Compare _ _) rfl ?_
  try simp (maxSteps := 2000000) -implicitDefEqProofs only [zz, zE, evop, ev, ofVal, tget, tput, ok, V.isUndef, intBin, guardOf, initT, Ch.on, calleeOf, withArgs, told, xport, xports, tids, tidss, hget, hput, Blk.ice, freeze, V.cells, D.cells, V.isAgg, V.one, V.clo, clos, V.toD, loadD, structAt, eqCells, D.scalarEq, sliceOf, partsD, partsV, bound, isPtr, Blk.width, elems, lenOf, splice, D.over, resOf, resV, resVs, ↓reduceIte, reduceCtorEq, ↓reduceDIte, Nat.reduceLT, Nat.reduceEqDiff, Nat.reduceAdd, Nat.reduceSub, Nat.reduceMul, Nat.reduceLeDiff, Nat.reduceBEq, Nat.reduceBNe, Int.reduceNeg, Int.reduceAdd, Int.reduceSub, Int.reduceToNat, nilTest, shiftH, Blk.ren, V.ren, renL, initV, frameH, putL, frρ, dI, dW]
  refine acall_flat' (c_Compare _ _) rfl ?_
  try simp (maxSteps := 2000000) -implicitDefEqProofs only [zz, zE, evop, ev, ofVal, tget, tput, ok, V.isUndef, intBin, guardOf, initT, Ch.on, calleeOf, withArgs, told, xport, xports, tids, tidss, hget, hput, Blk.ice, freeze, V.cells, D.cells, V.isAgg, V.one, V.clo, clos, V.toD, loadD, structAt, eqCells, D.scalarEq, sliceOf, partsD, partsV, bound, isPtr, Blk.width, elems, lenOf, splice, D.over, resOf, resV, resVs, ↓reduceIte, reduceCtorEq, ↓reduceDIte, Nat.reduceLT, Nat.reduceEqDiff, Nat.reduceAdd, Nat.reduceSub, Nat.reduceMul, Nat.reduceLeDiff, Nat.reduceBEq, Nat.reduceBNe, Int.reduceNeg, Int.reduceAdd, Int.reduceSub, Int.reduceToNat, nilTest, shiftH, Blk.ren, V.ren, renL, initV, frameH, putL, frρ, dI, dW]
  refine acall_ice' (c_Or2 _ _) ?_
  try simp (maxSteps := 2000000) -implicitDefEqProofs only [zz, zE, evop, ev, ofVal, tget, tput, ok, V.isUndef, intBin, guardOf, initT, Ch.on, calleeOf, withArgs, told, xport, xports, tids, tidss, hget, hput, Blk.ice, freeze, V.cells, D.cells, V.isAgg, V.one, V.clo, clos, V.toD, loadD, structAt, eqCells, D.scalarEq, sliceOf, partsD, partsV, bound, isPtr, Blk.width, elems, lenOf, splice, D.over, resOf, resV, resVs, ↓reduceIte, reduceCtorEq, ↓reduceDIte, Nat.reduceLT, Nat.reduceEqDiff, Nat.reduceAdd, Nat.reduceSub, Nat.reduceMul, Nat.reduceLeDiff, Nat.reduceBEq, Nat.reduceBNe, Int.reduceNeg, Int.reduceAdd, Int.reduceSub, Int.reduceToNat, nilTest, shiftH, Blk.ren, V.ren, renL, initV, frameH, putL, frρ, dI, dW]
  unfold cmpT
  simp

theorem c_wh_somebody (n : Int) : CSpec Try.prog 28 [.int .i64 n] (.bool (whB n)) := by
  refine CSpec.of_awp envOf_ok hmix Try.func28 rfl (fun args w => Try.call28 args w) (by simp [Try.f28]) ?_
  simp only [Try.f28]
  simp (maxSteps := 2000000) -implicitDefEqProofs only [zz, zE, evop, ev, ofVal, tget, tput, ok, V.isUndef, intBin, guardOf, initT, Ch.on, calleeOf, withArgs, told, xport, xports, tids, tidss, hget, hput, Blk.ice, freeze, V.cells, D.cells, V.isAgg, V.one, V.clo, clos, V.toD, loadD, structAt, eqCells, D.scalarEq, sliceOf, partsD, partsV, bound, isPtr, Blk.width, elems, lenOf, splice, D.over, resOf, resV, resVs, ↓reduceIte, reduceCtorEq, ↓reduceDIte, Nat.reduceLT, Nat.reduceEqDiff, Nat.reduceAdd, Nat.reduceSub, Nat.reduceMul, Nat.reduceLeDiff, Nat.reduceBEq, Nat.reduceBNe, Int.reduceNeg, Int.reduceAdd, Int.reduceSub, Int.reduceToNat, nilTest, shiftH, Blk.ren, V.ren, renL, initV, frameH, putL, frρ, dI, dW]
  unfold whB
  split <;> simp_all <;> omega

theorem o_Clone_I (els : List D) (h1 : els.length * 16 ≤ 140737488355328) (h2 : ∀ e ∈ els, okEl 2 e = true) : FSpec Try.prog 34 [.vec els] (.own 0 0 els.length) [.dat false 2 els] := by
  refine FSpec.of_awp envOf_ok hmix Try.func34 rfl (fun args w => Try.call34 args w) (by simp [Try.f34]) ?_
  simp only [Try.f34]
  simp (maxSteps := 2000000) -implicitDefEqProofs only [zz, zE, evop, ev, ofVal, tget, tput, ok, V.isUndef, intBin, guardOf, initT, Ch.on, calleeOf, withArgs, told, xport, xports, tids, tidss, hget, hput, Blk.ice, freeze, V.cells, D.cells, V.isAgg, V.one, V.clo, clos, V.toD, loadD, structAt, eqCells, D.scalarEq, sliceOf, partsD, partsV, bound, isPtr, Blk.width, elems, lenOf, splice, D.over, resOf, resV, resVs, ↓reduceIte, reduceCtorEq, ↓reduceDIte, Nat.reduceLT, Nat.reduceEqDiff, Nat.reduceAdd, Nat.reduceSub, Nat.reduceMul, Nat.reduceLeDiff, Nat.reduceBEq, Nat.reduceBNe, Int.reduceNeg, Int.reduceAdd, Int.reduceSub, Int.reduceToNat, nilTest, shiftH, Blk.ren, V.ren, renL, initV, frameH, putL, frρ, dI, dW]
  refine ⟨fun h => ?_, ⟨h1, h2⟩, ?_⟩
  · subst h
    refine Weak.pick [7] (by simp) (by simp) rfl (fun q hq => ?_) (fun i hi => ?_)
    · obtain rfl : q = _ := by simpa using hq
      exact .nils 0 2 rfl
    · obtain rfl : i = 0 := by simpa using hi
      exact .virt 2 rfl rfl
  · refine Weak.pick [1] (by simp) (by simp) rfl (fun q hq => ?_) (fun i hi => ?_)
    · obtain rfl : q = _ := by simpa using hq
      exact .same _
    · obtain rfl : i = 0 := by simpa using hi
      exact .dat false 2 els rfl rfl
theorem okEl_T (ws : List (Int × Int)) : ∀ e ∈ ws.map dW, okEl 2 e = true := fun e he => by
  obtain ⟨x, _, rfl⟩ := List.mem_map.1 he
  rfl

theorem c_IndexFunc_I (ns : List (Int × Int)) (f : Nat) (cap : List D) (p : Int × Int → Bool) (hl : ns.length ≤ 1000000) (hcap : cap.length ≤ 8) (hp : ∀ n ∈ ns, CSpec Try.prog f (dW n :: cap) (.bool (p n))) : CSpec Try.prog 51 [.vec (ns.map dW), .func (f, 0) cap] (.int .i64 (idxOf p ns)) := by
  refine CSpec.of_awp envOf_ok hmix Try.func51 rfl (fun args w => Try.call51 args w) (by simp [Try.f51]) ?_
  simp only [Try.f51]
  simp (maxSteps := 2000000) -implicitDefEqProofs only [zz, zE, evop, ev, ofVal, tget, tput, ok, V.isUndef, intBin, guardOf, initT, Ch.on, calleeOf, withArgs, told, xport, xports, tids, tidss, hget, hput, Blk.ice, freeze, V.cells, D.cells, V.isAgg, V.one, V.clo, clos, V.toD, loadD, structAt, eqCells, D.scalarEq, sliceOf, partsD, partsV, bound, isPtr, Blk.width, elems, lenOf, splice, D.over, resOf, resV, resVs, ↓reduceIte, reduceCtorEq, ↓reduceDIte, Nat.reduceLT, Nat.reduceEqDiff, Nat.reduceAdd, Nat.reduceSub, Nat.reduceMul, Nat.reduceLeDiff, Nat.reduceBEq, Nat.reduceBNe, Int.reduceNeg, Int.reduceAdd, Int.reduceSub, Int.reduceToNat, nilTest, shiftH, Blk.ren, V.ren, renL, initV, frameH, putL, frρ, dI, dW]
  refine wloop_ind (σ := Nat) (fun i => ns.length - i) (fun i => [(8, .d (.int .i64 i)), (7, .d (.int .i64 ns.length)), (4, .d (.int .i64 0)), (0, .d (.vec (ns.map dW))), (1, .d (.func (f, 0) cap))]) (fun _ => []) (fun i => i ≤ ns.length ∧ ∀ j < i, ∀ x, ns[j]? = some x → p x = false) 0 ⟨Nat.zero_le _, fun j hj => by omega⟩ (Weak.sub (by simp [tget])) ?_
  intro i ⟨hi, hb⟩
  rcases Nat.lt_or_ge i ns.length with h | h
  · have hx : ns[i]? = some ns[i] := List.getElem?_eq_getElem h
    have h' : ((i : Int) < (ns.length : Int)) := by omega
    simp (maxSteps := 2000000) -implicitDefEqProofs only [zz, zE, evop, ev, ofVal, tget, tput, ok, V.isUndef, intBin, guardOf, initT, Ch.on, calleeOf, withArgs, told, xport, xports, tids, tidss, hget, hput, Blk.ice, freeze, V.cells, D.cells, V.isAgg, V.one, V.clo, clos, V.toD, loadD, structAt, eqCells, D.scalarEq, sliceOf, partsD, partsV, bound, isPtr, Blk.width, elems, lenOf, splice, D.over, resOf, resV, resVs, ↓reduceIte, reduceCtorEq, ↓reduceDIte, Nat.reduceLT, Nat.reduceEqDiff, Nat.reduceAdd, Nat.reduceSub, Nat.reduceMul, Nat.reduceLeDiff, Nat.reduceBEq, Nat.reduceBNe, Int.reduceNeg, Int.reduceAdd, Int.reduceSub, Int.reduceToNat, nilTest, shiftH, Blk.ren, V.ren, renL, initV, frameH, putL, frρ, dI, dW, h', List.getElem?_map, hx, Option.map_some, Int.natCast_nonneg]
    refine acall_flat (ds := dW ns[i] :: cap) (by simp only [xports, xport, xports_ds cap 39 (by omega), dW]) (hp _ (List.getElem_mem h)) rfl ?_
    simp (maxSteps := 2000000) -implicitDefEqProofs only [zz, zE, evop, ev, ofVal, tget, tput, ok, V.isUndef, intBin, guardOf, initT, Ch.on, calleeOf, withArgs, told, xport, xports, tids, tidss, hget, hput, Blk.ice, freeze, V.cells, D.cells, V.isAgg, V.one, V.clo, clos, V.toD, loadD, structAt, eqCells, D.scalarEq, sliceOf, partsD, partsV, bound, isPtr, Blk.width, elems, lenOf, splice, D.over, resOf, resV, resVs, ↓reduceIte, reduceCtorEq, ↓reduceDIte, Nat.reduceLT, Nat.reduceEqDiff, Nat.reduceAdd, Nat.reduceSub, Nat.reduceMul, Nat.reduceLeDiff, Nat.reduceBEq, Nat.reduceBNe, Int.reduceNeg, Int.reduceAdd, Int.reduceSub, Int.reduceToNat, nilTest, shiftH, Blk.ren, V.ren, renL, initV, frameH, putL, frρ, dI, dW]
    split
    · rename_i hpx
      simp [idxOf, findIdx_at h hb hpx]
    · rename_i hpx
      refine ⟨i + 1, ⟨h, fun j hj x hxj => ?_⟩, by omega, Weak.sub ?_⟩
      · rcases Nat.lt_or_ge j i with hji | hji
        · exact hb j hji x hxj
        · have : j = i := by omega
          subst this
          rw [hx] at hxj; cases hxj
          simpa using hpx
      · have hw : IntKind.i64.wrap ((i : Int) + 1) = (i : Int) + 1 := by rw [IntKind.wrap_i64]; omega
        simp [tget, hw]
  · have h' : ¬ ((i : Int) < (ns.length : Int)) := by omega
    simp (maxSteps := 2000000) -implicitDefEqProofs only [zz, zE, evop, ev, ofVal, tget, tput, ok, V.isUndef, intBin, guardOf, initT, Ch.on, calleeOf, withArgs, told, xport, xports, tids, tidss, hget, hput, Blk.ice, freeze, V.cells, D.cells, V.isAgg, V.one, V.clo, clos, V.toD, loadD, structAt, eqCells, D.scalarEq, sliceOf, partsD, partsV, bound, isPtr, Blk.width, elems, lenOf, splice, D.over, resOf, resV, resVs, ↓reduceIte, reduceCtorEq, ↓reduceDIte, Nat.reduceLT, Nat.reduceEqDiff, Nat.reduceAdd, Nat.reduceSub, Nat.reduceMul, Nat.reduceLeDiff, Nat.reduceBEq, Nat.reduceBNe, Int.reduceNeg, Int.reduceAdd, Int.reduceSub, Int.reduceToNat, nilTest, shiftH, Blk.ren, V.ren, renL, initV, frameH, putL, frρ, dI, dW, h']
    have : ns.findIdx? p = none := by
      rw [List.findIdx?_eq_none_iff]
      intro x hx
      obtain ⟨j, hj, rfl⟩ := List.getElem_of_mem hx
      simpa using hb j (by omega) _ (List.getElem?_eq_getElem hj)
    simp [idxOf, this]

theorem c_ContainsFunc_I (ns : List (Int × Int)) (f : Nat) (cap : List D) (p : Int × Int → Bool) (hl : ns.length ≤ 1000000) (hcap : cap.length ≤ 8) (hp : ∀ n ∈ ns, CSpec Try.prog f (dW n :: cap) (.bool (p n))) : CSpec Try.prog 45 [.vec (ns.map dW), .func (f, 0) cap] (.bool (ns.any p)) := by
  refine CSpec.of_awp envOf_ok hmix Try.func45 rfl (fun args w => Try.call45 args w) (by simp [Try.f45]) ?_
  simp only [Try.f45]
  simp (maxSteps := 2000000) -implicitDefEqProofs only [zz, zE, evop, ev, ofVal, tget, tput, ok, V.isUndef, intBin, guardOf, initT, Ch.on, calleeOf, withArgs, told, xport, xports, tids, tidss, hget, hput, Blk.ice, freeze, V.cells, D.cells, V.isAgg, V.one, V.clo, clos, V.toD, loadD, structAt, eqCells, D.scalarEq, sliceOf, partsD, partsV, bound, isPtr, Blk.width, elems, lenOf, splice, D.over, resOf, resV, resVs, ↓reduceIte, reduceCtorEq, ↓reduceDIte, Nat.reduceLT, Nat.reduceEqDiff, Nat.reduceAdd, Nat.reduceSub, Nat.reduceMul, Nat.reduceLeDiff, Nat.reduceBEq, Nat.reduceBNe, Int.reduceNeg, Int.reduceAdd, Int.reduceSub, Int.reduceToNat, nilTest, shiftH, Blk.ren, V.ren, renL, initV, frameH, putL, frρ, dI, dW]
  refine acall_flat' (c_IndexFunc_I ns f cap p hl hcap hp) rfl ?_
  try simp (maxSteps := 2000000) -implicitDefEqProofs only [zz, zE, evop, ev, ofVal, tget, tput, ok, V.isUndef, intBin, guardOf, initT, Ch.on, calleeOf, withArgs, told, xport, xports, tids, tidss, hget, hput, Blk.ice, freeze, V.cells, D.cells, V.isAgg, V.one, V.clo, clos, V.toD, loadD, structAt, eqCells, D.scalarEq, sliceOf, partsD, partsV, bound, isPtr, Blk.width, elems, lenOf, splice, D.over, resOf, resV, resVs, ↓reduceIte, reduceCtorEq, ↓reduceDIte, Nat.reduceLT, Nat.reduceEqDiff, Nat.reduceAdd, Nat.reduceSub, Nat.reduceMul, Nat.reduceLeDiff, Nat.reduceBEq, Nat.reduceBNe, Int.reduceNeg, Int.reduceAdd, Int.reduceSub, Int.reduceToNat, nilTest, shiftH, Blk.ren, V.ren, renL, initV, frameH, putL, frρ, dI, dW]
  rw [idxOf_nonneg]


theorem r_insertion_I (ws : List (Int × Int)) (a b : Nat) (hab : a ≤ b) (hb : b ≤ ws.length) (hl : ws.length ≤ 1000000) (f : Nat) (c : Int × Int → Int × Int → Int)
    (hc : ∀ x y, CSpec Try.prog f [dW x, dW y] (.int .i64 (c x y))) : RSpec Try.prog 58 [.own 0 0 ws.length, .d (.int .i64 a), .d (.int .i64 b), .func (f, 0) []] [.dat false 2 (ws.map dW)] (.tuple [])
      [.dat false 2 ((sortPart (fun x y => decide (c x y < 0)) ws a b).map dW)] := by
  refine RSpec.of_awp envOf_ok hmix Try.func58 rfl (fun args w => Try.call58 args w) (by simp [Try.f58]) ?_
  simp only [Try.f58]
  simp (maxSteps := 2000000) -implicitDefEqProofs only [zz, zE, evop, ev, ofVal, tget, tput, ok, V.isUndef, intBin, guardOf, initT, Ch.on, calleeOf, withArgs, told, xport, xports, tids, tidss, hget, hput, Blk.ice, freeze, V.cells, D.cells, V.isAgg, V.one, V.clo, clos, V.toD, loadD, structAt, eqCells, D.scalarEq, sliceOf, partsD, partsV, bound, isPtr, Blk.width, elems, lenOf, splice, D.over, resOf, resV, resVs, ↓reduceIte, reduceCtorEq, ↓reduceDIte, Nat.reduceLT, Nat.reduceEqDiff, Nat.reduceAdd, Nat.reduceSub, Nat.reduceMul, Nat.reduceLeDiff, Nat.reduceBEq, Nat.reduceBNe, Int.reduceNeg, Int.reduceAdd, Int.reduceSub, Int.reduceToNat, nilTest, shiftH, Blk.ren, V.ren, renL, initV, frameH, putL, frρ, dI, dW]
  have hw0 : IntKind.i64.wrap ((a : Int) + 1) = ((a + 1 : Nat) : Int) := by rw [wrap_in (by omega)]; omega
  let lt : Int × Int → Int × Int → Bool := fun x y => decide (c x y < 0)
  rcases Nat.eq_or_lt_of_le hab with hab' | hab'
  · subst hab'
    have e0 : sortPart (fun x y => decide (c x y < 0)) ws a a = ws := by simp [sortPart, isort]
    refine wloop_count 0 (fun i => [(8, .d (.int .i64 ((a + 1 : Nat) : Int))), (0, .own 0 0 ws.length), (1, .d (.int .i64 a)), (2, .d (.int .i64 a)), (3, .func (f, 0) [])]) (fun i => [.dat false 2 (ws.map dW)]) (fun i => True) trivial (Weak.sub (by simp [tget, hw0])) (fun i hi _ => by omega) (fun _ => ?_)
    have h' : ¬ (((a + 1 : Nat) : Int) < (a : Int)) := by omega
    simp (maxSteps := 2000000) -implicitDefEqProofs only [zz, zE, evop, ev, ofVal, tget, tput, ok, V.isUndef, intBin, guardOf, initT, Ch.on, calleeOf, withArgs, told, xport, xports, tids, tidss, hget, hput, Blk.ice, freeze, V.cells, D.cells, V.isAgg, V.one, V.clo, clos, V.toD, loadD, structAt, eqCells, D.scalarEq, sliceOf, partsD, partsV, bound, isPtr, Blk.width, elems, lenOf, splice, D.over, resOf, resV, resVs, ↓reduceIte, reduceCtorEq, ↓reduceDIte, Nat.reduceLT, Nat.reduceEqDiff, Nat.reduceAdd, Nat.reduceSub, Nat.reduceMul, Nat.reduceLeDiff, Nat.reduceBEq, Nat.reduceBNe, Int.reduceNeg, Int.reduceAdd, Int.reduceSub, Int.reduceToNat, nilTest, shiftH, Blk.ren, V.ren, renL, initV, frameH, putL, frρ, dI, dW, h', e0]
    exact Weak.sub (by simp [tget])
  refine wloop_count (b - (a + 1)) (fun i => [(8, .d (.int .i64 ((a + 1 + i : Nat) : Int))), (0, .own 0 0 ws.length), (1, .d (.int .i64 a)), (2, .d (.int .i64 b)), (3, .func (f, 0) [])]) (fun i => [.dat false 2 ((sortPart lt ws a (a + 1 + i)).map dW)]) (fun i => True) trivial ?_ (fun i hi _ => ?_) (fun _ => ?_)
  · have e1 : sortPart lt ws a (a + 1 + 0) = ws := by
      have h1 : (ws.drop a).take (a + 1 + 0 - a) = [ws[a]] := by
        have : a + 1 + 0 - a = 1 := by omega
        rw [this, List.drop_eq_getElem_cons (by omega)]; rfl
      unfold sortPart
      rw [h1]
      have h2 : isort lt [ws[a]] = [ws[a]] := rfl
      rw [h2, List.append_assoc, List.singleton_append, ← List.drop_eq_getElem_cons (by omega), List.take_append_drop]
    rw [e1]
    exact Weak.sub (by simp [tget, hw0])
  · have h' : (((a + 1 + i : Nat) : Int) < (b : Int)) := by omega
    have hlt : a + 1 + i < ws.length := by omega
    obtain ⟨x, hx⟩ : ∃ x, x = ws[a + 1 + i] := ⟨_, rfl⟩
    obtain ⟨A, hA⟩ : ∃ A, A = isort lt ((ws.drop a).take (a + 1 + i - a)) := ⟨_, rfl⟩
    have hAl : A.length = 1 + i := by rw [hA, isort_length]; simp; omega
    have hPl : (ws.take a).length = a := by simp; omega
    have e1 : sortPart lt ws a (a + 1 + i) = insAt (ws.take a) A (ws.drop (a + 1 + i + 1)) x A.length := by
      unfold sortPart insAt
      rw [← hA, List.take_of_length_le (Nat.le_refl _), List.drop_of_length_le (Nat.le_refl _), List.drop_eq_getElem_cons hlt, hx]
      simp
    have e2 : ∀ k, insK lt x A = k → sortPart lt ws a (a + 1 + (i + 1)) = insAt (ws.take a) A (ws.drop (a + 1 + i + 1)) x k := fun k hk => by
      unfold sortPart insAt
      have h1 : (ws.drop a).take (a + 1 + (i + 1) - a) = (ws.drop a).take (a + 1 + i - a) ++ [x] := by
        have h2 : a + 1 + (i + 1) - a = (a + 1 + i - a) + 1 := by omega
        rw [h2, List.take_add_one, List.getElem?_drop]
        have h3 : a + (a + 1 + i - a) = a + 1 + i := by omega
        rw [h3, List.getElem?_eq_getElem hlt, hx]; rfl
      rw [h1, isort_snoc, ← hA, insR, hk]
      have h4 : a + 1 + (i + 1) = a + 1 + i + 1 := by omega
      rw [h4]
    have hIl : ∀ k, k ≤ A.length → (insAt (ws.take a) A (ws.drop (a + 1 + i + 1)) x k).length = ws.length := fun k hk => by
      rw [insAt_length hk, hPl, hAl]; simp; omega
    have hwi : IntKind.i64.wrap (((a + 1 + i : Nat) : Int) + 1) = ((a + 1 + (i + 1) : Nat) : Int) := by rw [wrap_in (by omega)]; omega
    simp (maxSteps := 2000000) -implicitDefEqProofs only [zz, zE, evop, ev, ofVal, tget, tput, ok, V.isUndef, intBin, guardOf, initT, Ch.on, calleeOf, withArgs, told, xport, xports, tids, tidss, hget, hput, Blk.ice, freeze, V.cells, D.cells, V.isAgg, V.one, V.clo, clos, V.toD, loadD, structAt, eqCells, D.scalarEq, sliceOf, partsD, partsV, bound, isPtr, Blk.width, elems, lenOf, splice, D.over, resOf, resV, resVs, ↓reduceIte, reduceCtorEq, ↓reduceDIte, Nat.reduceLT, Nat.reduceEqDiff, Nat.reduceAdd, Nat.reduceSub, Nat.reduceMul, Nat.reduceLeDiff, Nat.reduceBEq, Nat.reduceBNe, Int.reduceNeg, Int.reduceAdd, Int.reduceSub, Int.reduceToNat, nilTest, shiftH, Blk.ren, V.ren, renL, initV, frameH, putL, frρ, dI, dW, h', e1]
    refine wloop_ind (σ := Nat) (fun k => k) (fun k => [(9, .d (.int .i64 ((a + k : Nat) : Int))), (8, .d (.int .i64 ((a + 1 + i : Nat) : Int))), (0, .own 0 0 ws.length), (1, .d (.int .i64 a)), (2, .d (.int .i64 b)), (3, .func (f, 0) [])])
      (fun k => [.dat false 2 ((insAt (ws.take a) A (ws.drop (a + 1 + i + 1)) x k).map dW)]) (fun k => k ≤ A.length ∧ ∀ i, k ≤ i → ∀ y, A[i]? = some y → lt x y = true) A.length ⟨Nat.le_refl _, fun i hi y hy => by have := (List.getElem?_eq_some_iff.1 hy).1; omega⟩ (Weak.sub ?_) ?_
    · have : ((a + A.length : Nat) : Int) = ((a + 1 + i : Nat) : Int) := by omega
      simp [tget, this]
    rintro k ⟨hk, hgt⟩
    rcases Nat.eq_zero_or_pos k with hk0 | hk0
    · subst hk0
      have hf' : ¬ ((a : Int) < (a : Int)) := by omega
      have e3 := e2 0 (insK_eq (Nat.zero_le _) hgt (.inl rfl))
      simp (maxSteps := 2000000) -implicitDefEqProofs only [zz, zE, evop, ev, ofVal, tget, tput, ok, V.isUndef, intBin, guardOf, initT, Ch.on, calleeOf, withArgs, told, xport, xports, tids, tidss, hget, hput, Blk.ice, freeze, V.cells, D.cells, V.isAgg, V.one, V.clo, clos, V.toD, loadD, structAt, eqCells, D.scalarEq, sliceOf, partsD, partsV, bound, isPtr, Blk.width, elems, lenOf, splice, D.over, resOf, resV, resVs, ↓reduceIte, reduceCtorEq, ↓reduceDIte, Nat.reduceLT, Nat.reduceEqDiff, Nat.reduceAdd, Nat.reduceSub, Nat.reduceMul, Nat.reduceLeDiff, Nat.reduceBEq, Nat.reduceBNe, Int.reduceNeg, Int.reduceAdd, Int.reduceSub, Int.reduceToNat, nilTest, shiftH, Blk.ren, V.ren, renL, initV, frameH, putL, frρ, dI, dW, hf']
      refine wdraw_plan [⟨[], false, [19], [], false⟩, ⟨[], false, [18], [0], false⟩, ⟨[0, 1], true, [], [], false⟩, ⟨[0, 1, 2], true, [], [], false⟩, ⟨[0, 1, 2, 3], false, [23, 24, 25, 26, 27, 28, 29, 30, 31], [], false⟩, ⟨[0, 1, 2, 3], false, [22, 24, 27, 28, 29, 30, 31], [4], false⟩, ⟨[0, 1, 2, 3], false, [22, 23, 27, 28, 29, 30, 31], [4, 5], false⟩, ⟨[0, 1, 2, 3, 5, 6], false, [22, 27, 28, 29, 30, 31], [4], false⟩, ⟨[0, 1, 2, 3, 5, 6, 7], false, [22, 27, 28, 29, 30, 31], [4], false⟩, ⟨[0, 1, 2, 3], false, [22, 23, 24, 25, 26, 28, 29], [4, 5, 6, 7, 8], false⟩, ⟨[0, 1, 2, 3], false, [22, 23, 24, 25, 26, 27], [4, 5, 6, 7, 8, 9], false⟩, ⟨[0, 1, 2, 3, 10], false, [22, 23, 24, 25, 26, 27], [4, 5, 6, 7, 8, 9], false⟩, ⟨[0, 1, 2, 3, 9, 10, 11], false, [22, 23, 24, 25, 26], [4, 5, 6, 7, 8], false⟩, ⟨[0, 1, 2, 3, 9, 10, 11, 12], false, [22, 23, 24, 25, 26], [4, 5, 6, 7, 8], false⟩, ⟨[0, 1, 2, 3, 4, 5, 6, 7, 8, 9, 10, 11, 12, 13], false, [], [], false⟩, ⟨[0, 1, 2, 3, 4, 5, 6, 7, 8, 9, 10, 11, 12, 13, 14], false, [], [], false⟩, ⟨[0, 1, 2, 3, 4, 5, 6, 7, 8, 9, 10, 11, 12, 13, 14, 15], true, [], [], false⟩] (by decide) ?_
      simp (maxSteps := 2000000) -implicitDefEqProofs only [zz, zE, evop, ev, ofVal, tget, tput, ok, V.isUndef, intBin, guardOf, initT, Ch.on, calleeOf, withArgs, told, xport, xports, tids, tidss, hget, hput, Blk.ice, freeze, V.cells, D.cells, V.isAgg, V.one, V.clo, clos, V.toD, loadD, structAt, eqCells, D.scalarEq, sliceOf, partsD, partsV, bound, isPtr, Blk.width, elems, lenOf, splice, D.over, resOf, resV, resVs, ↓reduceIte, reduceCtorEq, ↓reduceDIte, Nat.reduceLT, Nat.reduceEqDiff, Nat.reduceAdd, Nat.reduceSub, Nat.reduceMul, Nat.reduceLeDiff, Nat.reduceBEq, Nat.reduceBNe, Int.reduceNeg, Int.reduceAdd, Int.reduceSub, Int.reduceToNat, nilTest, shiftH, Blk.ren, V.ren, renL, initV, frameH, putL, frρ, dI, dW, hf']
      rw [e3]
      exact Weak.trimsM 1 (by simp) rfl (by simp [tget, V.lower, lowerL]; rw [wrap_in (by omega)]; omega) (by simp [Blk.lower])
    · obtain ⟨k, rfl⟩ : ∃ k', k = k' + 1 := ⟨k - 1, by omega⟩
      have hgy : A[k]? = some A[k] := List.getElem?_eq_getElem (by omega)
      obtain ⟨y, hy⟩ : ∃ y, y = A[k] := ⟨_, rfl⟩
      rw [← hy] at hgy
      have hg1 : (insAt (ws.take a) A (ws.drop (a + 1 + i + 1)) x (k + 1))[a + (k + 1)]? = some x := by
        rw [insAt_get hk, hPl, if_neg (by omega), if_neg (by omega), if_pos rfl]
      have hg0 : (insAt (ws.take a) A (ws.drop (a + 1 + i + 1)) x (k + 1))[a + k]? = some y := by
        rw [insAt_get hk, hPl, if_neg (by omega), if_pos (by omega)]
        have : a + k - a = k := by omega
        rw [this]; exact hgy
      have hg2 : ((insAt (ws.take a) A (ws.drop (a + 1 + i + 1)) x (k + 1)).set (a + (k + 1)) y)[a + k]? = some y := by
        rw [List.getElem?_set_ne (by omega)]; exact hg0
      have hsw : ((insAt (ws.take a) A (ws.drop (a + 1 + i + 1)) x (k + 1)).set (a + (k + 1)) y).set (a + k) x = insAt (ws.take a) A (ws.drop (a + 1 + i + 1)) x k := by
        have := insAt_swap (P := ws.take a) (R := ws.drop (a + 1 + i + 1)) (x := x) hk hgy
        rw [hPl] at this; exact this
      have hf' : ((a : Int) < ((a + (k + 1) : Nat) : Int)) := by omega
      have hw1 : IntKind.i64.wrap (((a + (k + 1) : Nat) : Int) - 1) = ((a + k : Nat) : Int) := by rw [wrap_in (by omega)]; omega
      simp (maxSteps := 2000000) -implicitDefEqProofs only [zz, zE, evop, ev, ofVal, tget, tput, ok, V.isUndef, intBin, guardOf, initT, Ch.on, calleeOf, withArgs, told, xport, xports, tids, tidss, hget, hput, Blk.ice, freeze, V.cells, D.cells, V.isAgg, V.one, V.clo, clos, V.toD, loadD, structAt, eqCells, D.scalarEq, sliceOf, partsD, partsV, bound, isPtr, Blk.width, elems, lenOf, splice, D.over, resOf, resV, resVs, ↓reduceIte, reduceCtorEq, ↓reduceDIte, Nat.reduceLT, Nat.reduceEqDiff, Nat.reduceAdd, Nat.reduceSub, Nat.reduceMul, Nat.reduceLeDiff, Nat.reduceBEq, Nat.reduceBNe, Int.reduceNeg, Int.reduceAdd, Int.reduceSub, Int.reduceToNat, nilTest, shiftH, Blk.ren, V.ren, renL, initV, frameH, putL, frρ, dI, dW, hf']
      refine wdraw_plan [⟨[], false, [19], [], false⟩, ⟨[], false, [18], [0], false⟩, ⟨[0, 1], true, [], [], false⟩, ⟨[0, 1, 2], true, [], [], false⟩, ⟨[0, 1, 2, 3], false, [23, 24, 25, 26, 27, 28, 29, 30, 31], [], false⟩, ⟨[0, 1, 2, 3], false, [22, 24, 27, 28, 29, 30, 31], [4], false⟩, ⟨[0, 1, 2, 3], false, [22, 23, 27, 28, 29, 30, 31], [4, 5], false⟩, ⟨[0, 1, 2, 3, 5, 6], false, [22, 27, 28, 29, 30, 31], [4], false⟩, ⟨[0, 1, 2, 3, 5, 6, 7], false, [22, 27, 28, 29, 30, 31], [4], false⟩, ⟨[0, 1, 2, 3], false, [22, 23, 24, 25, 26, 28, 29], [4, 5, 6, 7, 8], false⟩, ⟨[0, 1, 2, 3], false, [22, 23, 24, 25, 26, 27], [4, 5, 6, 7, 8, 9], false⟩, ⟨[0, 1, 2, 3, 10], false, [22, 23, 24, 25, 26, 27], [4, 5, 6, 7, 8, 9], false⟩, ⟨[0, 1, 2, 3, 9, 10, 11], false, [22, 23, 24, 25, 26], [4, 5, 6, 7, 8], false⟩, ⟨[0, 1, 2, 3, 9, 10, 11, 12], false, [22, 23, 24, 25, 26], [4, 5, 6, 7, 8], false⟩, ⟨[0, 1, 2, 3, 4, 5, 6, 7, 8, 9, 10, 11, 12, 13], false, [], [], false⟩, ⟨[0, 1, 2, 3, 4, 5, 6, 7, 8, 9, 10, 11, 12, 13, 14], false, [], [], false⟩, ⟨[0, 1, 2, 3, 4, 5, 6, 7, 8, 9, 10, 11, 12, 13, 14, 15], true, [], [], false⟩] (by decide) ?_
      simp (maxSteps := 2000000) -implicitDefEqProofs only [zz, zE, evop, ev, ofVal, tget, tput, ok, V.isUndef, intBin, guardOf, initT, Ch.on, calleeOf, withArgs, told, xport, xports, tids, tidss, hget, hput, Blk.ice, freeze, V.cells, D.cells, V.isAgg, V.one, V.clo, clos, V.toD, loadD, structAt, eqCells, D.scalarEq, sliceOf, partsD, partsV, bound, isPtr, Blk.width, elems, lenOf, splice, D.over, resOf, resV, resVs, ↓reduceIte, reduceCtorEq, ↓reduceDIte, Nat.reduceLT, Nat.reduceEqDiff, Nat.reduceAdd, Nat.reduceSub, Nat.reduceMul, Nat.reduceLeDiff, Nat.reduceBEq, Nat.reduceBNe, Int.reduceNeg, Int.reduceAdd, Int.reduceSub, Int.reduceToNat, nilTest, shiftH, Blk.ren, V.ren, renL, initV, frameH, putL, frρ, dI, dW, hf', hw1, List.getElem?_map, hg1, hg0, Option.map_some, Int.natCast_nonneg]
      refine ⟨by omega, by omega, ?_⟩
      refine dcall_flat (ds := [dW x, dW y]) (by simp only [xports, xport, dW]) (hc x y) rfl ?_
      simp (maxSteps := 2000000) -implicitDefEqProofs only [zz, zE, evop, ev, ofVal, tget, tput, ok, V.isUndef, intBin, guardOf, initT, Ch.on, calleeOf, withArgs, told, xport, xports, tids, tidss, hget, hput, Blk.ice, freeze, V.cells, D.cells, V.isAgg, V.one, V.clo, clos, V.toD, loadD, structAt, eqCells, D.scalarEq, sliceOf, partsD, partsV, bound, isPtr, Blk.width, elems, lenOf, splice, D.over, resOf, resV, resVs, ↓reduceIte, reduceCtorEq, ↓reduceDIte, Nat.reduceLT, Nat.reduceEqDiff, Nat.reduceAdd, Nat.reduceSub, Nat.reduceMul, Nat.reduceLeDiff, Nat.reduceBEq, Nat.reduceBNe, Int.reduceNeg, Int.reduceAdd, Int.reduceSub, Int.reduceToNat, nilTest, shiftH, Blk.ren, V.ren, renL, initV, frameH, putL, frρ, dI, dW]
      split
      · rename_i hlt'
        refine wdraw_plan [⟨[], false, [38, 39, 40, 41, 42, 43, 44, 45, 46, 47, 48, 49, 50], [], false⟩, ⟨[], false, [37, 39, 40, 41, 42, 43, 44, 45, 46, 47, 48, 49, 50], [0], false⟩, ⟨[], false, [37, 38, 39, 40, 41, 42, 43, 44, 45, 46, 47, 48, 49, 50, 51], [0, 1], true⟩, ⟨[], false, [37, 38, 39, 40, 41, 42, 43, 44, 45, 46, 47, 48, 49, 50, 51], [0, 1, 2], true⟩, ⟨[3], false, [37, 38, 39, 41, 42, 43, 44, 45, 46, 47, 48, 49, 50, 51], [0, 1, 2], true⟩, ⟨[], false, [37, 38, 39, 40, 41, 43, 44, 47, 48, 49, 50], [0, 1, 2, 3, 4], false⟩, ⟨[], false, [37, 38, 39, 40, 41, 42, 47, 48, 49, 50], [0, 1, 2, 3, 4, 5], false⟩, ⟨[6], false, [37, 38, 39, 40, 41, 42, 47, 48, 49, 50], [0, 1, 2, 3, 4, 5], false⟩, ⟨[5, 6, 7], false, [37, 38, 39, 40, 41, 47, 48, 49, 50], [0, 1, 2, 3, 4], false⟩, ⟨[5, 6, 7, 8], false, [37, 38, 39, 40, 41, 47, 48, 49, 50], [0, 1, 2, 3, 4], false⟩, ⟨[], false, [37, 38, 39, 40, 41, 42, 43, 44, 45, 46, 48], [0, 1, 2, 3, 4, 5, 6, 7, 8, 9], false⟩, ⟨[], false, [37, 38, 39, 40, 41, 42, 43, 44, 45, 46, 47], [0, 1, 2, 3, 4, 5, 6, 7, 8, 9, 10], false⟩, ⟨[10, 11], false, [37, 38, 39, 40, 41, 42, 43, 44, 45, 46], [0, 1, 2, 3, 4, 5, 6, 7, 8, 9], false⟩, ⟨[10, 11, 12], false, [37, 38, 39, 40, 41, 42, 43, 44, 45, 46], [0, 1, 2, 3, 4, 5, 6, 7, 8, 9], false⟩, ⟨[0, 1, 5, 6, 7, 8, 9, 10, 11, 12, 13], false, [39, 40, 41], [2, 3, 4], false⟩, ⟨[0, 1, 5, 6, 7, 8, 9, 10, 11, 12, 13, 14], true, [39, 40, 41], [], false⟩, ⟨[0, 1, 2, 3, 4, 5, 6, 7, 8, 9, 10, 11, 12, 13, 14, 15], true, [], [], false⟩, ⟨[0, 1, 2, 3, 4, 5, 6, 7, 8, 9, 10, 11, 12, 13, 14, 15, 16], true, [], [], false⟩] (by decide) ?_
        simp (maxSteps := 2000000) -implicitDefEqProofs only [zz, zE, evop, ev, ofVal, tget, tput, ok, V.isUndef, intBin, guardOf, initT, Ch.on, calleeOf, withArgs, told, xport, xports, tids, tidss, hget, hput, Blk.ice, freeze, V.cells, D.cells, V.isAgg, V.one, V.clo, clos, V.toD, loadD, structAt, eqCells, D.scalarEq, sliceOf, partsD, partsV, bound, isPtr, Blk.width, elems, lenOf, splice, D.over, resOf, resV, resVs, ↓reduceIte, reduceCtorEq, ↓reduceDIte, Nat.reduceLT, Nat.reduceEqDiff, Nat.reduceAdd, Nat.reduceSub, Nat.reduceMul, Nat.reduceLeDiff, Nat.reduceBEq, Nat.reduceBNe, Int.reduceNeg, Int.reduceAdd, Int.reduceSub, Int.reduceToNat, nilTest, shiftH, Blk.ren, V.ren, renL, initV, frameH, putL, frρ, dI, dW, hw1, List.getElem?_map, hg1, hg0, hg2, Option.map_some, Int.natCast_nonneg, set_dW, hsw]
        refine ⟨by omega, by omega, by omega, by omega, k, ⟨by omega, fun i hi z hz => ?_⟩, by omega, Weak.trimsM 1 (by simp) rfl (by simp [tget, hw1, V.lower, lowerL]) (by simp [Blk.lower])⟩
        by_cases e : i = k
        · subst e; rw [hgy] at hz; cases hz; simpa [lt] using hlt'
        · exact hgt i (by omega) z hz
      · rename_i hlt'
        have e3 := e2 (k + 1) (insK_eq hk hgt (.inr ⟨y, by simpa using hgy, by simpa [lt] using hlt'⟩))
        rw [e3]
        exact Weak.trimsM 1 (by simp) rfl (by simp [tget, V.lower, lowerL]; rw [wrap_in (by omega)]; omega) (by simp [Blk.lower])
  · have h' : ¬ (((a + 1 + (b - (a + 1)) : Nat) : Int) < (b : Int)) := by omega
    have e1 : a + 1 + (b - (a + 1)) = b := by omega
    have h'' : ¬ ((b : Int) < (b : Int)) := by omega
    simp (maxSteps := 2000000) -implicitDefEqProofs only [zz, zE, evop, ev, ofVal, tget, tput, ok, V.isUndef, intBin, guardOf, initT, Ch.on, calleeOf, withArgs, told, xport, xports, tids, tidss, hget, hput, Blk.ice, freeze, V.cells, D.cells, V.isAgg, V.one, V.clo, clos, V.toD, loadD, structAt, eqCells, D.scalarEq, sliceOf, partsD, partsV, bound, isPtr, Blk.width, elems, lenOf, splice, D.over, resOf, resV, resVs, ↓reduceIte, reduceCtorEq, ↓reduceDIte, Nat.reduceLT, Nat.reduceEqDiff, Nat.reduceAdd, Nat.reduceSub, Nat.reduceMul, Nat.reduceLeDiff, Nat.reduceBEq, Nat.reduceBNe, Int.reduceNeg, Int.reduceAdd, Int.reduceSub, Int.reduceToNat, nilTest, shiftH, Blk.ren, V.ren, renL, initV, frameH, putL, frρ, dI, dW, h'', e1]
    refine Weak.sub (T := [(0, V.tuple [])]) (H := [.dat false 2 ((sortPart lt ws a b).map dW)]) ?_
    simp [tget]


theorem r_pdq_I (ns : List (Int × Int)) (lim : Int) (hl : ns.length ≤ 12) (f : Nat) (c : Int × Int → Int × Int → Int) (hc : ∀ x y, CSpec Try.prog f [dW x, dW y] (.int .i64 (c x y))) :
    RSpec Try.prog 55 [.own 0 0 ns.length, .d (.int .i64 0), .d (.int .i64 ns.length), .d (.int .i64 lim), .func (f, 0) []] [.dat false 2 (ns.map dW)] (.tuple []) [.dat false 2 ((isort (fun x y => decide (c x y < 0)) ns).map dW)] := by
  refine RSpec.of_awp envOf_ok hmix Try.func55 rfl (fun args w => Try.call55 args w) (by simp [Try.f55]) ?_
  simp only [Try.f55]
  simp (maxSteps := 2000000) -implicitDefEqProofs only [zz, zE, evop, ev, ofVal, tget, tput, ok, V.isUndef, intBin, guardOf, initT, Ch.on, calleeOf, withArgs, told, xport, xports, tids, tidss, hget, hput, Blk.ice, freeze, V.cells, D.cells, V.isAgg, V.one, V.clo, clos, V.toD, loadD, structAt, eqCells, D.scalarEq, sliceOf, partsD, partsV, bound, isPtr, Blk.width, elems, lenOf, splice, D.over, resOf, resV, resVs, ↓reduceIte, reduceCtorEq, ↓reduceDIte, Nat.reduceLT, Nat.reduceEqDiff, Nat.reduceAdd, Nat.reduceSub, Nat.reduceMul, Nat.reduceLeDiff, Nat.reduceBEq, Nat.reduceBNe, Int.reduceNeg, Int.reduceAdd, Int.reduceSub, Int.reduceToNat, nilTest, shiftH, Blk.ren, V.ren, renL, initV, frameH, putL, frρ, dI, dW]
  have hle : ((ns.length : Int) ≤ 12) := by omega
  have hw : IntKind.i64.wrap ((ns.length : Int) - 0) = (ns.length : Int) := by rw [wrap_in (by omega)]; omega
  have hS : sortPart (fun x y => decide (c x y < 0)) ns 0 ns.length = isort (fun x y => decide (c x y < 0)) ns := by simp [sortPart]
  have hR := r_insertion_I ns 0 ns.length (Nat.zero_le _) (Nat.le_refl _) (by omega) f c hc
  rw [hS] at hR
  refine wloop_ind (σ := Unit) (fun _ => 0) (fun _ => [(0, .own 0 0 ns.length), (1, .d (.int .i64 0)), (2, .d (.int .i64 ns.length)), (3, .d (.int .i64 lim)), (4, .func (f, 0) [])]) (fun _ => [.dat false 2 (ns.map dW)]) (fun _ => True) () trivial (Weak.sub (by simp [tget])) (fun _ _ => ?_)
  simp (maxSteps := 2000000) -implicitDefEqProofs only [zz, zE, evop, ev, ofVal, tget, tput, ok, V.isUndef, intBin, guardOf, initT, Ch.on, calleeOf, withArgs, told, xport, xports, tids, tidss, hget, hput, Blk.ice, freeze, V.cells, D.cells, V.isAgg, V.one, V.clo, clos, V.toD, loadD, structAt, eqCells, D.scalarEq, sliceOf, partsD, partsV, bound, isPtr, Blk.width, elems, lenOf, splice, D.over, resOf, resV, resVs, ↓reduceIte, reduceCtorEq, ↓reduceDIte, Nat.reduceLT, Nat.reduceEqDiff, Nat.reduceAdd, Nat.reduceSub, Nat.reduceMul, Nat.reduceLeDiff, Nat.reduceBEq, Nat.reduceBNe, Int.reduceNeg, Int.reduceAdd, Int.reduceSub, Int.reduceToNat, nilTest, shiftH, Blk.ren, V.ren, renL, initV, frameH, putL, frρ, dI, dW, hw, hle]
  refine acall_ref [0] (hR) (by first | rfl | simp [renL, V.ren, frρ, renL_ds]) (by simp) rfl (by simp) (by simp) (by intro j hj; match j, hj with | 0, _ => exact ⟨by simp [hget], rfl⟩) ?_
  try simp (maxSteps := 2000000) -implicitDefEqProofs only [zz, zE, evop, ev, ofVal, tget, tput, ok, V.isUndef, intBin, guardOf, initT, Ch.on, calleeOf, withArgs, told, xport, xports, tids, tidss, hget, hput, Blk.ice, freeze, V.cells, D.cells, V.isAgg, V.one, V.clo, clos, V.toD, loadD, structAt, eqCells, D.scalarEq, sliceOf, partsD, partsV, bound, isPtr, Blk.width, elems, lenOf, splice, D.over, resOf, resV, resVs, ↓reduceIte, reduceCtorEq, ↓reduceDIte, Nat.reduceLT, Nat.reduceEqDiff, Nat.reduceAdd, Nat.reduceSub, Nat.reduceMul, Nat.reduceLeDiff, Nat.reduceBEq, Nat.reduceBNe, Int.reduceNeg, Int.reduceAdd, Int.reduceSub, Int.reduceToNat, nilTest, shiftH, Blk.ren, V.ren, renL, initV, frameH, putL, frρ, dI, dW]
  exact Weak.sub (by simp [tget])

theorem r_SortFunc_I (ns : List (Int × Int)) (hl : ns.length ≤ 12) (f : Nat) (c : Int × Int → Int × Int → Int) (hc : ∀ x y, CSpec Try.prog f [dW x, dW y] (.int .i64 (c x y))) :
    RSpec Try.prog 52 [.own 0 0 ns.length, .func (f, 0) []] [.dat false 2 (ns.map dW)] (.tuple []) [.dat false 2 ((isort (fun x y => decide (c x y < 0)) ns).map dW)] := by
  refine RSpec.of_awp envOf_ok hmix Try.func52 rfl (fun args w => Try.call52 args w) (by simp [Try.f52]) ?_
  simp only [Try.f52]
  simp (maxSteps := 2000000) -implicitDefEqProofs only [zz, zE, evop, ev, ofVal, tget, tput, ok, V.isUndef, intBin, guardOf, initT, Ch.on, calleeOf, withArgs, told, xport, xports, tids, tidss, hget, hput, Blk.ice, freeze, V.cells, D.cells, V.isAgg, V.one, V.clo, clos, V.toD, loadD, structAt, eqCells, D.scalarEq, sliceOf, partsD, partsV, bound, isPtr, Blk.width, elems, lenOf, splice, D.over, resOf, resV, resVs, ↓reduceIte, reduceCtorEq, ↓reduceDIte, Nat.reduceLT, Nat.reduceEqDiff, Nat.reduceAdd, Nat.reduceSub, Nat.reduceMul, Nat.reduceLeDiff, Nat.reduceBEq, Nat.reduceBNe, Int.reduceNeg, Int.reduceAdd, Int.reduceSub, Int.reduceToNat, nilTest, shiftH, Blk.ren, V.ren, renL, initV, frameH, putL, frρ, dI, dW]
  have hwu : IntKind.u64.wrap (ns.length : Int) = (ns.length : Int) := by rw [IntKind.wrap_u64]; omega
  have hB : CSpec Try.prog 56 [.int .u64 (IntKind.u64.wrap (ns.length : Int))] (.int .i64 (Lib.bitLen ((ns.length : Int)).toNat)) := by rw [hwu]; exact c_bitsLen _ (by omega) (by omega)
  refine acall_flat' (hB) rfl ?_
  try simp (maxSteps := 2000000) -implicitDefEqProofs only [zz, zE, evop, ev, ofVal, tget, tput, ok, V.isUndef, intBin, guardOf, initT, Ch.on, calleeOf, withArgs, told, xport, xports, tids, tidss, hget, hput, Blk.ice, freeze, V.cells, D.cells, V.isAgg, V.one, V.clo, clos, V.toD, loadD, structAt, eqCells, D.scalarEq, sliceOf, partsD, partsV, bound, isPtr, Blk.width, elems, lenOf, splice, D.over, resOf, resV, resVs, ↓reduceIte, reduceCtorEq, ↓reduceDIte, Nat.reduceLT, Nat.reduceEqDiff, Nat.reduceAdd, Nat.reduceSub, Nat.reduceMul, Nat.reduceLeDiff, Nat.reduceBEq, Nat.reduceBNe, Int.reduceNeg, Int.reduceAdd, Int.reduceSub, Int.reduceToNat, nilTest, shiftH, Blk.ren, V.ren, renL, initV, frameH, putL, frρ, dI, dW]
  refine acall_ref [0] (r_pdq_I ns ((Lib.bitLen ns.length : Nat) : Int) hl f c hc) (by first | rfl | simp [renL, V.ren, frρ, renL_ds]) (by simp) rfl (by simp) (by simp) (by intro j hj; match j, hj with | 0, _ => exact ⟨by simp [hget], rfl⟩) ?_
  try simp (maxSteps := 2000000) -implicitDefEqProofs only [zz, zE, evop, ev, ofVal, tget, tput, ok, V.isUndef, intBin, guardOf, initT, Ch.on, calleeOf, withArgs, told, xport, xports, tids, tidss, hget, hput, Blk.ice, freeze, V.cells, D.cells, V.isAgg, V.one, V.clo, clos, V.toD, loadD, structAt, eqCells, D.scalarEq, sliceOf, partsD, partsV, bound, isPtr, Blk.width, elems, lenOf, splice, D.over, resOf, resV, resVs, ↓reduceIte, reduceCtorEq, ↓reduceDIte, Nat.reduceLT, Nat.reduceEqDiff, Nat.reduceAdd, Nat.reduceSub, Nat.reduceMul, Nat.reduceLeDiff, Nat.reduceBEq, Nat.reduceBNe, Int.reduceNeg, Int.reduceAdd, Int.reduceSub, Int.reduceToNat, nilTest, shiftH, Blk.ren, V.ren, renL, initV, frameH, putL, frρ, dI, dW]
  exact Weak.sub (by simp [tget])

def foundI (l : List (Int × Int)) (x : Int × Int) : Bool := match l[(l.filter fun y => ltI y x).length]? with
  | some y => decide (cmpT y x = 0)
  | none => false
theorem c_Bin_I (l : List (Int × Int)) (x : Int × Int) (hs : Srt l) (hl : l.length ≤ 1000000) :
    CSpec Try.prog 31 [.vec (l.map dW), dW x, .func (32, 0) []] (.tuple [.int .i64 (l.filter fun y => ltI y x).length, .bool (foundI l x)]) := by
  have hax := fun y => c_It_ahead y x
  unfold dW at hax
  have split : ∀ k, k ≤ l.length → (∀ i, i < k → ∀ y, l[i]? = some y → ltI y x = true) → (∀ i, k ≤ i → ∀ y, l[i]? = some y → ltI y x = false) → (l.filter fun y => ltI y x).length = k := fun k hk h1 h2 => by
    have := (srt_split hs x hk h1 h2).1
    rw [← this]; simp; omega
  refine CSpec.of_awp envOf_ok hmix Try.func31 rfl (fun args w => Try.call31 args w) (by simp [Try.f31]) ?_
  simp only [Try.f31]
  simp (maxSteps := 2000000) -implicitDefEqProofs only [zz, zE, evop, ev, ofVal, tget, tput, ok, V.isUndef, intBin, guardOf, initT, Ch.on, calleeOf, withArgs, told, xport, xports, tids, tidss, hget, hput, Blk.ice, freeze, V.cells, D.cells, V.isAgg, V.one, V.clo, clos, V.toD, loadD, structAt, eqCells, D.scalarEq, sliceOf, partsD, partsV, bound, isPtr, Blk.width, elems, lenOf, splice, D.over, resOf, resV, resVs, ↓reduceIte, reduceCtorEq, ↓reduceDIte, Nat.reduceLT, Nat.reduceEqDiff, Nat.reduceAdd, Nat.reduceSub, Nat.reduceMul, Nat.reduceLeDiff, Nat.reduceBEq, Nat.reduceBNe, Int.reduceNeg, Int.reduceAdd, Int.reduceSub, Int.reduceToNat, nilTest, shiftH, Blk.ren, V.ren, renL, initV, frameH, putL, frρ, dI, dW]
  refine wloop_ind (σ := Nat × Nat) (fun z => z.2 - z.1) (fun z => [(9, .d (.int .i64 z.1)), (10, .d (.int .i64 z.2)), (8, .d (.int .i64 l.length)), (0, .d (.vec (l.map dW))), (2, .d (.func (32, 0) [])), (4, .ptr 0 0 0)]) (fun _ => [.box false [.d (.int .i64 x.1), .d (.int .i64 x.2)]]) (fun z => z.1 ≤ z.2 ∧ z.2 ≤ l.length ∧ (∀ i, i < z.1 → ∀ y, l[i]? = some y → ltI y x = true) ∧ (∀ i, z.2 ≤ i → ∀ y, l[i]? = some y → ltI y x = false)) (0, l.length)
    ⟨Nat.zero_le _, Nat.le_refl _, fun i hi => by omega, fun i hi y hy => by have := (List.getElem?_eq_some_iff.1 hy).1; omega⟩ (Weak.trims 1 rfl (by simp [tget, V.lower]) (by simp [Blk.lower, lowerL, V.lower])) ?_
  rintro ⟨i, j⟩ ⟨h1, h2, h3, h4⟩
  simp only at h1 h2 h3 h4
  rcases Nat.lt_or_ge i j with hij | hij
  · have h' : ((i : Int) < (j : Int)) := by omega
    have hm : (i + j) / 2 < j ∧ i ≤ (i + j) / 2 := by omega
    have hwa : IntKind.i64.wrap ((i : Int) + (j : Int)) = ((i + j : Nat) : Int) := by rw [wrap_in (by omega)]; omega
    have hwb : IntKind.u64.wrap ((i + j : Nat) : Int) = ((i + j : Nat) : Int) := by rw [IntKind.wrap_u64]; omega
    have hdv : (((i + j : Nat) : Int) / 2 ^ 1) = (((i + j) / 2 : Nat) : Int) := by rw [show (2 : Int) ^ 1 = 2 from rfl]; omega
    have hwc : IntKind.i64.wrap ((((i + j) / 2 : Nat) : Int)) = (((i + j) / 2 : Nat) : Int) := by rw [wrap_in (by omega)]
    have hwd : IntKind.i64.wrap ((((i + j) / 2 : Nat) : Int) + 1) = (((i + j) / 2 + 1 : Nat) : Int) := by rw [wrap_in (by omega)]; omega
    obtain ⟨y, hx⟩ : ∃ y, l[(i + j) / 2]? = some y := ⟨_, List.getElem?_eq_getElem (by omega)⟩
    generalize hmid : (i + j) / 2 = m at hm hdv hwc hwd hx
    simp (maxSteps := 2000000) -implicitDefEqProofs only [zz, zE, evop, ev, ofVal, tget, tput, ok, V.isUndef, intBin, guardOf, initT, Ch.on, calleeOf, withArgs, told, xport, xports, tids, tidss, hget, hput, Blk.ice, freeze, V.cells, D.cells, V.isAgg, V.one, V.clo, clos, V.toD, loadD, structAt, eqCells, D.scalarEq, sliceOf, partsD, partsV, bound, isPtr, Blk.width, elems, lenOf, splice, D.over, resOf, resV, resVs, ↓reduceIte, reduceCtorEq, ↓reduceDIte, Nat.reduceLT, Nat.reduceEqDiff, Nat.reduceAdd, Nat.reduceSub, Nat.reduceMul, Nat.reduceLeDiff, Nat.reduceBEq, Nat.reduceBNe, Int.reduceNeg, Int.reduceAdd, Int.reduceSub, Int.reduceToNat, nilTest, shiftH, Blk.ren, V.ren, renL, initV, frameH, putL, frρ, dI, dW, h', hwa, hwb, hdv, hwc]
    refine ⟨by decide, ?_⟩
    refine wdraw_plan [⟨[], false, [25, 26, 27, 28, 29], [], false⟩, ⟨[], false, [24, 26, 29], [0], false⟩, ⟨[], false, [24, 25, 29], [0, 1], false⟩, ⟨[1, 2], false, [24, 29], [0], false⟩, ⟨[1, 2, 3], false, [24, 29], [0], false⟩, ⟨[], false, [24, 25, 26, 27, 28], [0, 1, 2, 3, 4], false⟩, ⟨[0, 1, 2, 3, 4, 5], true, [], [], false⟩, ⟨[0, 1, 2, 3, 4, 5, 6], true, [], [], false⟩] (by decide) ?_
    simp (maxSteps := 2000000) -implicitDefEqProofs only [zz, zE, evop, ev, ofVal, tget, tput, ok, V.isUndef, intBin, guardOf, initT, Ch.on, calleeOf, withArgs, told, xport, xports, tids, tidss, hget, hput, Blk.ice, freeze, V.cells, D.cells, V.isAgg, V.one, V.clo, clos, V.toD, loadD, structAt, eqCells, D.scalarEq, sliceOf, partsD, partsV, bound, isPtr, Blk.width, elems, lenOf, splice, D.over, resOf, resV, resVs, ↓reduceIte, reduceCtorEq, ↓reduceDIte, Nat.reduceLT, Nat.reduceEqDiff, Nat.reduceAdd, Nat.reduceSub, Nat.reduceMul, Nat.reduceLeDiff, Nat.reduceBEq, Nat.reduceBNe, Int.reduceNeg, Int.reduceAdd, Int.reduceSub, Int.reduceToNat, nilTest, shiftH, Blk.ren, V.ren, renL, initV, frameH, putL, frρ, dI, dW, List.getElem?_map, hx, Option.map_some, Int.natCast_nonneg]
    first | refine acall_flat' (hax y) rfl ?_ | refine dcall_flat' (hax y) rfl ?_ | refine acall_ice' (hax y) ?_ | refine dcall_still' (hax y) rfl ?_
    try simp (maxSteps := 2000000) -implicitDefEqProofs only [zz, zE, evop, ev, ofVal, tget, tput, ok, V.isUndef, intBin, guardOf, initT, Ch.on, calleeOf, withArgs, told, xport, xports, tids, tidss, hget, hput, Blk.ice, freeze, V.cells, D.cells, V.isAgg, V.one, V.clo, clos, V.toD, loadD, structAt, eqCells, D.scalarEq, sliceOf, partsD, partsV, bound, isPtr, Blk.width, elems, lenOf, splice, D.over, resOf, resV, resVs, ↓reduceIte, reduceCtorEq, ↓reduceDIte, Nat.reduceLT, Nat.reduceEqDiff, Nat.reduceAdd, Nat.reduceSub, Nat.reduceMul, Nat.reduceLeDiff, Nat.reduceBEq, Nat.reduceBNe, Int.reduceNeg, Int.reduceAdd, Int.reduceSub, Int.reduceToNat, nilTest, shiftH, Blk.ren, V.ren, renL, initV, frameH, putL, frρ, dI, dW]
    have hlt := cmpT_neg y x
    have hml : m < l.length := by omega
    have hym : l[m] = y := by rw [List.getElem?_eq_getElem hml] at hx; exact Option.some.inj hx
    by_cases hc : cmpT y x < 0
    · rw [decide_eq_true hc] at hlt
      simp (maxSteps := 2000000) -implicitDefEqProofs only [zz, zE, evop, ev, ofVal, tget, tput, ok, V.isUndef, intBin, guardOf, initT, Ch.on, calleeOf, withArgs, told, xport, xports, tids, tidss, hget, hput, Blk.ice, freeze, V.cells, D.cells, V.isAgg, V.one, V.clo, clos, V.toD, loadD, structAt, eqCells, D.scalarEq, sliceOf, partsD, partsV, bound, isPtr, Blk.width, elems, lenOf, splice, D.over, resOf, resV, resVs, ↓reduceIte, reduceCtorEq, ↓reduceDIte, Nat.reduceLT, Nat.reduceEqDiff, Nat.reduceAdd, Nat.reduceSub, Nat.reduceMul, Nat.reduceLeDiff, Nat.reduceBEq, Nat.reduceBNe, Int.reduceNeg, Int.reduceAdd, Int.reduceSub, Int.reduceToNat, nilTest, shiftH, Blk.ren, V.ren, renL, initV, frameH, putL, frρ, dI, dW, hc, hwd]
      refine ⟨(m + 1, j), ⟨by omega, h2, fun k hk z hz => ?_, h4⟩, by simp only; omega, Weak.trims 1 rfl (by simp [tget, V.lower, hwd]) (by simp [Blk.lower, lowerL, V.lower])⟩
      rcases Nat.lt_or_ge k m with g | g
      · have := List.pairwise_iff_getElem.1 hs k m (by omega) (by omega) g
        rw [hym] at this
        rw [List.getElem?_eq_getElem (by omega)] at hz
        cases hz
        exact ltI_trans this hlt.symm
      · have : k = m := by simp only at hk; omega
        subst this
        rw [hx] at hz; cases hz; exact hlt.symm
    · rw [decide_eq_false hc] at hlt
      simp (maxSteps := 2000000) -implicitDefEqProofs only [zz, zE, evop, ev, ofVal, tget, tput, ok, V.isUndef, intBin, guardOf, initT, Ch.on, calleeOf, withArgs, told, xport, xports, tids, tidss, hget, hput, Blk.ice, freeze, V.cells, D.cells, V.isAgg, V.one, V.clo, clos, V.toD, loadD, structAt, eqCells, D.scalarEq, sliceOf, partsD, partsV, bound, isPtr, Blk.width, elems, lenOf, splice, D.over, resOf, resV, resVs, ↓reduceIte, reduceCtorEq, ↓reduceDIte, Nat.reduceLT, Nat.reduceEqDiff, Nat.reduceAdd, Nat.reduceSub, Nat.reduceMul, Nat.reduceLeDiff, Nat.reduceBEq, Nat.reduceBNe, Int.reduceNeg, Int.reduceAdd, Int.reduceSub, Int.reduceToNat, nilTest, shiftH, Blk.ren, V.ren, renL, initV, frameH, putL, frρ, dI, dW, hc]
      refine ⟨(i, m), ⟨by omega, by omega, h3, fun k hk z hz => ?_⟩, by simp only; omega, Weak.trims 1 rfl (by simp [tget, V.lower]) (by simp [Blk.lower, lowerL, V.lower])⟩
      simp only at hk
      rcases Nat.lt_or_ge m k with g | g
      · have hkl := (List.getElem?_eq_some_iff.1 hz).1
        have := List.pairwise_iff_getElem.1 hs m k (by omega) hkl g
        rw [hym] at this
        rw [List.getElem?_eq_getElem hkl] at hz
        cases hz
        cases e : ltI l[k] x with
        | false => rfl
        | true => have := ltI_trans this e; rw [← hlt] at this; cases this
      · have : k = m := by omega
        subst this
        rw [hx] at hz; cases hz; exact hlt.symm
  · have h' : ¬ ((i : Int) < (j : Int)) := by omega
    have hij' : i = j := by omega
    subst hij'
    have hk := split i h2 h3 h4
    have hfd : foundI l x = match l[i]? with
      | some y => decide (cmpT y x = 0)
      | none => false := by unfold foundI; rw [hk]
    rw [hk, hfd]
    rcases Nat.lt_or_ge i l.length with g | g
    · have g' : ((i : Int) < (l.length : Int)) := by omega
      have hx : l[i]? = some l[i] := List.getElem?_eq_getElem g
      generalize l[i] = y at hx
      rw [hx]
      simp (maxSteps := 2000000) -implicitDefEqProofs only [zz, zE, evop, ev, ofVal, tget, tput, ok, V.isUndef, intBin, guardOf, initT, Ch.on, calleeOf, withArgs, told, xport, xports, tids, tidss, hget, hput, Blk.ice, freeze, V.cells, D.cells, V.isAgg, V.one, V.clo, clos, V.toD, loadD, structAt, eqCells, D.scalarEq, sliceOf, partsD, partsV, bound, isPtr, Blk.width, elems, lenOf, splice, D.over, resOf, resV, resVs, ↓reduceIte, reduceCtorEq, ↓reduceDIte, Nat.reduceLT, Nat.reduceEqDiff, Nat.reduceAdd, Nat.reduceSub, Nat.reduceMul, Nat.reduceLeDiff, Nat.reduceBEq, Nat.reduceBNe, Int.reduceNeg, Int.reduceAdd, Int.reduceSub, Int.reduceToNat, nilTest, shiftH, Blk.ren, V.ren, renL, initV, frameH, putL, frρ, dI, dW, h']
      refine wdraw_plan [⟨[], false, [36, 37, 38, 39, 40, 41, 42, 43, 44, 45, 46, 47, 48], [], false⟩, ⟨[], false, [35, 37], [0], false⟩, ⟨[], false, [35, 36], [0, 1], false⟩, ⟨[1, 2], false, [35], [0], false⟩, ⟨[1, 2, 3], false, [35], [0], false⟩, ⟨[1, 2, 3, 4], false, [35, 41, 42, 43, 44, 45], [0], false⟩, ⟨[1, 2, 3, 4], false, [35, 40, 42, 45], [0, 5], false⟩, ⟨[1, 2, 3, 4], false, [35, 40, 41, 45], [0, 5, 6], false⟩, ⟨[1, 2, 3, 4, 6, 7], false, [35, 40, 45], [0, 5], false⟩, ⟨[1, 2, 3, 4, 6, 7, 8], false, [35, 40, 45], [0, 5], false⟩, ⟨[1, 2, 3, 4], false, [35, 40, 41, 42, 43, 44], [0, 5, 6, 7, 8, 9], false⟩, ⟨[1, 2, 3, 4, 5, 6, 7, 8, 9, 10], false, [35], [0], false⟩, ⟨[1, 2, 3, 4, 5, 6, 7, 8, 9, 10, 11], false, [6, 35], [0], false⟩, ⟨[1, 2, 3, 4, 5, 6, 7, 8, 9, 10, 11, 12], false, [6, 35], [0], false⟩, ⟨[0, 1, 2, 3, 4, 5, 6, 7, 8, 9, 10, 11], false, [47, 48], [12, 13], false⟩, ⟨[0, 1, 2, 3, 4, 5, 6, 7, 8, 9, 10, 11, 12, 13, 14], true, [], [], false⟩] (by decide) ?_
      simp (maxSteps := 2000000) -implicitDefEqProofs only [zz, zE, evop, ev, ofVal, tget, tput, ok, V.isUndef, intBin, guardOf, initT, Ch.on, calleeOf, withArgs, told, xport, xports, tids, tidss, hget, hput, Blk.ice, freeze, V.cells, D.cells, V.isAgg, V.one, V.clo, clos, V.toD, loadD, structAt, eqCells, D.scalarEq, sliceOf, partsD, partsV, bound, isPtr, Blk.width, elems, lenOf, splice, D.over, resOf, resV, resVs, ↓reduceIte, reduceCtorEq, ↓reduceDIte, Nat.reduceLT, Nat.reduceEqDiff, Nat.reduceAdd, Nat.reduceSub, Nat.reduceMul, Nat.reduceLeDiff, Nat.reduceBEq, Nat.reduceBNe, Int.reduceNeg, Int.reduceAdd, Int.reduceSub, Int.reduceToNat, nilTest, shiftH, Blk.ren, V.ren, renL, initV, frameH, putL, frρ, dI, dW, g', List.getElem?_map, hx, Option.map_some, Int.natCast_nonneg]
      first | refine acall_flat' (hax y) rfl ?_ | refine dcall_flat' (hax y) rfl ?_ | refine acall_ice' (hax y) ?_ | refine dcall_still' (hax y) rfl ?_
      try simp (maxSteps := 2000000) -implicitDefEqProofs only [zz, zE, evop, ev, ofVal, tget, tput, ok, V.isUndef, intBin, guardOf, initT, Ch.on, calleeOf, withArgs, told, xport, xports, tids, tidss, hget, hput, Blk.ice, freeze, V.cells, D.cells, V.isAgg, V.one, V.clo, clos, V.toD, loadD, structAt, eqCells, D.scalarEq, sliceOf, partsD, partsV, bound, isPtr, Blk.width, elems, lenOf, splice, D.over, resOf, resV, resVs, ↓reduceIte, reduceCtorEq, ↓reduceDIte, Nat.reduceLT, Nat.reduceEqDiff, Nat.reduceAdd, Nat.reduceSub, Nat.reduceMul, Nat.reduceLeDiff, Nat.reduceBEq, Nat.reduceBNe, Int.reduceNeg, Int.reduceAdd, Int.reduceSub, Int.reduceToNat, nilTest, shiftH, Blk.ren, V.ren, renL, initV, frameH, putL, frρ, dI, dW]
      by_cases e : cmpT y x = 0
      · simp [e]
      · simp [e]
    · have g' : ¬ ((i : Int) < (l.length : Int)) := by omega
      have hx : l[i]? = none := List.getElem?_eq_none g
      rw [hx]
      simp (maxSteps := 2000000) -implicitDefEqProofs only [zz, zE, evop, ev, ofVal, tget, tput, ok, V.isUndef, intBin, guardOf, initT, Ch.on, calleeOf, withArgs, told, xport, xports, tids, tidss, hget, hput, Blk.ice, freeze, V.cells, D.cells, V.isAgg, V.one, V.clo, clos, V.toD, loadD, structAt, eqCells, D.scalarEq, sliceOf, partsD, partsV, bound, isPtr, Blk.width, elems, lenOf, splice, D.over, resOf, resV, resVs, ↓reduceIte, reduceCtorEq, ↓reduceDIte, Nat.reduceLT, Nat.reduceEqDiff, Nat.reduceAdd, Nat.reduceSub, Nat.reduceMul, Nat.reduceLeDiff, Nat.reduceBEq, Nat.reduceBNe, Int.reduceNeg, Int.reduceAdd, Int.reduceSub, Int.reduceToNat, nilTest, shiftH, Blk.ren, V.ren, renL, initV, frameH, putL, frρ, dI, dW, h']
      refine wdraw_plan [⟨[], false, [36, 37, 38, 39, 40, 41, 42, 43, 44, 45, 46, 47, 48], [], false⟩, ⟨[], false, [35, 37], [0], false⟩, ⟨[], false, [35, 36], [0, 1], false⟩, ⟨[1, 2], false, [35], [0], false⟩, ⟨[1, 2, 3], false, [35], [0], false⟩, ⟨[1, 2, 3, 4], false, [35, 41, 42, 43, 44, 45], [0], false⟩, ⟨[1, 2, 3, 4], false, [35, 40, 42, 45], [0, 5], false⟩, ⟨[1, 2, 3, 4], false, [35, 40, 41, 45], [0, 5, 6], false⟩, ⟨[1, 2, 3, 4, 6, 7], false, [35, 40, 45], [0, 5], false⟩, ⟨[1, 2, 3, 4, 6, 7, 8], false, [35, 40, 45], [0, 5], false⟩, ⟨[1, 2, 3, 4], false, [35, 40, 41, 42, 43, 44], [0, 5, 6, 7, 8, 9], false⟩, ⟨[1, 2, 3, 4, 5, 6, 7, 8, 9, 10], false, [35], [0], false⟩, ⟨[1, 2, 3, 4, 5, 6, 7, 8, 9, 10, 11], false, [6, 35], [0], false⟩, ⟨[1, 2, 3, 4, 5, 6, 7, 8, 9, 10, 11, 12], false, [6, 35], [0], false⟩, ⟨[0, 1, 2, 3, 4, 5, 6, 7, 8, 9, 10, 11], false, [47, 48], [12, 13], false⟩, ⟨[0, 1, 2, 3, 4, 5, 6, 7, 8, 9, 10, 11, 12, 13, 14], true, [], [], false⟩] (by decide) ?_
      simp (maxSteps := 2000000) -implicitDefEqProofs only [zz, zE, evop, ev, ofVal, tget, tput, ok, V.isUndef, intBin, guardOf, initT, Ch.on, calleeOf, withArgs, told, xport, xports, tids, tidss, hget, hput, Blk.ice, freeze, V.cells, D.cells, V.isAgg, V.one, V.clo, clos, V.toD, loadD, structAt, eqCells, D.scalarEq, sliceOf, partsD, partsV, bound, isPtr, Blk.width, elems, lenOf, splice, D.over, resOf, resV, resVs, ↓reduceIte, reduceCtorEq, ↓reduceDIte, Nat.reduceLT, Nat.reduceEqDiff, Nat.reduceAdd, Nat.reduceSub, Nat.reduceMul, Nat.reduceLeDiff, Nat.reduceBEq, Nat.reduceBNe, Int.reduceNeg, Int.reduceAdd, Int.reduceSub, Int.reduceToNat, nilTest, shiftH, Blk.ren, V.ren, renL, initV, frameH, putL, frρ, dI, dW, g']
end Go.Proofs.Ytaejlmengfahnaa.AM

set_option linter.all false
namespace Go.Proofs.Ytaejlmengfahnaa.AM
open Go Go.RowKit

def XSpec (P : Program) (f : Nat) (vs : List V) (H : Heap) (r : D) : Prop :=
  ∀ (C : Ctx) (φ : Nat → Option Loc) (S : Nat → Prop) (w : World) (cs : List Value), HRel C φ S H w → RVs φ S H w vs cs → ∃ c, (callFunc f cs.toArray).run P w = .ok (.value c) w ∧ RD S w r c

section
variable {P : Program} {E : Env} {C : Ctx} {n m : Nat}

theorem Snd.cut_x (hE : EOk P E) (j : Nat) {id : Nat} {ops : Array Oper} {T : Tmps} {H : Heap} {Q : Ex → Tmps → Heap → Prop} (o : Oper) (f : Nat) (args : Array Operand) (tys : Array TypeId) (r : D) (rest : List Oper) (ho' : ops.toList.drop j = o :: rest) (hg : o.guard = none)
    (hop : o.op = .call { callee := .value (.func f), args := args, argTypes := tys })
    (h : aops P E n ops.toList (ops.toList.take j) T H fun T1 H1 => XSpec P f (args.toList.map (ev T1)) H1 r ∧ ∃ T2 H2, Weak m (tput n T1 o.dst (.d r)) H1 T2 H2 ∧ aops P E n ops.toList rest T2 H2 (Q .normal)) : Snd P E n m (.region id ops false) T H Q := fun C φ S a w hst => by
  have ho : ops[j]? = some o := by
    have : (ops.toList.drop j)[0]? = some o := by rw [ho']; rfl
    rw [List.getElem?_drop] at this; simpa using this
  have hrest : rest = ops.toList.drop (j + 1) := by
    have : (ops.toList.drop j).drop 1 = rest := by rw [ho']; rfl
    rw [List.drop_drop] at this; exact this.symm
  subst hrest
  have hj : j < ops.size := (Array.getElem?_eq_some_iff.1 ho).1
  refine wp_region ?_
  have key := aops_soundL (m := m) hE (all := ops) (Q' := PostQ C n m φ S H w Q) (L := (List.range (ops.size - j)).map (j + ·)) (ops.toList.take j) 0 (fun i hi => by
    have hi' : i < j := by simp at hi; omega
    rw [List.getElem?_take, if_pos hi', Nat.zero_add]) hst h ?_
  · have hl : (ops.toList.take j).length = j := by simp; omega
    rw [hl, ← range_cut j ops.size (by omega)] at key
    simpa using key
  · rintro a' w' ⟨T1, H1, φ1, S1, ⟨hx, T2, H2, hw, h2⟩, hst1, hs1, hk1⟩
    have hL : (List.range (ops.size - j)).map (j + ·) = j :: (List.range (ops.size - (j + 1))).map (j + 1 + ·) := by
      rw [show ops.size - j = (ops.size - (j + 1)) + 1 by omega, List.range_succ_eq_map]
      simp only [List.map_cons, List.map_map, Nat.add_zero]
      congr 1
      apply List.map_congr_left
      intro i _
      simp; omega
    rw [hL]
    simp only [wpOps, ho]
    have hwn : Region.wanted o (yielded ops a'.tmps) = true := by simp [Region.wanted, hg]
    rw [if_pos hwn]
    obtain ⟨c, hrun, hr⟩ := hx C φ1 S1 w' (args.toList.map a'.eval) hst1.heap (evs_rel hst1.tmps args.toList)
    have e1 : a'.eval (.func f) = .func (.func f) #[] #[] := rfl
    have hrun' : (execOp a'.eval o).run P w' = .ok (.value c) w' := by
      have harr : args.map a'.eval = (args.toList.map a'.eval).toArray := by apply Array.ext'; simp
      rw [← harr] at hrun
      simp [execOp, hop, resolve, e1, Deferred.ofValue, invoke, hrun]
    refine .inl ?_
    unfold Oper.wp
    rw [hrun']
    have hst2 : Stands C n (tput n T1 o.dst (.d r)) H1 φ1 S1 (a'.put o.dst c) w' := hst1.put hst1.heap .refl (RV.d _ _ hr)
    obtain ⟨φ2, S2, g1, g2, g3⟩ := hw C φ1 S1 w' (a'.put o.dst c) hst2.heap hst2.tmps
    have := aops_sound (m := m) hE (all := ops) (Q := Q .normal) (Q' := PostQ C n m φ S H w Q) (ops.toList.drop (j + 1)) (j + 1) (fun i => by rw [List.getElem?_drop]) (by simp; omega) ⟨g1, g2, hst2.size, hst2.defers⟩ h2
      (fun a'' w'' ⟨T', H', φ', S', p1, p2, p3, p4⟩ => ⟨.normal, T', H', φ', S', p1, rfl, p2, hs1.trans (g3.trans p3), hk1.trans p4⟩)
    have hl : (ops.toList.drop (j + 1)).length = ops.size - (j + 1) := by simp
    rw [hl] at this
    exact this

theorem XSpec.apart {f : Nat} {id id' off off' len len' k sz sz' : Nat} {H : Heap} {els els' : List D} {fn : Func} {tS tR e : TypeId} {ti : TI} (hf : P.funcs[f]? = some fn) (hname : (fn.name == "runtime.NumGoroutine") = false)
    (hb : fn.body.isNone = true) (hn : Extern.findNext fn = none) (he : Extern.find fn = some (Extern.SlicesOverlaps.overlaps #[tS, tS] #[tR])) (ht : P.underlying tS = some (.slice e)) (hi : TOk P e ti) (hisz : ti.size = sz') (hs0 : 0 < sz')
    (hid : id ≠ id') (hg : hget H id = .dat false sz els) (hg' : hget H id' = .dat false sz' els') (hl' : 0 < els'.length) :
    XSpec P f [.own id off len, .full id' off' len' k] H (.bool false) := fun C φ S w cs hH hv => by
  match cs, hv.len with
  | [c, c'], _ =>
    have h0 := hv.at_ 0 _ c rfl rfl
    have h1 := hv.at_ 1 _ c' rfl rfl
    refine ⟨.bool false, ?_, .bool false⟩
    rw [run_callFunc_extern hf hname hb hn he]
    suffices hs : (Extern.SlicesOverlaps.overlaps #[tS, tS] #[tR] #[c, c']).run P w = .ok (.bool false) w by
      show ((Extern.SlicesOverlaps.overlaps #[tS, tS] #[tR] #[c, c']).run P w).andThen _ = _
      rw [hs]; rfl
    obtain ⟨i, z, d, y1, y2, _⟩ := hi.facts
    have hz : ∀ w, (Go.sizeOf e).run P w = .ok sz' w := fun w => by rw [run_sizeOf' y1, y2, hisz]
    cases h0 with | own _ _ _ l cap A hu hh =>
    cases h1 with | full _ _ _ _ A' hu' hh' =>
      obtain ⟨r1, r2, r3, r4⟩ := hh false sz els hg
      obtain ⟨p1, p2, p3⟩ := hh' false sz' els' hg'
      have quick : (l = 0 ∨ len' = 0) → (Extern.SlicesOverlaps.overlaps #[tS, tS] #[tR] #[.slice A l cap, .slice A' len' k]).run P w = .ok (.bool false) w := fun h => by
        change Sem.run P (α := Value) (do
          let some t := (#[tS, tS] : Array TypeId)[0]? | stuck "slices.overlaps: no parameter types"
          let .slice elem ← underlying t | stuck "slices.overlaps: slice type expected"
          let size ← sizeOf elem
          match (A : Option Addr), (A' : Option Addr) with
          | some a, some b =>
            if l = 0 ∨ len' = 0 ∨ size = 0 then pure (Value.bool false)
            else if a.block != b.block && (← frozen a) && (← frozen b) then unsupported .addressObserved
            else do
              if a.block != b.block then do
                noView a; noView b
                if ← mayBeOne a b then return Value.bool ((← choose (.extern "sameAddr.stringBytes" 2)) == 1)
              pure (Value.bool (a.block == b.block && a.off < b.off + len' * size && b.off < a.off + l * size))
          | _, _ => pure (Value.bool false)) w = _
        have h' : l = 0 ∨ len' = 0 ∨ sz' = 0 := by rcases h with h | h; exact .inl h; exact .inr (.inl h)
        cases A <;> cases A' <;> simp [run_underlying ht, hz, h']
      rcases r4 with r4 | ⟨L, hL, rfl, r4⟩
      · exact quick (.inl (by omega))
      · rcases p3 with p3 | ⟨L', hL', rfl, p4⟩
        · exact quick (.inr (by omega))
        · by_cases h0 : l = 0
          · exact quick (.inl h0)
          have hbr := hH.blk id
          rw [hg] at hbr
          have hbr' := hH.blk id'
          rw [hg'] at hbr'
          rcases hbr with ⟨hn, hnone⟩ | ⟨L1, cs1, t1, s1, s2, s3, s4, s5, s6⟩
          · rw [hL] at hnone; cases hnone
          rcases hbr' with ⟨hn', hnone'⟩ | ⟨L2, cs2, t2, q1, q2, q3, q4, q5, q6⟩
          · rw [hL'] at hnone'; cases hnone'
          rw [hL] at s1; cases s1
          rw [hL'] at q1; cases q1
          have hne : L.blk ≠ L'.blk := fun e => hid (hH.inj id id' L L' hL hL' e)
          have hk : cs2.size ≠ 0 := by
            have : 1 * sz' ≤ els'.length * sz' := Nat.mul_le_mul_right _ hl'
            omega
          exact Lib.run_overlaps_apart w tS tR e ht sz' hz ⟨L.blk, L.off + off * sz, none⟩ ⟨L'.blk, L'.off + off' * sz', none⟩ l cap len' k hne t1 t2 cs1.size cs2.size
            (by simp [World.shape?, s2.heap]) (by simp [World.shape?, q2.heap]) hk (by simp [World.frozen?, s2.heap]) (by simp [World.frozen?, s2.heap])
end
end Go.Proofs.Ytaejlmengfahnaa.AM

set_option linter.all false
set_option maxRecDepth 100000
set_option maxHeartbeats 8000000
namespace Go.Proofs.Ytaejlmengfahnaa.AM
open Go Go.RowKit

theorem splice_mid {α : Type} {P M R X : List α} (h : M.length = X.length) : splice (P ++ (M ++ R)) P.length X = P ++ (X ++ R) := by
  unfold splice
  rw [List.take_left', List.append_assoc, ← h]
  · congr 2
    rw [← List.append_assoc, ← List.length_append, List.drop_left']
    rfl
  · rfl
theorem ins_grow {l : List (Int × Int)} {x : Int × Int} {i : Nat} (hi : i ≤ l.length) {z : D} :
    splice (splice (((l.map dW).take i) ++ List.replicate (l.length + 1 - i) z) i [dW x]) (i + 1) ((l.map dW).drop i) = (l.take i ++ x :: l.drop i).map dW := by
  have hl1 : ((l.map dW).take i).length = i := by simp; omega
  have e1 : List.replicate (l.length + 1 - i) z = [z] ++ List.replicate (l.length - i) z := by
    rw [show l.length + 1 - i = (l.length - i) + 1 by omega, List.replicate_succ]; rfl
  have s1 := splice_mid (P := (l.map dW).take i) (M := [z]) (R := List.replicate (l.length - i) z) (X := [dW x]) rfl
  rw [hl1] at s1
  rw [e1, s1]
  have s2 := splice_mid (P := (l.map dW).take i ++ [dW x]) (M := List.replicate (l.length - i) z) (R := []) (X := (l.map dW).drop i) (by simp)
  rw [List.length_append, hl1, List.append_nil, List.append_nil, List.append_assoc] at s2
  rw [show [dW x].length = 1 from rfl] at s2
  rw [s2]
  simp
theorem ins_room {l : List (Int × Int)} {x : Int × Int} {i k : Nat} (hi : i < l.length) (hk : l.length < k) {z : D} :
    (splice (splice ((l.map dW) ++ List.replicate (k - l.length) z) (i + 1) ((l.map dW).drop i)) i [dW x]).take (l.length + 1) = (l.take i ++ x :: l.drop i).map dW := by
  have hl1 : ((l.map dW).take i).length = i := by simp; omega
  obtain ⟨d, hd⟩ : ∃ d, (l.map dW).drop i = d :: (l.map dW).drop (i + 1) := ⟨_, List.drop_eq_getElem_cons (by simpa using hi)⟩
  have e0 : l.map dW = (l.map dW).take i ++ (l.map dW).drop i := (List.take_append_drop ..).symm
  have e1 : List.replicate (k - l.length) z = [z] ++ List.replicate (k - l.length - 1) z := by
    rw [show k - l.length = (k - l.length - 1) + 1 by omega, List.replicate_succ]; rfl
  have s1 := splice_mid (P := (l.map dW).take i ++ [d]) (M := (l.map dW).drop (i + 1) ++ [z]) (R := List.replicate (k - l.length - 1) z) (X := (l.map dW).drop i) (by simp; omega)
  rw [List.length_append, hl1, show [d].length = 1 from rfl] at s1
  have e2 : (l.map dW) ++ List.replicate (k - l.length) z = (l.map dW).take i ++ [d] ++ ((l.map dW).drop (i + 1) ++ [z] ++ List.replicate (k - l.length - 1) z) := by
    conv => lhs; rw [e0, hd, e1]
    simp
  rw [e2, s1]
  have s2 := splice_mid (P := (l.map dW).take i) (M := [d]) (R := (l.map dW).drop i ++ List.replicate (k - l.length - 1) z) (X := [dW x]) rfl
  rw [hl1] at s2
  rw [List.append_assoc, s2]
  have hl3 : ((l.map dW).take i ++ ([dW x] ++ (l.map dW).drop i)).length = l.length + 1 := by simp; omega
  rw [show (l.map dW).take i ++ ([dW x] ++ ((l.map dW).drop i ++ List.replicate (k - l.length - 1) z)) = ((l.map dW).take i ++ ([dW x] ++ (l.map dW).drop i)) ++ List.replicate (k - l.length - 1) z by simp]
  rw [List.take_append_of_le_length (by omega), List.take_of_length_le (by omega)]
  simp

theorem x_overlaps {H : Heap} {off off' len len' k : Nat} {els els' : List D} (hg : hget H 1 = .dat false 2 els) (hg' : hget H 0 = .dat false 2 els') (hl : 0 < els'.length) : XSpec Try.prog 49 [.own 1 off len, .full 0 off' len' k] H (.bool false) :=
  XSpec.apart (tS := 22) (tR := 4) (e := 53) Try.func49 (by kernel_rfl) (by kernel_rfl) (by kernel_rfl) (by kernel_rfl) (by kernel_rfl) (envOf_ok _ _ E53) rfl (by decide) (by decide) hg hg' hl

theorem r_Insert_I (l : List (Int × Int)) (x : Int × Int) (i : Nat) (hi : i ≤ l.length) (hl : l.length ≤ 1000000) :
    RSpec Try.prog 33 [.own 0 0 l.length, .d (.int .i64 i), .own 1 0 1] [.dat false 2 (l.map dW), .dat false 2 [dW x]] (.own 2 0 (l.length + 1)) [.dead, .dead, .dat false 2 ((l.take i ++ x :: l.drop i).map dW)] := by
  have w1 : IntKind.i64.wrap ((l.length : Int) + ((1 : Nat) : Int)) = ((l.length + 1 : Nat) : Int) := by rw [wrap_in (by omega)]; omega
  have w2 : IntKind.i64.wrap ((i : Int) + ((1 : Nat) : Int)) = ((i + 1 : Nat) : Int) := by rw [wrap_in (by omega)]; omega
  have hz : ∀ c b s, zeroD ⟨true, c, 2, b, s, [V.d (.int .i64 0), V.d (.int .i64 0)]⟩ = some (.agg [.int .i64 0, .int .i64 0]) := fun _ _ _ => rfl
  have hz0 : okEl 2 (.agg [.int .i64 0, .int .i64 0]) = true := rfl
  have t1 : ((i : Int) - 0).toNat = i := by omega
  have w3 : IntKind.i64.wrap (((l.length + 1 : Nat) : Int) - (i : Int)) = ((l.length + 1 - i : Nat) : Int) := by rw [wrap_in (by omega)]; omega
  have f1 : ((1 : Int) == 0) = false := rfl
  have f1' : (((1 : Nat) : Int) == 0) = false := rfl
  have hEl : (l.map dW ++ List.replicate (0 - l.length) (undefEl 2)).length = l.length := by simp
  by_cases he : i = l.length
  · have e : ((i : Int) == (l.length : Int)) = true := by rw [he]; simp
    refine RSpec.of_awp envOf_ok hmix Try.func33 rfl (fun args w => Try.call33 args w) (by simp [Try.f33]) ?_
    simp only [Try.f33]
    simp (maxSteps := 2000000) -implicitDefEqProofs only [zz, zE, evop, ev, ofVal, tget, tput, ok, V.isUndef, intBin, guardOf, initT, Ch.on, calleeOf, withArgs, told, xport, xports, tids, tidss, hget, hput, Blk.ice, freeze, V.cells, D.cells, V.isAgg, V.one, V.clo, clos, V.toD, loadD, structAt, eqCells, D.scalarEq, sliceOf, partsD, partsV, bound, isPtr, Blk.width, elems, lenOf, splice, D.over, resOf, resV, resVs, ↓reduceIte, reduceCtorEq, ↓reduceDIte, Nat.reduceLT, Nat.reduceEqDiff, Nat.reduceAdd, Nat.reduceSub, Nat.reduceMul, Nat.reduceLeDiff, Nat.reduceBEq, Nat.reduceBNe, Int.reduceNeg, Int.reduceAdd, Int.reduceSub, Int.reduceToNat, nilTest, shiftH, Blk.ren, V.ren, renL, initV, frameH, putL, frρ, dI, dW, cutK_normal, cutK_ret, cutK_exit]
    refine ⟨⟨by omega, by omega, by omega⟩, ?_⟩
    simp (maxSteps := 2000000) -implicitDefEqProofs only [zz, zE, evop, ev, ofVal, tget, tput, ok, V.isUndef, intBin, guardOf, initT, Ch.on, calleeOf, withArgs, told, xport, xports, tids, tidss, hget, hput, Blk.ice, freeze, V.cells, D.cells, V.isAgg, V.one, V.clo, clos, V.toD, loadD, structAt, eqCells, D.scalarEq, sliceOf, partsD, partsV, bound, isPtr, Blk.width, elems, lenOf, splice, D.over, resOf, resV, resVs, ↓reduceIte, reduceCtorEq, ↓reduceDIte, Nat.reduceLT, Nat.reduceEqDiff, Nat.reduceAdd, Nat.reduceSub, Nat.reduceMul, Nat.reduceLeDiff, Nat.reduceBEq, Nat.reduceBNe, Int.reduceNeg, Int.reduceAdd, Int.reduceSub, Int.reduceToNat, nilTest, shiftH, Blk.ren, V.ren, renL, initV, frameH, putL, frρ, dI, dW, cutK_normal, cutK_ret, cutK_exit, f1', e]
    refine ⟨⟨by omega, fun e he => by simp at he; subst he; rfl⟩, ?_⟩
    have e2 : List.take l.length (List.map dW l) ++ [D.agg [.int .i64 x.1, .int .i64 x.2]] = (l.take i ++ x :: l.drop i).map dW := by
      rw [he, List.take_of_length_le (by simp), List.take_of_length_le (Nat.le_refl _), List.drop_of_length_le (Nat.le_refl _)]
      simp [dW]
    rw [e2]
    refine Weak.pickD [0, 1, 2] (by decide) (by simp) (fun q hq => ?_) (fun i hi => ?_) (by simp) (fun i hi => ?_)
    · obtain rfl : q = _ := by simpa using hq
      exact .same _
    · match i, hi with
      | 0, _ => exact .dead rfl
      | 1, _ => exact .dead rfl
      | 2, _ => exact .dat _ _ _ rfl rfl
      | i + 3, hi => exact absurd hi (by simp)
    · match i, hi with
      | 0, _ => exact .inl rfl
      | 1, _ => exact .inl rfl
      | i + 2, hi => exact absurd hi (by simp)
  have e : ((i : Int) == (l.length : Int)) = false := by simp; omega
  refine RSpec.full (by simp) (fun args w => Try.call33 args w) (fun k hk => ?_)
  have hEl : (l.map dW ++ List.replicate (k - l.length) (undefEl 2)).length = k := by simp; omega
  by_cases hr : k < l.length + 1
  · have hr' : ((k : Int) < ((l.length + 1 : Nat) : Int)) := by omega
    have hk' : k = l.length := by omega
    refine RSpec.of_awp envOf_ok hmix Try.func33 rfl (fun args w => Try.call33 args w) (by simp [Try.f33]) ?_
    simp only [Try.f33]
    simp (maxSteps := 2000000) -implicitDefEqProofs only [zz, zE, evop, ev, ofVal, tget, tput, ok, V.isUndef, intBin, guardOf, initT, Ch.on, calleeOf, withArgs, told, xport, xports, tids, tidss, hget, hput, Blk.ice, freeze, V.cells, D.cells, V.isAgg, V.one, V.clo, clos, V.toD, loadD, structAt, eqCells, D.scalarEq, sliceOf, partsD, partsV, bound, isPtr, Blk.width, elems, lenOf, splice, D.over, resOf, resV, resVs, ↓reduceIte, reduceCtorEq, ↓reduceDIte, Nat.reduceLT, Nat.reduceEqDiff, Nat.reduceAdd, Nat.reduceSub, Nat.reduceMul, Nat.reduceLeDiff, Nat.reduceBEq, Nat.reduceBNe, Int.reduceNeg, Int.reduceAdd, Int.reduceSub, Int.reduceToNat, nilTest, shiftH, Blk.ren, V.ren, renL, initV, frameH, putL, frρ, dI, dW, cutK_normal, cutK_ret, cutK_exit]
    refine ⟨⟨by omega, by omega, by omega, by rw [hEl]; omega⟩, ?_⟩
    simp (maxSteps := 2000000) -implicitDefEqProofs only [zz, zE, evop, ev, ofVal, tget, tput, ok, V.isUndef, intBin, guardOf, initT, Ch.on, calleeOf, withArgs, told, xport, xports, tids, tidss, hget, hput, Blk.ice, freeze, V.cells, D.cells, V.isAgg, V.one, V.clo, clos, V.toD, loadD, structAt, eqCells, D.scalarEq, sliceOf, partsD, partsV, bound, isPtr, Blk.width, elems, lenOf, splice, D.over, resOf, resV, resVs, ↓reduceIte, reduceCtorEq, ↓reduceDIte, Nat.reduceLT, Nat.reduceEqDiff, Nat.reduceAdd, Nat.reduceSub, Nat.reduceMul, Nat.reduceLeDiff, Nat.reduceBEq, Nat.reduceBNe, Int.reduceNeg, Int.reduceAdd, Int.reduceSub, Int.reduceToNat, nilTest, shiftH, Blk.ren, V.ren, renL, initV, frameH, putL, frρ, dI, dW, cutK_normal, cutK_ret, cutK_exit, f1', e, w1, w3, hr', hz, hz0, t1, Int.toNat_natCast]
    have t3 : i + (l.length + 1 - i) = l.length + 1 := by omega
    have t4 : (((l.length + 1 : Nat) : Int) - (i : Int)).toNat = l.length + 1 - i := by omega
    have t5 : List.take (l.length + 1 - i) [D.agg [.int .i64 x.1, .int .i64 x.2]] = [D.agg [.int .i64 x.1, .int .i64 x.2]] := List.take_of_length_le (by simp; omega)
    refine ⟨⟨by omega, by omega, by omega, by rw [hEl]; omega⟩, ⟨by omega, by omega, by omega⟩, ⟨by omega, by omega, by omega⟩, fun e he => ?_, ?_⟩
    · rw [t3, t4, t5] at he
      simp at he; subst he; rfl
    have t6 : List.take i (l.map dW ++ List.replicate (k - l.length) (undefEl 2)) = (l.map dW).take i := List.take_append_of_le_length (by simp; omega)
    rw [t3, t4, t5, t6]
    refine wdraw_plan [⟨[], false, [47, 48, 49, 51, 52, 53], [], false⟩, ⟨[], false, [46, 48, 51, 52, 53], [0], false⟩, ⟨[], false, [46, 47, 51, 52, 53], [0, 1], false⟩, ⟨[1, 2], false, [46, 51, 52, 53], [0], false⟩, ⟨[0, 1, 2, 3], false, [51, 52, 53], [], false⟩, ⟨[], false, [46, 47, 48, 49, 50, 52], [0, 1, 2, 3, 4], false⟩, ⟨[], false, [46, 47, 48, 49, 50, 51], [0, 1, 2, 3, 4, 5], false⟩, ⟨[5, 6], false, [46, 47, 48, 49, 50], [0, 1, 2, 3, 4], false⟩, ⟨[0, 1, 2, 3, 4, 5, 6, 7], true, [], [], false⟩] (by decide) ?_
    simp (maxSteps := 2000000) -implicitDefEqProofs only [zz, zE, evop, ev, ofVal, tget, tput, ok, V.isUndef, intBin, guardOf, initT, Ch.on, calleeOf, withArgs, told, xport, xports, tids, tidss, hget, hput, Blk.ice, freeze, V.cells, D.cells, V.isAgg, V.one, V.clo, clos, V.toD, loadD, structAt, eqCells, D.scalarEq, sliceOf, partsD, partsV, bound, isPtr, Blk.width, elems, lenOf, splice, D.over, resOf, resV, resVs, ↓reduceIte, reduceCtorEq, ↓reduceDIte, Nat.reduceLT, Nat.reduceEqDiff, Nat.reduceAdd, Nat.reduceSub, Nat.reduceMul, Nat.reduceLeDiff, Nat.reduceBEq, Nat.reduceBNe, Int.reduceNeg, Int.reduceAdd, Int.reduceSub, Int.reduceToNat, nilTest, shiftH, Blk.ren, V.ren, renL, initV, frameH, putL, frρ, dI, dW, cutK_normal, cutK_ret, cutK_exit, w2, t1, Int.toNat_natCast]
    have t7 : List.take (((l.length + 1 : Nat) : Int) - ((i + 1 : Nat) : Int)).toNat (List.take ((l.length : Int) - (i : Int)).toNat (List.drop i (l.map dW ++ List.replicate (k - l.length) (undefEl 2)))) = (l.map dW).drop i := by
      have a1 : (((l.length + 1 : Nat) : Int) - ((i + 1 : Nat) : Int)).toNat = l.length - i := by omega
      have a2 : ((l.length : Int) - (i : Int)).toNat = l.length - i := by omega
      rw [a1, a2, hk', Nat.sub_self, List.replicate_zero, List.append_nil, List.take_of_length_le (by simp), List.take_of_length_le (by simp)]
    refine ⟨⟨by omega, by omega, by omega⟩, ⟨by omega, by omega, by omega, by rw [hEl]; omega⟩, fun e he => ?_, ?_⟩
    · rw [t7] at he
      exact okEl_T l e (List.mem_of_mem_drop he)
    rw [t7]
    suffices h : ∀ X, X = (l.take i ++ x :: l.drop i).map dW → Weak 2 [(0, V.own 2 0 (l.length + 1))] [.dat false 2 (l.map dW ++ List.replicate (k - l.length) (undefEl 2)), .dat false 2 [.agg [.int .i64 x.1, .int .i64 x.2]], .dat false 2 X, .dead, .dead, .dead, .dead, .dead, .dead, .dead, .dead] [(0, V.own 2 0 (l.length + 1))] [.dead, .dead, .dat false 2 ((l.take i ++ x :: l.drop i).map dW)] from h _ (ins_grow (z := .agg [.int .i64 0, .int .i64 0]) hi)
    intro X hX
    subst hX
    refine Weak.pickD [0, 1, 2] (by decide) (by simp) (fun q hq => ?_) (fun i hi => ?_) (by simp) (fun i hi => ?_)
    · obtain rfl : q = _ := by simpa using hq
      exact .same _
    · match i, hi with
      | 0, _ => exact .dead rfl
      | 1, _ => exact .dead rfl
      | 2, _ => exact .dat _ _ _ rfl rfl
      | i + 3, hi => exact absurd hi (by simp)
    · match i, hi with
      | 0, _ => exact .inl rfl
      | 1, _ => exact .inl rfl
      | i + 2, hi => exact absurd hi (by simp)
  · have hr' : ¬ ((k : Int) < ((l.length + 1 : Nat) : Int)) := by omega
    refine RSpec.of_snd envOf_ok hmix Try.func33 rfl (fun args w => Try.call33 args w) (by simp [Try.f33]) ?_
    simp only [Try.f33]
    refine Snd.upto envOf_ok hmix 8 _ ?_
    simp only [hdN, tlN]
    simp (maxSteps := 2000000) -implicitDefEqProofs only [zz, zE, evop, ev, ofVal, tget, tput, ok, V.isUndef, intBin, guardOf, initT, Ch.on, calleeOf, withArgs, told, xport, xports, tids, tidss, hget, hput, Blk.ice, freeze, V.cells, D.cells, V.isAgg, V.one, V.clo, clos, V.toD, loadD, structAt, eqCells, D.scalarEq, sliceOf, partsD, partsV, bound, isPtr, Blk.width, elems, lenOf, splice, D.over, resOf, resV, resVs, ↓reduceIte, reduceCtorEq, ↓reduceDIte, Nat.reduceLT, Nat.reduceEqDiff, Nat.reduceAdd, Nat.reduceSub, Nat.reduceMul, Nat.reduceLeDiff, Nat.reduceBEq, Nat.reduceBNe, Int.reduceNeg, Int.reduceAdd, Int.reduceSub, Int.reduceToNat, nilTest, shiftH, Blk.ren, V.ren, renL, initV, frameH, putL, frρ, dI, dW, cutK_normal, cutK_ret, cutK_exit]
    refine ⟨⟨by omega, by omega, by omega, by rw [hEl]; omega⟩, ?_⟩
    have s1 : (((l.length + 1 : Nat) : Int) - 0).toNat = l.length + 1 := by omega
    have s2 : (((l.length + 1 : Nat) : Int) - ((i + 1 : Nat) : Int)).toNat = l.length - i := by omega
    have s3 : (((l.length + 1 : Nat) : Int) - (i : Int)).toNat = l.length + 1 - i := by omega
    simp (maxSteps := 2000000) -implicitDefEqProofs only [zz, zE, evop, ev, ofVal, tget, tput, ok, V.isUndef, intBin, guardOf, initT, Ch.on, calleeOf, withArgs, told, xport, xports, tids, tidss, hget, hput, Blk.ice, freeze, V.cells, D.cells, V.isAgg, V.one, V.clo, clos, V.toD, loadD, structAt, eqCells, D.scalarEq, sliceOf, partsD, partsV, bound, isPtr, Blk.width, elems, lenOf, splice, D.over, resOf, resV, resVs, ↓reduceIte, reduceCtorEq, ↓reduceDIte, Nat.reduceLT, Nat.reduceEqDiff, Nat.reduceAdd, Nat.reduceSub, Nat.reduceMul, Nat.reduceLeDiff, Nat.reduceBEq, Nat.reduceBNe, Int.reduceNeg, Int.reduceAdd, Int.reduceSub, Int.reduceToNat, nilTest, shiftH, Blk.ren, V.ren, renL, initV, frameH, putL, frρ, dI, dW, cutK_normal, cutK_ret, cutK_exit, f1', e, w1, hr', t1, s1]
    refine ⟨⟨by omega, by omega, by omega, by rw [hEl]; omega⟩, ?_⟩
    refine Snd.seqS (Snd.seqS (Snd.cut_x envOf_ok 6 _ _ _ _ (.bool false) _ rfl rfl rfl ?_))
    simp only [List.take, List.drop]
    simp (maxSteps := 2000000) -implicitDefEqProofs only [zz, zE, evop, ev, ofVal, tget, tput, ok, V.isUndef, intBin, guardOf, initT, Ch.on, calleeOf, withArgs, told, xport, xports, tids, tidss, hget, hput, Blk.ice, freeze, V.cells, D.cells, V.isAgg, V.one, V.clo, clos, V.toD, loadD, structAt, eqCells, D.scalarEq, sliceOf, partsD, partsV, bound, isPtr, Blk.width, elems, lenOf, splice, D.over, resOf, resV, resVs, ↓reduceIte, reduceCtorEq, ↓reduceDIte, Nat.reduceLT, Nat.reduceEqDiff, Nat.reduceAdd, Nat.reduceSub, Nat.reduceMul, Nat.reduceLeDiff, Nat.reduceBEq, Nat.reduceBNe, Int.reduceNeg, Int.reduceAdd, Int.reduceSub, Int.reduceToNat, nilTest, shiftH, Blk.ren, V.ren, renL, initV, frameH, putL, frρ, dI, dW, cutK_normal, cutK_ret, cutK_exit, w2, t1, s1, s2, Int.toNat_natCast]
    refine ⟨⟨by omega, by omega, by omega, by rw [hEl]; omega⟩, x_overlaps rfl rfl (by rw [hEl]; omega), ?_⟩
    refine ⟨_, _, Weak.rfl', ?_⟩
    simp (maxSteps := 2000000) -implicitDefEqProofs only [zz, zE, evop, ev, ofVal, tget, tput, ok, V.isUndef, intBin, guardOf, initT, Ch.on, calleeOf, withArgs, told, xport, xports, tids, tidss, hget, hput, Blk.ice, freeze, V.cells, D.cells, V.isAgg, V.one, V.clo, clos, V.toD, loadD, structAt, eqCells, D.scalarEq, sliceOf, partsD, partsV, bound, isPtr, Blk.width, elems, lenOf, splice, D.over, resOf, resV, resVs, ↓reduceIte, reduceCtorEq, ↓reduceDIte, Nat.reduceLT, Nat.reduceEqDiff, Nat.reduceAdd, Nat.reduceSub, Nat.reduceMul, Nat.reduceLeDiff, Nat.reduceBEq, Nat.reduceBNe, Int.reduceNeg, Int.reduceAdd, Int.reduceSub, Int.reduceToNat, nilTest, shiftH, Blk.ren, V.ren, renL, initV, frameH, putL, frρ, dI, dW, cutK_normal, cutK_ret, cutK_exit]
    refine Snd.of_awp envOf_ok hmix ?_
    simp (maxSteps := 2000000) -implicitDefEqProofs only [zz, zE, evop, ev, ofVal, tget, tput, ok, V.isUndef, intBin, guardOf, initT, Ch.on, calleeOf, withArgs, told, xport, xports, tids, tidss, hget, hput, Blk.ice, freeze, V.cells, D.cells, V.isAgg, V.one, V.clo, clos, V.toD, loadD, structAt, eqCells, D.scalarEq, sliceOf, partsD, partsV, bound, isPtr, Blk.width, elems, lenOf, splice, D.over, resOf, resV, resVs, ↓reduceIte, reduceCtorEq, ↓reduceDIte, Nat.reduceLT, Nat.reduceEqDiff, Nat.reduceAdd, Nat.reduceSub, Nat.reduceMul, Nat.reduceLeDiff, Nat.reduceBEq, Nat.reduceBNe, Int.reduceNeg, Int.reduceAdd, Int.reduceSub, Int.reduceToNat, nilTest, shiftH, Blk.ren, V.ren, renL, initV, frameH, putL, frρ, dI, dW, cutK_normal, cutK_ret, cutK_exit]
    refine wdraw_plan [⟨[], false, [70, 71, 72, 74, 75, 76], [], false⟩, ⟨[], false, [69, 71, 74, 75, 76], [0], false⟩, ⟨[], false, [69, 70, 74, 75, 76], [0, 1], false⟩, ⟨[1, 2], false, [69, 74, 75, 76], [0], false⟩, ⟨[0, 1, 2, 3], false, [74, 75, 76], [], false⟩, ⟨[], false, [69, 70, 71, 72, 73, 75], [0, 1, 2, 3, 4], false⟩, ⟨[], false, [69, 70, 71, 72, 73, 74], [0, 1, 2, 3, 4, 5], false⟩, ⟨[5, 6], false, [69, 70, 71, 72, 73], [0, 1, 2, 3, 4], false⟩, ⟨[0, 1, 2, 3, 4, 5, 6, 7], true, [], [], false⟩] (by decide) ?_
    simp (maxSteps := 2000000) -implicitDefEqProofs only [zz, zE, evop, ev, ofVal, tget, tput, ok, V.isUndef, intBin, guardOf, initT, Ch.on, calleeOf, withArgs, told, xport, xports, tids, tidss, hget, hput, Blk.ice, freeze, V.cells, D.cells, V.isAgg, V.one, V.clo, clos, V.toD, loadD, structAt, eqCells, D.scalarEq, sliceOf, partsD, partsV, bound, isPtr, Blk.width, elems, lenOf, splice, D.over, resOf, resV, resVs, ↓reduceIte, reduceCtorEq, ↓reduceDIte, Nat.reduceLT, Nat.reduceEqDiff, Nat.reduceAdd, Nat.reduceSub, Nat.reduceMul, Nat.reduceLeDiff, Nat.reduceBEq, Nat.reduceBNe, Int.reduceNeg, Int.reduceAdd, Int.reduceSub, Int.reduceToNat, nilTest, shiftH, Blk.ren, V.ren, renL, initV, frameH, putL, frρ, dI, dW, cutK_normal, cutK_ret, cutK_exit, w2, t1, s1, s2, s3, Int.toNat_natCast]
    have t5 : List.take (l.length + 1 - i) [D.agg [.int .i64 x.1, .int .i64 x.2]] = [D.agg [.int .i64 x.1, .int .i64 x.2]] := List.take_of_length_le (by simp; omega)
    have t7 : List.take (l.length - i) (List.take (l.length + 1 - i) (List.drop i (l.map dW ++ List.replicate (k - l.length) (undefEl 2)))) = (l.map dW).drop i := by
      rw [List.take_take, Nat.min_eq_left (by omega), List.drop_append_of_le_length (by simp; omega), List.take_append_of_le_length (by simp), List.take_of_length_le (by simp)]
    rw [t7, t5]
    have hsl := splice_length (l.map dW ++ List.replicate (k - l.length) (undefEl 2)) (i + 1) ((l.map dW).drop i) (by rw [hEl]; simp; omega)
    rw [hEl] at hsl
    have hsl2 := splice_length (splice (l.map dW ++ List.replicate (k - l.length) (undefEl 2)) (i + 1) ((l.map dW).drop i)) i [dW x] (by rw [hsl]; simp; omega)
    rw [hsl] at hsl2
    unfold splice at hsl
    refine ⟨⟨by omega, by omega, by omega, by rw [hEl]; omega⟩, ⟨by omega, by omega, by omega, by rw [hEl]; omega⟩, fun e he => okEl_T l e (List.mem_of_mem_drop he), ⟨by omega, by omega, by omega, by rw [hsl]; omega⟩, fun e he => by simp at he; subst he; rfl, ?_⟩
    suffices h : ∀ X : List D, X.length = k → X.take (l.length + 1) = (l.take i ++ x :: l.drop i).map dW → Weak 2 [(0, V.full 0 0 (l.length + 1) k)] [.dat false 2 X, .dat false 2 [.agg [.int .i64 x.1, .int .i64 x.2]], .dead, .dead, .dead, .dead, .dead, .dead, .dead, .dead] [(0, V.own 2 0 (l.length + 1))] [.dead, .dead, .dat false 2 ((l.take i ++ x :: l.drop i).map dW)] from h _ hsl2 (ins_room (by omega) (by omega))
    intro X hX1 hX2
    refine Weak.trans' (Weak.reborn (nid := 10) (.inr ⟨k, rfl⟩) rfl rfl (by omega)) ?_
    rw [hX2]
    refine Weak.pickD [0, 1, 10] (by decide) (by simp) (fun q hq => ?_) (fun i hi => ?_) (by simp) (fun i hi => ?_)
    · obtain rfl : q = _ := by simpa using hq
      exact .same _
    · match i, hi with
      | 0, _ => exact .dead rfl
      | 1, _ => exact .dead rfl
      | 2, _ => exact .dat _ _ _ rfl rfl
      | i + 3, hi => exact absurd hi (by simp)
    · match i, hi with
      | 0, _ => exact .inl rfl
      | 1, _ => exact .inl rfl
      | i + 2, hi => exact absurd hi (by simp)
end Go.Proofs.Ytaejlmengfahnaa.AM

set_option linter.all false
set_option maxRecDepth 100000
set_option maxHeartbeats 8000000
namespace Go.Proofs.Ytaejlmengfahnaa.AM
open Go Go.RowKit

def slotsV (w : Wh) : List V := (w.slots.map fun l => D.vec (l.map dW)).map V.d
def bWh (w : Wh) : Blk := .box false (V.d (.int .i64 w.now) :: slotsV w)
def seenB (ws : List Int) : List Bool := (List.range 9).map fun (k : Nat) => decide ((k : Int) ∈ ws)
def bSeen (ws : List Int) : Blk := .box false ((seenB ws).map fun b => V.d (.bool b))
theorem seenB_get {ws : List Int} {n : Int} (h0 : 0 ≤ n) (h1 : n ≤ 8) : (seenB ws)[n.toNat]? = some (decide (n ∈ ws)) := by
  unfold seenB
  rw [List.getElem?_map, List.getElem?_range (by omega), Option.map_some]
  have : ((n.toNat : Nat) : Int) = n := by omega
  rw [this]
theorem seenB_set {ws : List Int} {n : Int} (h0 : 0 ≤ n) (h1 : n ≤ 8) : (seenB ws).set n.toNat true = seenB (ws ++ [n]) := by
  refine List.ext_getElem? (fun i => ?_)
  have hl : (seenB ws).length = 9 := by simp [seenB]
  have hl2 : (seenB (ws ++ [n])).length = 9 := by simp [seenB]
  rcases Nat.lt_or_ge i 9 with g | g
  · have hr : (seenB (ws ++ [n]))[i]? = some (decide ((i : Int) ∈ ws ++ [n])) := by
      unfold seenB; rw [List.getElem?_map, List.getElem?_range g]; rfl
    rw [hr]
    by_cases e : n.toNat = i
    · subst e
      rw [List.getElem?_set_self (by omega)]
      have : ((n.toNat : Nat) : Int) = n := by omega
      rw [this]; simp
    · rw [List.getElem?_set_ne e]
      have hr' : (seenB ws)[i]? = some (decide ((i : Int) ∈ ws)) := by
        unfold seenB; rw [List.getElem?_map, List.getElem?_range g]; rfl
      rw [hr']
      have : (i : Int) ≠ n := by omega
      simp [this]
  · rw [List.getElem?_eq_none (by rw [List.length_set]; omega), List.getElem?_eq_none (by omega)]

def whosU (w : Wh) (i k : Nat) : List Int := ((w.slots.take i).flatten ++ (slotW w i).take k).map fun x => x.1
structure Good (w : Wh) (i k : Nat) : Prop where
  low : ∀ j l, j < i → w.slots[j]? = some l → (∀ x ∈ l, itemOk w.now j x = true) ∧ Srt l
  at_ : (∀ x ∈ (slotW w i).take k, itemOk w.now i x = true) ∧ Srt ((slotW w i).take k)
  who : (whosU w i k).Nodup
theorem Good.zero (w : Wh) : Good w 0 0 := ⟨fun j l h => by omega, by simp [Srt], by simp [whosU]⟩
theorem Good.up {w : Wh} {i : Nat} {l : List (Int × Int)} (hl : w.slots[i]? = some l) (h : Good w i l.length) : Good w (i + 1) 0 := by
  have e := slotW_get hl
  have h2 := h.at_
  rw [e, List.take_length] at h2
  refine ⟨fun j l' hj hl' => ?_, by simp [Srt], ?_⟩
  · by_cases g : j = i
    · subst g; rw [hl] at hl'; cases hl'; exact h2
    · exact h.low j l' (by omega) hl'
  · have := h.who
    unfold whosU at this ⊢
    rw [e, List.take_length] at this
    rw [List.take_zero, List.append_nil, List.take_succ, hl]
    simpa using this
theorem whosU_succ {w : Wh} {i k : Nat} {l : List (Int × Int)} {x : Int × Int} (hl : w.slots[i]? = some l) (hx : l[k]? = some x) : whosU w i (k + 1) = whosU w i k ++ [x.1] := by
  unfold whosU
  rw [slotW_get hl, List.take_succ, hx]
  simp
theorem Good.next {w : Wh} {i k : Nat} {l : List (Int × Int)} {x : Int × Int} (hl : w.slots[i]? = some l) (hx : l[k]? = some x) (h : Good w i k) (h1 : itemOk w.now i x = true) (h2 : x.1 ∉ whosU w i k) (h3 : ∀ y, 0 < k → l[k - 1]? = some y → ltI y x = true) : Good w i (k + 1) := by
  have e := slotW_get hl
  have hk : k < l.length := (List.getElem?_eq_some_iff.1 hx).1
  have ha := h.at_
  rw [e] at ha
  refine ⟨h.low, ⟨fun y hy => ?_, ?_⟩, ?_⟩
  · rw [e, List.take_succ, hx] at hy
    rcases List.mem_append.1 hy with g | g
    · exact ha.1 y g
    · simp at g; subst g; exact h1
  · rw [e, List.take_succ, hx]
    refine List.pairwise_append.2 ⟨ha.2, by simp, fun a hm b hb => ?_⟩
    simp at hb; subst hb
    rcases Nat.eq_zero_or_pos k with h0 | h0
    · subst h0; simp at hm
    · have hy : l[k - 1]? = some (l[k - 1]'(by omega)) := List.getElem?_eq_getElem (by omega)
      have hlt := h3 _ h0 hy
      obtain ⟨q, hq, rfl⟩ := List.getElem_of_mem hm
      have hq' : q < k := by simp at hq; omega
      rw [List.getElem_take]
      by_cases g : q = k - 1
      · subst g; exact hlt
      · have hp := List.pairwise_iff_getElem.1 ha.2 q (k - 1) (by simp; omega) (by simp; omega) (by omega)
        rw [List.getElem_take, List.getElem_take] at hp
        exact ltI_trans hp hlt
  · rw [whosU_succ hl hx]
    refine List.nodup_append.2 ⟨h.who, by simp, fun a ha b hb e => ?_⟩
    simp at hb; subst hb; subst e; exact h2 ha
theorem Good.all {w : Wh} (hs : w.slots.length = 8) (h : Good w 8 0) : rightB w = tickR w.now := by
  cases e : tickR w.now with
  | false => simp [rightB, e]
  | true =>
    rw [rightB_iff hs]
    refine ⟨e, hs, fun i l hl x hx => (h.low i l (by have := (List.getElem?_eq_some_iff.1 hl).1; omega) hl).1 x hx, fun l hm => ?_, ?_⟩
    · obtain ⟨i, hi, rfl⟩ := List.getElem_of_mem hm
      exact (h.low i _ (by omega) (List.getElem?_eq_getElem hi)).2
    · have := h.who
      unfold whosU at this
      rw [List.take_zero, List.append_nil, List.take_of_length_le (by omega)] at this
      exact this
theorem right_item {w : Wh} (h : RightW w) {i k : Nat} {l : List (Int × Int)} {x : Int × Int} (hl : w.slots[i]? = some l) (hx : l[k]? = some x) : itemOk w.now i x = true ∧ x.1 ∉ whosU w i k ∧ ∀ y, 0 < k → l[k - 1]? = some y → ltI y x = true := by
  refine ⟨h.items i l hl x (List.mem_of_getElem? hx), fun hm => ?_, fun y h0 hy => ?_⟩
  · have hn := h.who
    have e : w.slots = w.slots.take i ++ l :: w.slots.drop (i + 1) := by
      have hi := (List.getElem?_eq_some_iff.1 hl).1
      have := List.drop_eq_getElem_cons hi
      rw [List.getElem?_eq_getElem hi] at hl
      cases hl
      rw [← this, List.take_append_drop]
    have e2 : l = l.take k ++ x :: l.drop (k + 1) := by
      have hk := (List.getElem?_eq_some_iff.1 hx).1
      have := List.drop_eq_getElem_cons hk
      rw [List.getElem?_eq_getElem hk] at hx
      cases hx
      rw [← this, List.take_append_drop]
    rw [e, List.flatten_append, List.flatten_cons, e2, List.append_assoc, ← List.append_assoc, List.map_append] at hn
    unfold whosU at hm
    rw [slotW_get hl] at hm
    have := (List.nodup_append.1 hn).2.2 x.1 hm x.1 (by simp)
    exact this rfl
  · have hk := (List.getElem?_eq_some_iff.1 hx).1
    have hs := h.srt l (List.mem_of_getElem? hl)
    have := List.pairwise_iff_getElem.1 hs (k - 1) k (by omega) hk (by omega)
    rw [List.getElem?_eq_getElem hk] at hx
    rw [List.getElem?_eq_getElem (by omega)] at hy
    cases hx; cases hy; exact this

theorem lowerL_b (n : Nat) : ∀ l : List Bool, lowerL n (l.map fun b => V.d (.bool b)) = true
  | [] => rfl
  | b :: r => by simp only [List.map_cons, lowerL, V.lower, lowerL_b n r]; rfl
theorem lower_slots (n : Nat) (w : Wh) : lowerL n (slotsV w) = true := lowerL_ds n _
theorem c_wh_Right (w : Wh) (hs : w.slots.length = 8) (hl : ∀ l ∈ w.slots, l.length ≤ 1000000) : CSpec Try.prog 21 [dWh w] (.bool (rightB w)) := by
  have hsl : (slotsV w).length = 8 := by simp [slotsV, hs]
  have hs8 : 8 ≤ w.slots.length := by omega
  have ht8 : List.take 8 (List.map V.d (List.map (fun l => D.vec (List.map dW l)) w.slots)) = slotsV w := List.take_of_length_le (by simp [hs])
  have hb0 : Blk.box false [V.d (D.bool false), V.d (D.bool false), V.d (D.bool false), V.d (D.bool false), V.d (D.bool false), V.d (D.bool false), V.d (D.bool false), V.d (D.bool false), V.d (D.bool false)] = bSeen (whosU w 0 0) := rfl
  have hbw : Blk.box false (V.d (D.int IntKind.i64 w.now) :: List.map V.d (List.map (fun l => D.vec (List.map dW l)) w.slots)) = bWh w := rfl
  refine CSpec.of_awp envOf_ok hmix Try.func21 rfl (fun args w => Try.call21 args w) (by simp [Try.f21]) ?_
  simp only [Try.f21]
  simp (maxSteps := 2000000) -implicitDefEqProofs only [zz, zE, evop, ev, ofVal, tget, tput, ok, V.isUndef, intBin, guardOf, initT, Ch.on, calleeOf, withArgs, told, xport, xports, tids, tidss, hget, hput, Blk.ice, freeze, V.cells, D.cells, V.isAgg, V.one, V.clo, clos, V.toD, loadD, structAt, eqCells, D.scalarEq, sliceOf, partsD, partsV, bound, isPtr, Blk.width, elems, lenOf, splice, D.over, resOf, resV, resVs, ↓reduceIte, reduceCtorEq, ↓reduceDIte, Nat.reduceLT, Nat.reduceEqDiff, Nat.reduceAdd, Nat.reduceSub, Nat.reduceMul, Nat.reduceLeDiff, Nat.reduceBEq, Nat.reduceBNe, Int.reduceNeg, Int.reduceAdd, Int.reduceSub, Int.reduceToNat, nilTest, shiftH, Blk.ren, V.ren, renL, initV, frameH, putL, frρ, dI, dW]
  unfold dWh
  simp (maxSteps := 2000000) -implicitDefEqProofs only [zz, zE, evop, ev, ofVal, tget, tput, ok, V.isUndef, intBin, guardOf, initT, Ch.on, calleeOf, withArgs, told, xport, xports, tids, tidss, hget, hput, Blk.ice, freeze, V.cells, D.cells, V.isAgg, V.one, V.clo, clos, V.toD, loadD, structAt, eqCells, D.scalarEq, sliceOf, partsD, partsV, bound, isPtr, Blk.width, elems, lenOf, splice, D.over, resOf, resV, resVs, ↓reduceIte, reduceCtorEq, ↓reduceDIte, Nat.reduceLT, Nat.reduceEqDiff, Nat.reduceAdd, Nat.reduceSub, Nat.reduceMul, Nat.reduceLeDiff, Nat.reduceBEq, Nat.reduceBNe, Int.reduceNeg, Int.reduceAdd, Int.reduceSub, Int.reduceToNat, nilTest, shiftH, Blk.ren, V.ren, renL, initV, frameH, putL, frρ, dI, dW, hs8, ht8]
  rw [hb0, hbw]
  refine wloop_count 8 (fun i => [(10, .d (.int .i64 i)), (9, .agg (slotsV w)), (1, .ptr 0 0 0), (3, .ptr 1 0 0)]) (fun i => [bWh w, bSeen (whosU w i 0)]) (fun i => Good w i 0) (Good.zero w) (Weak.sub (by simp [tget])) (fun i hi hG => ?_) (fun hG => ?_)
  case refine_2 =>
    have h' : ¬ (((8 : Nat) : Int) < 8) := by omega
    have hr := c_tick_Right w.now
    simp (maxSteps := 2000000) -implicitDefEqProofs only [zz, zE, evop, ev, ofVal, tget, tput, ok, V.isUndef, intBin, guardOf, initT, Ch.on, calleeOf, withArgs, told, xport, xports, tids, tidss, hget, hput, Blk.ice, freeze, V.cells, D.cells, V.isAgg, V.one, V.clo, clos, V.toD, loadD, structAt, eqCells, D.scalarEq, sliceOf, partsD, partsV, bound, isPtr, Blk.width, elems, lenOf, splice, D.over, resOf, resV, resVs, ↓reduceIte, reduceCtorEq, ↓reduceDIte, Nat.reduceLT, Nat.reduceEqDiff, Nat.reduceAdd, Nat.reduceSub, Nat.reduceMul, Nat.reduceLeDiff, Nat.reduceBEq, Nat.reduceBNe, Int.reduceNeg, Int.reduceAdd, Int.reduceSub, Int.reduceToNat, nilTest, shiftH, Blk.ren, V.ren, renL, initV, frameH, putL, frρ, dI, dW, h', bWh]
    refine acall_flat' (hr) rfl ?_
    try simp (maxSteps := 2000000) -implicitDefEqProofs only [zz, zE, evop, ev, ofVal, tget, tput, ok, V.isUndef, intBin, guardOf, initT, Ch.on, calleeOf, withArgs, told, xport, xports, tids, tidss, hget, hput, Blk.ice, freeze, V.cells, D.cells, V.isAgg, V.one, V.clo, clos, V.toD, loadD, structAt, eqCells, D.scalarEq, sliceOf, partsD, partsV, bound, isPtr, Blk.width, elems, lenOf, splice, D.over, resOf, resV, resVs, ↓reduceIte, reduceCtorEq, ↓reduceDIte, Nat.reduceLT, Nat.reduceEqDiff, Nat.reduceAdd, Nat.reduceSub, Nat.reduceMul, Nat.reduceLeDiff, Nat.reduceBEq, Nat.reduceBNe, Int.reduceNeg, Int.reduceAdd, Int.reduceSub, Int.reduceToNat, nilTest, shiftH, Blk.ren, V.ren, renL, initV, frameH, putL, frρ, dI, dW]
    rw [Good.all hs hG]
  obtain ⟨l, hli⟩ : ∃ l, w.slots[i]? = some l := ⟨_, List.getElem?_eq_getElem (by omega)⟩
  have hll := hl l (List.mem_of_getElem? hli)
  have h' : ((i : Int) < 8) := by omega
  have hgi : (slotsV w).getD i (.d .undef) = .d (.vec (l.map dW)) := by
    unfold slotsV
    rw [List.getD_eq_getElem?_getD, List.getElem?_map, List.getElem?_map, hli]; rfl
  have hwi : IntKind.i64.wrap ((i : Int) + 1) = ((i + 1 : Nat) : Int) := by rw [wrap_in (by omega)]; omega
  simp (maxSteps := 2000000) -implicitDefEqProofs only [zz, zE, evop, ev, ofVal, tget, tput, ok, V.isUndef, intBin, guardOf, initT, Ch.on, calleeOf, withArgs, told, xport, xports, tids, tidss, hget, hput, Blk.ice, freeze, V.cells, D.cells, V.isAgg, V.one, V.clo, clos, V.toD, loadD, structAt, eqCells, D.scalarEq, sliceOf, partsD, partsV, bound, isPtr, Blk.width, elems, lenOf, splice, D.over, resOf, resV, resVs, ↓reduceIte, reduceCtorEq, ↓reduceDIte, Nat.reduceLT, Nat.reduceEqDiff, Nat.reduceAdd, Nat.reduceSub, Nat.reduceMul, Nat.reduceLeDiff, Nat.reduceBEq, Nat.reduceBNe, Int.reduceNeg, Int.reduceAdd, Int.reduceSub, Int.reduceToNat, nilTest, shiftH, Blk.ren, V.ren, renL, initV, frameH, putL, frρ, dI, dW, h', hsl, hgi, Int.toNat_natCast]
  refine ⟨⟨by omega, by omega⟩, ?_⟩
  refine wloop_count l.length (fun k => [(16, .d (.int .i64 k)), (15, .d (.int .i64 l.length)), (14, .d (.vec (l.map dW))), (5, .d (.vec (l.map dW))), (4, .d (.int .i64 i)), (10, .d (.int .i64 i)), (9, .agg (slotsV w)), (1, .ptr 0 0 0), (3, .ptr 1 0 0)]) (fun k => [bWh w, bSeen (whosU w i k)]) (fun k => Good w i k) hG (Weak.sub (by simp [tget])) (fun k hk hG => ?_) (fun hG => ?_)
  case refine_2 =>
    have h' : ¬ ((l.length : Int) < (l.length : Int)) := by omega
    have hu : whosU w i l.length = whosU w (i + 1) 0 := by
      unfold whosU
      rw [slotW_get hli, List.take_length, List.take_zero, List.append_nil, List.take_succ, hli]
      simp
    simp (maxSteps := 2000000) -implicitDefEqProofs only [zz, zE, evop, ev, ofVal, tget, tput, ok, V.isUndef, intBin, guardOf, initT, Ch.on, calleeOf, withArgs, told, xport, xports, tids, tidss, hget, hput, Blk.ice, freeze, V.cells, D.cells, V.isAgg, V.one, V.clo, clos, V.toD, loadD, structAt, eqCells, D.scalarEq, sliceOf, partsD, partsV, bound, isPtr, Blk.width, elems, lenOf, splice, D.over, resOf, resV, resVs, ↓reduceIte, reduceCtorEq, ↓reduceDIte, Nat.reduceLT, Nat.reduceEqDiff, Nat.reduceAdd, Nat.reduceSub, Nat.reduceMul, Nat.reduceLeDiff, Nat.reduceBEq, Nat.reduceBNe, Int.reduceNeg, Int.reduceAdd, Int.reduceSub, Int.reduceToNat, nilTest, shiftH, Blk.ren, V.ren, renL, initV, frameH, putL, frρ, dI, dW, h', hwi]
    rw [hu]
    exact ⟨Good.up hli hG, Weak.sub (by simp [tget, hwi])⟩
  have hx : l[k]? = some l[k] := List.getElem?_eq_getElem hk
  generalize l[k] = x at hx
  have bad : ¬ (itemOk w.now i x = true ∧ x.1 ∉ whosU w i k ∧ ∀ y, 0 < k → l[k - 1]? = some y → ltI y x = true) → rightB w = false := fun h => by
    cases e : rightB w with
    | false => rfl
    | true => exact absurd (right_item ((rightB_iff hs).1 e) hli hx) h
  have h' : ((k : Int) < (l.length : Int)) := by omega
  have hwk : IntKind.i64.wrap ((k : Int) + 1) = ((k + 1 : Nat) : Int) := by rw [wrap_in (by omega)]; omega
  have c1 := c_wh_somebody x.1
  have c2 := c_tick_Right x.2
  simp (maxSteps := 2000000) -implicitDefEqProofs only [zz, zE, evop, ev, ofVal, tget, tput, ok, V.isUndef, intBin, guardOf, initT, Ch.on, calleeOf, withArgs, told, xport, xports, tids, tidss, hget, hput, Blk.ice, freeze, V.cells, D.cells, V.isAgg, V.one, V.clo, clos, V.toD, loadD, structAt, eqCells, D.scalarEq, sliceOf, partsD, partsV, bound, isPtr, Blk.width, elems, lenOf, splice, D.over, resOf, resV, resVs, ↓reduceIte, reduceCtorEq, ↓reduceDIte, Nat.reduceLT, Nat.reduceEqDiff, Nat.reduceAdd, Nat.reduceSub, Nat.reduceMul, Nat.reduceLeDiff, Nat.reduceBEq, Nat.reduceBNe, Int.reduceNeg, Int.reduceAdd, Int.reduceSub, Int.reduceToNat, nilTest, shiftH, Blk.ren, V.ren, renL, initV, frameH, putL, frρ, dI, dW, h', List.getElem?_map, hx, Option.map_some, Int.natCast_nonneg]
  refine wdraw_plan [⟨[], true, [], [], false⟩, ⟨[0], true, [], [], false⟩, ⟨[0, 1], true, [], [], false⟩, ⟨[0, 1, 2], true, [], [], false⟩, ⟨[0, 1, 2, 3], true, [], [], false⟩, ⟨[0, 1, 2, 3, 4], false, [], [], false⟩, ⟨[0, 1, 2, 3, 4, 5], false, [], [], false⟩, ⟨[0, 1, 2, 3, 4, 5, 6], false, [], [], false⟩, ⟨[0, 1, 2, 3, 4, 5, 6, 7], false, [], [], false⟩, ⟨[0, 1, 2, 3, 4, 5, 6, 7, 8], true, [], [], false⟩, ⟨[0, 1, 2, 3, 4, 5, 6, 7, 8, 9], true, [], [], false⟩, ⟨[0, 1, 2, 3, 4, 5, 6, 7, 8, 9, 10], false, [], [], false⟩, ⟨[0, 1, 2, 3, 4, 5, 6, 7, 8, 9, 10, 11], false, [], [], false⟩, ⟨[0, 1, 2, 3, 4, 5, 6, 7, 8, 9, 10, 11, 12], false, [], [], false⟩, ⟨[0, 1, 2, 3, 4, 5, 6, 7, 8, 9, 10, 11, 12, 13], false, [], [], false⟩, ⟨[0, 1, 2, 3, 4, 5, 6, 7, 8, 9, 10, 11, 12, 13, 14], true, [], [], false⟩, ⟨[0, 1, 2, 3, 4, 5, 6, 7, 8, 9, 10, 11, 12, 13, 14, 15], true, [], [], false⟩, ⟨[0, 1, 2, 3, 4, 5, 6, 7, 8, 9, 10, 11, 12, 13, 14, 15, 16], false, [40, 41], [], false⟩, ⟨[0, 1, 2, 3, 4, 5, 6, 7, 8, 9, 10, 11, 12, 13, 14, 15, 16, 17], false, [40, 41], [], false⟩, ⟨[0, 1, 2, 3, 4, 5, 6, 7, 8, 9, 10, 11, 12, 13, 14, 15, 16], false, [38, 39], [17, 18], false⟩, ⟨[0, 1, 2, 3, 4, 5, 6, 7, 8, 9, 10, 11, 12, 13, 14, 15, 16, 19], false, [38, 39], [17, 18], false⟩, ⟨[0, 1, 2, 3, 4, 5, 6, 7, 8, 9, 10, 11, 12, 13, 14, 15, 16, 17, 18, 19, 20], false, [], [], false⟩, ⟨[0, 1, 2, 3, 4, 5, 6, 7, 8, 9, 10, 11, 12, 13, 14, 15, 16, 17, 18, 19, 20, 21], true, [], [], false⟩, ⟨[0, 1, 2, 3, 4, 5, 6, 7, 8, 9, 10, 11, 12, 13, 14, 15, 16, 17, 18, 19, 20, 21, 22], true, [], [], false⟩, ⟨[0, 1, 2, 3, 4, 5, 6, 7, 8, 9, 10, 11, 12, 13, 14, 15, 16, 17, 18, 19, 20, 21, 22, 23], false, [48], [], false⟩, ⟨[0, 1, 2, 3, 4, 5, 6, 7, 8, 9, 10, 11, 12, 13, 14, 15, 16, 17, 18, 19, 20, 21, 22, 23, 24], false, [48], [], false⟩, ⟨[0, 1, 2, 3, 4, 5, 6, 7, 8, 9, 10, 11, 12, 13, 14, 15, 16, 17, 18, 19, 20, 21, 22, 23, 24, 25], false, [48], [], false⟩, ⟨[0, 1, 2, 3, 4, 5, 6, 7, 8, 9, 10, 11, 12, 13, 14, 15, 16, 17, 18, 19, 20, 21, 22, 23], false, [45, 46, 47], [24, 25, 26], false⟩, ⟨[0, 1, 2, 3, 4, 5, 6, 7, 8, 9, 10, 11, 12, 13, 14, 15, 16, 17, 18, 19, 20, 21, 22, 23, 24, 25, 26, 27], false, [], [], false⟩, ⟨[0, 1, 2, 3, 4, 5, 6, 7, 8, 9, 10, 11, 12, 13, 14, 15, 16, 17, 18, 19, 20, 21, 22, 23, 24, 25, 26, 27, 28], true, [], [], false⟩, ⟨[0, 1, 2, 3, 4, 5, 6, 7, 8, 9, 10, 11, 12, 13, 14, 15, 16, 17, 18, 19, 20, 21, 22, 23, 24, 25, 26, 27, 28, 29], true, [], [], false⟩, ⟨[0, 1, 2, 3, 4, 5, 6, 7, 8, 9, 10, 11, 12, 13, 14, 15, 16, 17, 18, 19, 20, 21, 22, 23, 24, 25, 26, 27, 28, 29, 30], false, [], [], false⟩, ⟨[0, 1, 2, 3, 4, 5, 6, 7, 8, 9, 10, 11, 12, 13, 14, 15, 16, 17, 18, 19, 20, 21, 22, 23, 24, 25, 26, 27, 28, 29, 30, 31], false, [], [], false⟩, ⟨[0, 1, 2, 3, 4, 5, 6, 7, 8, 9, 10, 11, 12, 13, 14, 15, 16, 17, 18, 19, 20, 21, 22, 23, 24, 25, 26, 27, 28, 29, 30, 31, 32], false, [], [], false⟩, ⟨[0, 1, 2, 3, 4, 5, 6, 7, 8, 9, 10, 11, 12, 13, 14, 15, 16, 17, 18, 19, 20, 21, 22, 23, 24, 25, 26, 27, 28, 29, 30, 31, 32, 33], false, [56, 57, 60], [], false⟩, ⟨[0, 1, 2, 3, 4, 5, 6, 7, 8, 9, 10, 11, 12, 13, 14, 15, 16, 17, 18, 19, 20, 21, 22, 23, 24, 25, 26, 27, 28, 29, 30, 31, 32, 33], false, [55, 60], [34], false⟩, ⟨[0, 1, 2, 3, 4, 5, 6, 7, 8, 9, 10, 11, 12, 13, 14, 15, 16, 17, 18, 19, 20, 21, 22, 23, 24, 25, 26, 27, 28, 29, 30, 31, 32, 33, 35], false, [55, 60], [34], false⟩, ⟨[0, 1, 2, 3, 4, 5, 6, 7, 8, 9, 10, 11, 12, 13, 14, 15, 16, 17, 18, 19, 20, 21, 22, 23, 24, 25, 26, 27, 28, 29, 30, 31, 32, 33, 34, 35, 36], false, [60], [], false⟩, ⟨[0, 1, 2, 3, 4, 5, 6, 7, 8, 9, 10, 11, 12, 13, 14, 15, 16, 17, 18, 19, 20, 21, 22, 23, 24, 25, 26, 27, 28, 29, 30, 31, 32, 33, 34, 35, 36, 37], false, [60], [], false⟩, ⟨[0, 1, 2, 3, 4, 5, 6, 7, 8, 9, 10, 11, 12, 13, 14, 15, 16, 17, 18, 19, 20, 21, 22, 23, 24, 25, 26, 27, 28, 29, 30, 31, 32, 33], false, [55, 56, 57, 58, 59], [34, 35, 36, 37, 38], false⟩, ⟨[0, 1, 2, 3, 4, 5, 6, 7, 8, 9, 10, 11, 12, 13, 14, 15, 16, 17, 18, 19, 20, 21, 22, 23, 24, 25, 26, 27, 28, 29, 30, 31, 32, 33, 34, 35, 36, 37, 38, 39], false, [], [], false⟩, ⟨[0, 1, 2, 3, 4, 5, 6, 7, 8, 9, 10, 11, 12, 13, 14, 15, 16, 17, 18, 19, 20, 21, 22, 23, 24, 25, 26, 27, 28, 29, 30, 31, 32, 33, 34, 35, 36, 37, 38, 39, 40], false, [], [], false⟩, ⟨[0, 1, 2, 3, 4, 5, 6, 7, 8, 9, 10, 11, 12, 13, 14, 15, 16, 17, 18, 19, 20, 21, 22, 23, 24, 25, 26, 27, 28, 29, 30, 31, 32, 33, 34, 35, 36, 37, 38, 39, 40, 41], false, [], [], false⟩, ⟨[0, 1, 2, 3, 4, 5, 6, 7, 8, 9, 10, 11, 12, 13, 14, 15, 16, 17, 18, 19, 20, 21, 22, 23, 24, 25, 26, 27, 28, 29, 30, 31, 32, 33, 34, 35, 36, 37, 38, 39, 40, 41, 42], true, [], [], false⟩] (by decide) ?_
  simp (maxSteps := 2000000) -implicitDefEqProofs only [zz, zE, evop, ev, ofVal, tget, tput, ok, V.isUndef, intBin, guardOf, initT, Ch.on, calleeOf, withArgs, told, xport, xports, tids, tidss, hget, hput, Blk.ice, freeze, V.cells, D.cells, V.isAgg, V.one, V.clo, clos, V.toD, loadD, structAt, eqCells, D.scalarEq, sliceOf, partsD, partsV, bound, isPtr, Blk.width, elems, lenOf, splice, D.over, resOf, resV, resVs, ↓reduceIte, reduceCtorEq, ↓reduceDIte, Nat.reduceLT, Nat.reduceEqDiff, Nat.reduceAdd, Nat.reduceSub, Nat.reduceMul, Nat.reduceLeDiff, Nat.reduceBEq, Nat.reduceBNe, Int.reduceNeg, Int.reduceAdd, Int.reduceSub, Int.reduceToNat, nilTest, shiftH, Blk.ren, V.ren, renL, initV, frameH, putL, frρ, dI, dW]
  first | refine acall_flat' (c1) rfl ?_ | refine dcall_flat' (c1) rfl ?_ | refine acall_ice' (c1) ?_ | refine dcall_still' (c1) rfl ?_
  try simp (maxSteps := 2000000) -implicitDefEqProofs only [zz, zE, evop, ev, ofVal, tget, tput, ok, V.isUndef, intBin, guardOf, initT, Ch.on, calleeOf, withArgs, told, xport, xports, tids, tidss, hget, hput, Blk.ice, freeze, V.cells, D.cells, V.isAgg, V.one, V.clo, clos, V.toD, loadD, structAt, eqCells, D.scalarEq, sliceOf, partsD, partsV, bound, isPtr, Blk.width, elems, lenOf, splice, D.over, resOf, resV, resVs, ↓reduceIte, reduceCtorEq, ↓reduceDIte, Nat.reduceLT, Nat.reduceEqDiff, Nat.reduceAdd, Nat.reduceSub, Nat.reduceMul, Nat.reduceLeDiff, Nat.reduceBEq, Nat.reduceBNe, Int.reduceNeg, Int.reduceAdd, Int.reduceSub, Int.reduceToNat, nilTest, shiftH, Blk.ren, V.ren, renL, initV, frameH, putL, frρ, dI, dW]
  cases e1 : whB x.1 with
  | false =>
    simp (maxSteps := 2000000) -implicitDefEqProofs only [zz, zE, evop, ev, ofVal, tget, tput, ok, V.isUndef, intBin, guardOf, initT, Ch.on, calleeOf, withArgs, told, xport, xports, tids, tidss, hget, hput, Blk.ice, freeze, V.cells, D.cells, V.isAgg, V.one, V.clo, clos, V.toD, loadD, structAt, eqCells, D.scalarEq, sliceOf, partsD, partsV, bound, isPtr, Blk.width, elems, lenOf, splice, D.over, resOf, resV, resVs, ↓reduceIte, reduceCtorEq, ↓reduceDIte, Nat.reduceLT, Nat.reduceEqDiff, Nat.reduceAdd, Nat.reduceSub, Nat.reduceMul, Nat.reduceLeDiff, Nat.reduceBEq, Nat.reduceBNe, Int.reduceNeg, Int.reduceAdd, Int.reduceSub, Int.reduceToNat, nilTest, shiftH, Blk.ren, V.ren, renL, initV, frameH, putL, frρ, dI, dW]
    rw [bad (fun h => by have := h.1; simp [itemOk, e1] at this)]
  | true =>
  have hx8 : 1 ≤ x.1 ∧ x.1 ≤ 8 := by simpa [whB] using e1
  have hsg := seenB_get (ws := whosU w i k) (n := x.1) (by omega) (by omega)
  have hst := seenB_set (ws := whosU w i k) (n := x.1) (by omega) (by omega)
  by_cases e2 : x.1 ∈ whosU w i k
  · rw [decide_eq_true e2] at hsg
    simp (maxSteps := 2000000) -implicitDefEqProofs only [zz, zE, evop, ev, ofVal, tget, tput, ok, V.isUndef, intBin, guardOf, initT, Ch.on, calleeOf, withArgs, told, xport, xports, tids, tidss, hget, hput, Blk.ice, freeze, V.cells, D.cells, V.isAgg, V.one, V.clo, clos, V.toD, loadD, structAt, eqCells, D.scalarEq, sliceOf, partsD, partsV, bound, isPtr, Blk.width, elems, lenOf, splice, D.over, resOf, resV, resVs, ↓reduceIte, reduceCtorEq, ↓reduceDIte, Nat.reduceLT, Nat.reduceEqDiff, Nat.reduceAdd, Nat.reduceSub, Nat.reduceMul, Nat.reduceLeDiff, Nat.reduceBEq, Nat.reduceBNe, Int.reduceNeg, Int.reduceAdd, Int.reduceSub, Int.reduceToNat, nilTest, shiftH, Blk.ren, V.ren, renL, initV, frameH, putL, frρ, dI, dW, bSeen, Nat.mul_one, List.getElem?_map, hsg, Option.map_some]
    refine ⟨⟨by omega, by omega⟩, ?_⟩
    rw [bad (fun h => h.2.1 e2)]
  rw [decide_eq_false e2] at hsg
  simp (maxSteps := 2000000) -implicitDefEqProofs only [zz, zE, evop, ev, ofVal, tget, tput, ok, V.isUndef, intBin, guardOf, initT, Ch.on, calleeOf, withArgs, told, xport, xports, tids, tidss, hget, hput, Blk.ice, freeze, V.cells, D.cells, V.isAgg, V.one, V.clo, clos, V.toD, loadD, structAt, eqCells, D.scalarEq, sliceOf, partsD, partsV, bound, isPtr, Blk.width, elems, lenOf, splice, D.over, resOf, resV, resVs, ↓reduceIte, reduceCtorEq, ↓reduceDIte, Nat.reduceLT, Nat.reduceEqDiff, Nat.reduceAdd, Nat.reduceSub, Nat.reduceMul, Nat.reduceLeDiff, Nat.reduceBEq, Nat.reduceBNe, Int.reduceNeg, Int.reduceAdd, Int.reduceSub, Int.reduceToNat, nilTest, shiftH, Blk.ren, V.ren, renL, initV, frameH, putL, frρ, dI, dW, bSeen, Nat.mul_one, List.getElem?_map, hsg, Option.map_some]
  refine ⟨⟨by omega, by omega⟩, ?_⟩
  first | refine acall_flat' (c2) rfl ?_ | refine dcall_flat' (c2) rfl ?_ | refine acall_ice' (c2) ?_ | refine dcall_still' (c2) rfl ?_
  try simp (maxSteps := 2000000) -implicitDefEqProofs only [zz, zE, evop, ev, ofVal, tget, tput, ok, V.isUndef, intBin, guardOf, initT, Ch.on, calleeOf, withArgs, told, xport, xports, tids, tidss, hget, hput, Blk.ice, freeze, V.cells, D.cells, V.isAgg, V.one, V.clo, clos, V.toD, loadD, structAt, eqCells, D.scalarEq, sliceOf, partsD, partsV, bound, isPtr, Blk.width, elems, lenOf, splice, D.over, resOf, resV, resVs, ↓reduceIte, reduceCtorEq, ↓reduceDIte, Nat.reduceLT, Nat.reduceEqDiff, Nat.reduceAdd, Nat.reduceSub, Nat.reduceMul, Nat.reduceLeDiff, Nat.reduceBEq, Nat.reduceBNe, Int.reduceNeg, Int.reduceAdd, Int.reduceSub, Int.reduceToNat, nilTest, shiftH, Blk.ren, V.ren, renL, initV, frameH, putL, frρ, dI, dW]
  cases e3 : tickR x.2 with
  | false =>
    simp (maxSteps := 2000000) -implicitDefEqProofs only [zz, zE, evop, ev, ofVal, tget, tput, ok, V.isUndef, intBin, guardOf, initT, Ch.on, calleeOf, withArgs, told, xport, xports, tids, tidss, hget, hput, Blk.ice, freeze, V.cells, D.cells, V.isAgg, V.one, V.clo, clos, V.toD, loadD, structAt, eqCells, D.scalarEq, sliceOf, partsD, partsV, bound, isPtr, Blk.width, elems, lenOf, splice, D.over, resOf, resV, resVs, ↓reduceIte, reduceCtorEq, ↓reduceDIte, Nat.reduceLT, Nat.reduceEqDiff, Nat.reduceAdd, Nat.reduceSub, Nat.reduceMul, Nat.reduceLeDiff, Nat.reduceBEq, Nat.reduceBNe, Int.reduceNeg, Int.reduceAdd, Int.reduceSub, Int.reduceToNat, nilTest, shiftH, Blk.ren, V.ren, renL, initV, frameH, putL, frρ, dI, dW]
    rw [bad (fun h => by have := h.1; simp [itemOk, e3] at this)]
  | true =>
  by_cases e4 : x.2 ≤ w.now
  · simp (maxSteps := 2000000) -implicitDefEqProofs only [zz, zE, evop, ev, ofVal, tget, tput, ok, V.isUndef, intBin, guardOf, initT, Ch.on, calleeOf, withArgs, told, xport, xports, tids, tidss, hget, hput, Blk.ice, freeze, V.cells, D.cells, V.isAgg, V.one, V.clo, clos, V.toD, loadD, structAt, eqCells, D.scalarEq, sliceOf, partsD, partsV, bound, isPtr, Blk.width, elems, lenOf, splice, D.over, resOf, resV, resVs, ↓reduceIte, reduceCtorEq, ↓reduceDIte, Nat.reduceLT, Nat.reduceEqDiff, Nat.reduceAdd, Nat.reduceSub, Nat.reduceMul, Nat.reduceLeDiff, Nat.reduceBEq, Nat.reduceBNe, Int.reduceNeg, Int.reduceAdd, Int.reduceSub, Int.reduceToNat, nilTest, shiftH, Blk.ren, V.ren, renL, initV, frameH, putL, frρ, dI, dW, bWh, e4]
    rw [bad (fun h => by have := h.1; simp [itemOk] at this; omega)]
  by_cases e5 : x.2.tmod 8 = (i : Int)
  case neg =>
    have e5' : (x.2.tmod 8 != (i : Int)) = true := by simpa using e5
    simp (maxSteps := 2000000) -implicitDefEqProofs only [zz, zE, evop, ev, ofVal, tget, tput, ok, V.isUndef, intBin, guardOf, initT, Ch.on, calleeOf, withArgs, told, xport, xports, tids, tidss, hget, hput, Blk.ice, freeze, V.cells, D.cells, V.isAgg, V.one, V.clo, clos, V.toD, loadD, structAt, eqCells, D.scalarEq, sliceOf, partsD, partsV, bound, isPtr, Blk.width, elems, lenOf, splice, D.over, resOf, resV, resVs, ↓reduceIte, reduceCtorEq, ↓reduceDIte, Nat.reduceLT, Nat.reduceEqDiff, Nat.reduceAdd, Nat.reduceSub, Nat.reduceMul, Nat.reduceLeDiff, Nat.reduceBEq, Nat.reduceBNe, Int.reduceNeg, Int.reduceAdd, Int.reduceSub, Int.reduceToNat, nilTest, shiftH, Blk.ren, V.ren, renL, initV, frameH, putL, frρ, dI, dW, bWh, e4, e5']
    refine ⟨by decide, ?_⟩
    rw [bad (fun h => e5 (itemOk_mod h.1))]
  have e5' : (x.2.tmod 8 != (i : Int)) = false := by simpa using e5
  have hio : itemOk w.now i x = true := by
    have : w.now < x.2 := by omega
    simp [itemOk, e1, e3, e5, this]
  have hus := whosU_succ hli hx
  have hzz : ((List.map (fun b => V.d (.bool b)) (seenB (whosU w i k))).set x.1.toNat (V.d (.bool true))) = (seenB (whosU w i (k + 1))).map fun b => V.d (.bool b) := by
    rw [hus, ← hst, List.map_set]
  have hspl : List.take x.1.toNat (List.map (fun b => V.d (.bool b)) (seenB (whosU w i k))) ++ [V.d (.bool true)] ++ List.drop (x.1.toNat + 1) (List.map (fun b => V.d (.bool b)) (seenB (whosU w i k))) = (seenB (whosU w i (k + 1))).map fun b => V.d (.bool b) := by
    rw [← hzz]
    rw [List.set_eq_take_append_cons_drop, if_pos (by simp [seenB]; omega)]
    simp
  have hlen9 : (seenB (whosU w i k)).length = 9 := by simp [seenB]
  have hj9 : x.1.toNat + 1 ≤ 9 := by omega
  rcases Nat.eq_zero_or_pos k with h0 | h0
  · have hk0 : ¬ ((0 : Int) < (k : Int)) := by omega
    have hgood := hG.next hli hx hio e2 (fun y hy => by omega)
    simp (maxSteps := 2000000) -implicitDefEqProofs only [zz, zE, evop, ev, ofVal, tget, tput, ok, V.isUndef, intBin, guardOf, initT, Ch.on, calleeOf, withArgs, told, xport, xports, tids, tidss, hget, hput, Blk.ice, freeze, V.cells, D.cells, V.isAgg, V.one, V.clo, clos, V.toD, loadD, structAt, eqCells, D.scalarEq, sliceOf, partsD, partsV, bound, isPtr, Blk.width, elems, lenOf, splice, D.over, resOf, resV, resVs, ↓reduceIte, reduceCtorEq, ↓reduceDIte, Nat.reduceLT, Nat.reduceEqDiff, Nat.reduceAdd, Nat.reduceSub, Nat.reduceMul, Nat.reduceLeDiff, Nat.reduceBEq, Nat.reduceBNe, Int.reduceNeg, Int.reduceAdd, Int.reduceSub, Int.reduceToNat, nilTest, shiftH, Blk.ren, V.ren, renL, initV, frameH, putL, frρ, dI, dW, bWh, e4, e5', hk0, bSeen, Nat.mul_one, List.length_map, hlen9, hj9, hspl, hwk]
    exact ⟨by decide, ⟨by omega, by omega⟩, hgood, Weak.trims 2 rfl (by simp [tget, V.lower, lower_slots, hwk]) (by simp [Blk.lower, lowerL, V.lower, lower_slots, lowerL_b])⟩
  · have hk0 : ((0 : Int) < (k : Int)) := by omega
    have hw1 : IntKind.i64.wrap ((k : Int) - 1) = ((k - 1 : Nat) : Int) := by rw [wrap_in (by omega)]; omega
    obtain ⟨y, hy⟩ : ∃ y, l[k - 1]? = some y := ⟨_, List.getElem?_eq_getElem (by omega)⟩
    have c3 := c_It_ahead y x
    unfold dW at c3
    have hlt := cmpT_neg y x
    simp (maxSteps := 2000000) -implicitDefEqProofs only [zz, zE, evop, ev, ofVal, tget, tput, ok, V.isUndef, intBin, guardOf, initT, Ch.on, calleeOf, withArgs, told, xport, xports, tids, tidss, hget, hput, Blk.ice, freeze, V.cells, D.cells, V.isAgg, V.one, V.clo, clos, V.toD, loadD, structAt, eqCells, D.scalarEq, sliceOf, partsD, partsV, bound, isPtr, Blk.width, elems, lenOf, splice, D.over, resOf, resV, resVs, ↓reduceIte, reduceCtorEq, ↓reduceDIte, Nat.reduceLT, Nat.reduceEqDiff, Nat.reduceAdd, Nat.reduceSub, Nat.reduceMul, Nat.reduceLeDiff, Nat.reduceBEq, Nat.reduceBNe, Int.reduceNeg, Int.reduceAdd, Int.reduceSub, Int.reduceToNat, nilTest, shiftH, Blk.ren, V.ren, renL, initV, frameH, putL, frρ, dI, dW, bWh, e4, e5', hk0, hw1, List.getElem?_map, hy, Option.map_some, Int.natCast_nonneg]
    refine ⟨by decide, ?_⟩
    first | refine acall_flat' (c3) rfl ?_ | refine dcall_flat' (c3) rfl ?_ | refine acall_ice' (c3) ?_ | refine dcall_still' (c3) rfl ?_
    try simp (maxSteps := 2000000) -implicitDefEqProofs only [zz, zE, evop, ev, ofVal, tget, tput, ok, V.isUndef, intBin, guardOf, initT, Ch.on, calleeOf, withArgs, told, xport, xports, tids, tidss, hget, hput, Blk.ice, freeze, V.cells, D.cells, V.isAgg, V.one, V.clo, clos, V.toD, loadD, structAt, eqCells, D.scalarEq, sliceOf, partsD, partsV, bound, isPtr, Blk.width, elems, lenOf, splice, D.over, resOf, resV, resVs, ↓reduceIte, reduceCtorEq, ↓reduceDIte, Nat.reduceLT, Nat.reduceEqDiff, Nat.reduceAdd, Nat.reduceSub, Nat.reduceMul, Nat.reduceLeDiff, Nat.reduceBEq, Nat.reduceBNe, Int.reduceNeg, Int.reduceAdd, Int.reduceSub, Int.reduceToNat, nilTest, shiftH, Blk.ren, V.ren, renL, initV, frameH, putL, frρ, dI, dW]
    by_cases e6 : cmpT y x < 0
    case neg =>
      have e6' : cmpT y x ≥ 0 := by omega
      rw [decide_eq_false e6] at hlt
      simp (maxSteps := 2000000) -implicitDefEqProofs only [zz, zE, evop, ev, ofVal, tget, tput, ok, V.isUndef, intBin, guardOf, initT, Ch.on, calleeOf, withArgs, told, xport, xports, tids, tidss, hget, hput, Blk.ice, freeze, V.cells, D.cells, V.isAgg, V.one, V.clo, clos, V.toD, loadD, structAt, eqCells, D.scalarEq, sliceOf, partsD, partsV, bound, isPtr, Blk.width, elems, lenOf, splice, D.over, resOf, resV, resVs, ↓reduceIte, reduceCtorEq, ↓reduceDIte, Nat.reduceLT, Nat.reduceEqDiff, Nat.reduceAdd, Nat.reduceSub, Nat.reduceMul, Nat.reduceLeDiff, Nat.reduceBEq, Nat.reduceBNe, Int.reduceNeg, Int.reduceAdd, Int.reduceSub, Int.reduceToNat, nilTest, shiftH, Blk.ren, V.ren, renL, initV, frameH, putL, frρ, dI, dW, e6']
      rw [bad (fun h => by have := h.2.2 y h0 hy; rw [← hlt] at this; cases this)]
    have e6' : ¬ (cmpT y x ≥ 0) := by omega
    rw [decide_eq_true e6] at hlt
    have hgood := hG.next hli hx hio e2 (fun z _ hz => by rw [hy] at hz; cases hz; exact hlt.symm)
    simp (maxSteps := 2000000) -implicitDefEqProofs only [zz, zE, evop, ev, ofVal, tget, tput, ok, V.isUndef, intBin, guardOf, initT, Ch.on, calleeOf, withArgs, told, xport, xports, tids, tidss, hget, hput, Blk.ice, freeze, V.cells, D.cells, V.isAgg, V.one, V.clo, clos, V.toD, loadD, structAt, eqCells, D.scalarEq, sliceOf, partsD, partsV, bound, isPtr, Blk.width, elems, lenOf, splice, D.over, resOf, resV, resVs, ↓reduceIte, reduceCtorEq, ↓reduceDIte, Nat.reduceLT, Nat.reduceEqDiff, Nat.reduceAdd, Nat.reduceSub, Nat.reduceMul, Nat.reduceLeDiff, Nat.reduceBEq, Nat.reduceBNe, Int.reduceNeg, Int.reduceAdd, Int.reduceSub, Int.reduceToNat, nilTest, shiftH, Blk.ren, V.ren, renL, initV, frameH, putL, frρ, dI, dW, e6', bSeen, Nat.mul_one, List.length_map, hlen9, hj9, hspl, hwk]
    exact ⟨⟨by omega, by omega⟩, hgood, Weak.trims 2 rfl (by simp [tget, V.lower, lower_slots, hwk]) (by simp [Blk.lower, lowerL, V.lower, lower_slots, lowerL_b])⟩
end Go.Proofs.Ytaejlmengfahnaa.AM

set_option linter.all false
set_option maxRecDepth 100000
set_option maxHeartbeats 8000000
namespace Go.Proofs.Ytaejlmengfahnaa.AM
open Go Go.RowKit

theorem flatten_snoc {w : Wh} {i : Nat} {l : List (Int × Int)} (h : w.slots[i]? = some l) : (w.slots.take (i + 1)).flatten = (w.slots.take i).flatten ++ l := by
  rw [List.take_succ, h]; simp
theorem flatten_le {w : Wh} (i : Nat) : (w.slots.take i).flatten.length ≤ w.slots.flatten.length := by
  have : w.slots.flatten = (w.slots.take i).flatten ++ (w.slots.drop i).flatten := by rw [← List.flatten_append, List.take_append_drop]
  rw [this, List.length_append]; omega
theorem ren_slots {ρ : Nat → Nat} {H' : Heap} (w : Wh) : Ren ρ H' (.agg (slotsV w)) (.agg (slotsV w)) := by
  have := Ren.same (ρ := ρ) (H' := H') (.agg (slotsV w))
  have e : (V.agg (slotsV w)).ren ρ = .agg (slotsV w) := by simp only [V.ren, slotsV, renL_ds]
  rw [e] at this; exact this
theorem o_wh_all (w : Wh) (hs : w.slots.length = 8) (hf : w.slots.flatten.length ≤ 12) : FSpec Try.prog 42 [dWh w] (.own 0 0 w.slots.flatten.length) [.dat false 2 ((itemsW w).map dW)] := by
  have hsl : (slotsV w).length = 8 := by simp [slotsV, hs]
  have hs8 : 8 ≤ w.slots.length := by omega
  have ht8 : List.take 8 (List.map V.d (List.map (fun l => D.vec (List.map dW l)) w.slots)) = slotsV w := List.take_of_length_le (by simp [hs])
  refine FSpec.of_awp envOf_ok hmix Try.func42 rfl (fun args w => Try.call42 args w) (by simp [Try.f42]) ?_
  simp only [Try.f42]
  simp (maxSteps := 2000000) -implicitDefEqProofs only [zz, zE, evop, ev, ofVal, tget, tput, ok, V.isUndef, intBin, guardOf, initT, Ch.on, calleeOf, withArgs, told, xport, xports, tids, tidss, hget, hput, Blk.ice, freeze, V.cells, D.cells, V.isAgg, V.one, V.clo, clos, V.toD, loadD, structAt, eqCells, D.scalarEq, sliceOf, partsD, partsV, bound, isPtr, Blk.width, elems, lenOf, splice, D.over, resOf, resV, resVs, ↓reduceIte, reduceCtorEq, ↓reduceDIte, Nat.reduceLT, Nat.reduceEqDiff, Nat.reduceAdd, Nat.reduceSub, Nat.reduceMul, Nat.reduceLeDiff, Nat.reduceBEq, Nat.reduceBNe, Int.reduceNeg, Int.reduceAdd, Int.reduceSub, Int.reduceToNat, nilTest, shiftH, Blk.ren, V.ren, renL, initV, frameH, putL, frρ, dI, dW]
  unfold dWh
  simp (maxSteps := 2000000) -implicitDefEqProofs only [zz, zE, evop, ev, ofVal, tget, tput, ok, V.isUndef, intBin, guardOf, initT, Ch.on, calleeOf, withArgs, told, xport, xports, tids, tidss, hget, hput, Blk.ice, freeze, V.cells, D.cells, V.isAgg, V.one, V.clo, clos, V.toD, loadD, structAt, eqCells, D.scalarEq, sliceOf, partsD, partsV, bound, isPtr, Blk.width, elems, lenOf, splice, D.over, resOf, resV, resVs, ↓reduceIte, reduceCtorEq, ↓reduceDIte, Nat.reduceLT, Nat.reduceEqDiff, Nat.reduceAdd, Nat.reduceSub, Nat.reduceMul, Nat.reduceLeDiff, Nat.reduceBEq, Nat.reduceBNe, Int.reduceNeg, Int.reduceAdd, Int.reduceSub, Int.reduceToNat, nilTest, shiftH, Blk.ren, V.ren, renL, initV, frameH, putL, frρ, dI, dW, hs8, ht8]
  refine wloop_count 8 (fun i => [(8, .d (.int .i64 i)), (7, .agg (slotsV w)), (3, .own 0 0 ((w.slots.take i).flatten.length))]) (fun i => [.dat false 2 (((w.slots.take i).flatten).map dW)]) (fun _ => True) trivial ?_ (fun i hi _ => ?_) (fun _ => ?_)
  · refine Weak.pick [20] (by simp) (by simp) rfl (fun q hq => ?_) (fun i hi => ?_)
    · simp only [List.mem_cons, List.not_mem_nil, or_false] at hq
      rcases hq with rfl | rfl | rfl
      · exact .same _
      · exact ren_slots w
      · exact .nils 0 2 rfl
    · obtain rfl : i = 0 := by simpa using hi
      exact .virt 2 rfl rfl
  · obtain ⟨l, hli⟩ : ∃ l, w.slots[i]? = some l := ⟨_, List.getElem?_eq_getElem (by omega)⟩
    have h' : ((i : Int) < 8) := by omega
    have hgi : (slotsV w).getD i (.d .undef) = .d (.vec (l.map dW)) := by
      unfold slotsV
      rw [List.getD_eq_getElem?_getD, List.getElem?_map, List.getElem?_map, hli]; rfl
    have hwi : IntKind.i64.wrap ((i : Int) + 1) = ((i + 1 : Nat) : Int) := by rw [wrap_in (by omega)]; omega
    have hfs := flatten_snoc hli
    simp (maxSteps := 2000000) -implicitDefEqProofs only [zz, zE, evop, ev, ofVal, tget, tput, ok, V.isUndef, intBin, guardOf, initT, Ch.on, calleeOf, withArgs, told, xport, xports, tids, tidss, hget, hput, Blk.ice, freeze, V.cells, D.cells, V.isAgg, V.one, V.clo, clos, V.toD, loadD, structAt, eqCells, D.scalarEq, sliceOf, partsD, partsV, bound, isPtr, Blk.width, elems, lenOf, splice, D.over, resOf, resV, resVs, ↓reduceIte, reduceCtorEq, ↓reduceDIte, Nat.reduceLT, Nat.reduceEqDiff, Nat.reduceAdd, Nat.reduceSub, Nat.reduceMul, Nat.reduceLeDiff, Nat.reduceBEq, Nat.reduceBNe, Int.reduceNeg, Int.reduceAdd, Int.reduceSub, Int.reduceToNat, nilTest, shiftH, Blk.ren, V.ren, renL, initV, frameH, putL, frρ, dI, dW, h', hsl, hgi, Int.toNat_natCast, hwi]
    have e1 : List.take (List.take i w.slots).flatten.length (List.map dW (List.take i w.slots).flatten) ++ List.map dW l = List.map dW (List.take (i + 1) w.slots).flatten := by
      rw [List.take_of_length_le (by rw [List.length_map]; exact Nat.le_refl _), ← List.map_append, hfs]
    have e2 : (List.take i w.slots).flatten.length + l.length = (List.take (i + 1) w.slots).flatten.length := by rw [hfs, List.length_append]
    have e3 := flatten_le (w := w) (i + 1)
    rw [e1, e2]
    refine ⟨⟨by omega, by omega⟩, ⟨by omega, okEl_T l⟩, ?_⟩
    refine Weak.pick [1] (by decide) (by simp) rfl (fun q hq => ?_) (fun i hi => ?_)
    · simp only [List.mem_cons, List.not_mem_nil, or_false] at hq
      rcases hq with rfl | rfl | rfl
      · exact .same _
      · exact ren_slots w
      · exact .same _
    · obtain rfl : i = 0 := by simpa using hi
      exact .dat _ _ _ rfl rfl
  · have h' : ¬ (((8 : Nat) : Int) < 8) := by omega
    have h8 : List.take 8 w.slots = w.slots := List.take_of_length_le (by omega)
    have hso := r_SortFunc_I w.slots.flatten hf 32 cmpT c_It_ahead
    rw [h8]
    simp (maxSteps := 2000000) -implicitDefEqProofs only [zz, zE, evop, ev, ofVal, tget, tput, ok, V.isUndef, intBin, guardOf, initT, Ch.on, calleeOf, withArgs, told, xport, xports, tids, tidss, hget, hput, Blk.ice, freeze, V.cells, D.cells, V.isAgg, V.one, V.clo, clos, V.toD, loadD, structAt, eqCells, D.scalarEq, sliceOf, partsD, partsV, bound, isPtr, Blk.width, elems, lenOf, splice, D.over, resOf, resV, resVs, ↓reduceIte, reduceCtorEq, ↓reduceDIte, Nat.reduceLT, Nat.reduceEqDiff, Nat.reduceAdd, Nat.reduceSub, Nat.reduceMul, Nat.reduceLeDiff, Nat.reduceBEq, Nat.reduceBNe, Int.reduceNeg, Int.reduceAdd, Int.reduceSub, Int.reduceToNat, nilTest, shiftH, Blk.ren, V.ren, renL, initV, frameH, putL, frρ, dI, dW, h']
    refine acall_ref [0] (hso) (by first | rfl | simp [renL, V.ren, frρ, renL_ds]) (by simp) rfl (by simp) (by simp) (by intro j hj; match j, hj with | 0, _ => exact ⟨by simp [hget], rfl⟩) ?_
    try simp (maxSteps := 2000000) -implicitDefEqProofs only [zz, zE, evop, ev, ofVal, tget, tput, ok, V.isUndef, intBin, guardOf, initT, Ch.on, calleeOf, withArgs, told, xport, xports, tids, tidss, hget, hput, Blk.ice, freeze, V.cells, D.cells, V.isAgg, V.one, V.clo, clos, V.toD, loadD, structAt, eqCells, D.scalarEq, sliceOf, partsD, partsV, bound, isPtr, Blk.width, elems, lenOf, splice, D.over, resOf, resV, resVs, ↓reduceIte, reduceCtorEq, ↓reduceDIte, Nat.reduceLT, Nat.reduceEqDiff, Nat.reduceAdd, Nat.reduceSub, Nat.reduceMul, Nat.reduceLeDiff, Nat.reduceBEq, Nat.reduceBNe, Int.reduceNeg, Int.reduceAdd, Int.reduceSub, Int.reduceToNat, nilTest, shiftH, Blk.ren, V.ren, renL, initV, frameH, putL, frρ, dI, dW]
    exact Weak.sub (by simp [tget])

theorem c_wh_all (w : Wh) (hs : w.slots.length = 8) (hf : w.slots.flatten.length ≤ 12) : CSpec Try.prog 42 [dWh w] (.vec ((itemsW w).map dW)) := by
  refine FSpec.cspec (o_wh_all w hs hf) ?_
  simp only [xport, hget, List.drop_zero]
  rw [List.take_of_length_le (by rw [List.length_map, itemsW_len]; exact Nat.le_refl _)]

theorem tidss_ds {H : Heap} : ∀ (k : Nat) (l : List D), tidss H k (l.map V.d) = []
  | 0, l => by simp [tidss]
  | k + 1, [] => rfl
  | k + 1, x :: l => by
    have h : tids H k (V.d x) = [] := by cases k <;> simp [tids]
    simp only [List.map_cons, tidss, h, tidss_ds k l, List.nil_append]
theorem tidss_slots {H : Heap} (k : Nat) (w : Wh) : tidss H k (slotsV w) = [] := tidss_ds k _
theorem xport_wh {H : Heap} (w : Wh) (hs : w.slots.length = 8) : xport H 39 (.agg (V.d (.int .i64 w.now) :: slotsV w)) = some (dWh w) := by
  have h := xports_ds (H := H) (D.int .i64 w.now :: w.slots.map fun l => D.vec (l.map dW)) 38 (by simp [hs])
  rw [List.map_cons] at h
  show (match xports H 38 (V.d (.int .i64 w.now) :: slotsV w) with
    | some ds => some (D.agg ds)
    | none => none) = _
  unfold slotsV
  rw [h]; rfl
theorem c_has1 (x : Int × Int) (who : Int) : CSpec Try.prog 46 [dW x, .imm (.agg [.int .i64 who]) 0] (.bool (x.1 == who)) := by
  refine CSpec.of_awp envOf_ok hmix Try.func46 rfl (fun args w => Try.call46 args w) (by simp [Try.f46]) ?_
  simp only [Try.f46]
  simp (maxSteps := 2000000) -implicitDefEqProofs only [zz, zE, evop, ev, ofVal, tget, tput, ok, V.isUndef, intBin, guardOf, initT, Ch.on, calleeOf, withArgs, told, xport, xports, tids, tidss, hget, hput, Blk.ice, freeze, V.cells, D.cells, V.isAgg, V.one, V.clo, clos, V.toD, loadD, structAt, eqCells, D.scalarEq, sliceOf, partsD, partsV, bound, isPtr, Blk.width, elems, lenOf, splice, D.over, resOf, resV, resVs, ↓reduceIte, reduceCtorEq, ↓reduceDIte, Nat.reduceLT, Nat.reduceEqDiff, Nat.reduceAdd, Nat.reduceSub, Nat.reduceMul, Nat.reduceLeDiff, Nat.reduceBEq, Nat.reduceBNe, Int.reduceNeg, Int.reduceAdd, Int.reduceSub, Int.reduceToNat, nilTest, shiftH, Blk.ren, V.ren, renL, initV, frameH, putL, frρ, dI, dW]
theorem c_Clear1 (x : Int × Int) (who : Int) : CSpec Try.prog 39 [dW x, .imm (.agg [.int .i64 who]) 0] (.bool (x.1 == who)) := by
  refine CSpec.of_awp envOf_ok hmix Try.func39 rfl (fun args w => Try.call39 args w) (by simp [Try.f39]) ?_
  simp only [Try.f39]
  simp (maxSteps := 2000000) -implicitDefEqProofs only [zz, zE, evop, ev, ofVal, tget, tput, ok, V.isUndef, intBin, guardOf, initT, Ch.on, calleeOf, withArgs, told, xport, xports, tids, tidss, hget, hput, Blk.ice, freeze, V.cells, D.cells, V.isAgg, V.one, V.clo, clos, V.toD, loadD, structAt, eqCells, D.scalarEq, sliceOf, partsD, partsV, bound, isPtr, Blk.width, elems, lenOf, splice, D.over, resOf, resV, resVs, ↓reduceIte, reduceCtorEq, ↓reduceDIte, Nat.reduceLT, Nat.reduceEqDiff, Nat.reduceAdd, Nat.reduceSub, Nat.reduceMul, Nat.reduceLeDiff, Nat.reduceBEq, Nat.reduceBNe, Int.reduceNeg, Int.reduceAdd, Int.reduceSub, Int.reduceToNat, nilTest, shiftH, Blk.ren, V.ren, renL, initV, frameH, putL, frρ, dI, dW]
theorem c_Turn1 (x : Int × Int) (now : Int) : CSpec Try.prog 40 [dW x, .imm (.agg [.int .i64 now]) 0] (.bool (decide (x.2 ≤ now))) := by
  refine CSpec.of_awp envOf_ok hmix Try.func40 rfl (fun args w => Try.call40 args w) (by simp [Try.f40]) ?_
  simp only [Try.f40]
  simp (maxSteps := 2000000) -implicitDefEqProofs only [zz, zE, evop, ev, ofVal, tget, tput, ok, V.isUndef, intBin, guardOf, initT, Ch.on, calleeOf, withArgs, told, xport, xports, tids, tidss, hget, hput, Blk.ice, freeze, V.cells, D.cells, V.isAgg, V.one, V.clo, clos, V.toD, loadD, structAt, eqCells, D.scalarEq, sliceOf, partsD, partsV, bound, isPtr, Blk.width, elems, lenOf, splice, D.over, resOf, resV, resVs, ↓reduceIte, reduceCtorEq, ↓reduceDIte, Nat.reduceLT, Nat.reduceEqDiff, Nat.reduceAdd, Nat.reduceSub, Nat.reduceMul, Nat.reduceLeDiff, Nat.reduceBEq, Nat.reduceBNe, Int.reduceNeg, Int.reduceAdd, Int.reduceSub, Int.reduceToNat, nilTest, shiftH, Blk.ren, V.ren, renL, initV, frameH, putL, frρ, dI, dW]
theorem E_pred : envOf Try.prog 78 = some { agg := false, cmp := [], size := 1, bytes := 8, shape := .other, zero := [.d .nilf] } := by kernel_rfl
theorem c_Turn2 (x : Int × Int) (now : Int) : CSpec Try.prog 43 [dW x, .imm (.agg [.func (40, 0) [.imm (.agg [.int .i64 now]) 0]]) 0] (.bool (!decide (x.2 ≤ now))) := by
  have h := c_Turn1 x now
  unfold dW at h
  refine CSpec.of_awp envOf_ok hmix Try.func43 rfl (fun args w => Try.call43 args w) (by simp [Try.f43]) ?_
  simp only [Try.f43]
  simp (maxSteps := 2000000) -implicitDefEqProofs only [zz, zE, evop, ev, ofVal, tget, tput, ok, V.isUndef, intBin, guardOf, initT, Ch.on, calleeOf, withArgs, told, xport, xports, tids, tidss, hget, hput, Blk.ice, freeze, V.cells, D.cells, V.isAgg, V.one, V.clo, clos, V.toD, loadD, structAt, eqCells, D.scalarEq, sliceOf, partsD, partsV, bound, isPtr, Blk.width, elems, lenOf, splice, D.over, resOf, resV, resVs, ↓reduceIte, reduceCtorEq, ↓reduceDIte, Nat.reduceLT, Nat.reduceEqDiff, Nat.reduceAdd, Nat.reduceSub, Nat.reduceMul, Nat.reduceLeDiff, Nat.reduceBEq, Nat.reduceBNe, Int.reduceNeg, Int.reduceAdd, Int.reduceSub, Int.reduceToNat, nilTest, shiftH, Blk.ren, V.ren, renL, initV, frameH, putL, frρ, dI, dW]
  simp (maxSteps := 2000000) -implicitDefEqProofs only [zz, zE, evop, ev, ofVal, tget, tput, ok, V.isUndef, intBin, guardOf, initT, Ch.on, calleeOf, withArgs, told, xport, xports, tids, tidss, hget, hput, Blk.ice, freeze, V.cells, D.cells, V.isAgg, V.one, V.clo, clos, V.toD, loadD, structAt, eqCells, D.scalarEq, sliceOf, partsD, partsV, bound, isPtr, Blk.width, elems, lenOf, splice, D.over, resOf, resV, resVs, ↓reduceIte, reduceCtorEq, ↓reduceDIte, Nat.reduceLT, Nat.reduceEqDiff, Nat.reduceAdd, Nat.reduceSub, Nat.reduceMul, Nat.reduceLeDiff, Nat.reduceBEq, Nat.reduceBNe, Int.reduceNeg, Int.reduceAdd, Int.reduceSub, Int.reduceToNat, nilTest, shiftH, Blk.ren, V.ren, renL, initV, frameH, putL, frρ, dI, dW, E_pred]
  first | refine acall_flat' (h) rfl ?_ | refine dcall_flat' (h) rfl ?_ | refine acall_ice' (h) ?_ | refine dcall_still' (h) rfl ?_
  try simp (maxSteps := 2000000) -implicitDefEqProofs only [zz, zE, evop, ev, ofVal, tget, tput, ok, V.isUndef, intBin, guardOf, initT, Ch.on, calleeOf, withArgs, told, xport, xports, tids, tidss, hget, hput, Blk.ice, freeze, V.cells, D.cells, V.isAgg, V.one, V.clo, clos, V.toD, loadD, structAt, eqCells, D.scalarEq, sliceOf, partsD, partsV, bound, isPtr, Blk.width, elems, lenOf, splice, D.over, resOf, resV, resVs, ↓reduceIte, reduceCtorEq, ↓reduceDIte, Nat.reduceLT, Nat.reduceEqDiff, Nat.reduceAdd, Nat.reduceSub, Nat.reduceMul, Nat.reduceLeDiff, Nat.reduceBEq, Nat.reduceBNe, Int.reduceNeg, Int.reduceAdd, Int.reduceSub, Int.reduceToNat, nilTest, shiftH, Blk.ren, V.ren, renL, initV, frameH, putL, frρ, dI, dW]

def hasW (w : Wh) (who : Int) : Bool := (itemsW w).any fun x => x.1 == who
theorem c_wh_has (w : Wh) (who : Int) (hs : w.slots.length = 8) (hf : w.slots.flatten.length ≤ 12) : CSpec Try.prog 29 [dWh w, .int .i64 who] (.bool (hasW w who)) := by
  have ha := c_wh_all w hs hf
  have hil := itemsW_len w
  have hc := c_ContainsFunc_I (itemsW w) 46 [.imm (.agg [.int .i64 who]) 0] (fun x => x.1 == who) (by omega) (by simp) (fun x _ => c_has1 x who)
  have hs8 : 8 ≤ w.slots.length := by omega
  have ht8 : List.take 8 (List.map V.d (List.map (fun l => D.vec (List.map dW l)) w.slots)) = slotsV w := List.take_of_length_le (by simp [hs])
  refine CSpec.of_awp envOf_ok hmix Try.func29 rfl (fun args w => Try.call29 args w) (by simp [Try.f29]) ?_
  simp only [Try.f29]
  simp (maxSteps := 2000000) -implicitDefEqProofs only [zz, zE, evop, ev, ofVal, tget, tput, ok, V.isUndef, intBin, guardOf, initT, Ch.on, calleeOf, withArgs, told, xport, xports, tids, tidss, hget, hput, Blk.ice, freeze, V.cells, D.cells, V.isAgg, V.one, V.clo, clos, V.toD, loadD, structAt, eqCells, D.scalarEq, sliceOf, partsD, partsV, bound, isPtr, Blk.width, elems, lenOf, splice, D.over, resOf, resV, resVs, ↓reduceIte, reduceCtorEq, ↓reduceDIte, Nat.reduceLT, Nat.reduceEqDiff, Nat.reduceAdd, Nat.reduceSub, Nat.reduceMul, Nat.reduceLeDiff, Nat.reduceBEq, Nat.reduceBNe, Int.reduceNeg, Int.reduceAdd, Int.reduceSub, Int.reduceToNat, nilTest, shiftH, Blk.ren, V.ren, renL, initV, frameH, putL, frρ, dI, dW]
  unfold dWh
  try simp (maxSteps := 2000000) -implicitDefEqProofs only [zz, zE, evop, ev, ofVal, tget, tput, ok, V.isUndef, intBin, guardOf, initT, Ch.on, calleeOf, withArgs, told, xport, xports, tids, tidss, hget, hput, Blk.ice, freeze, V.cells, D.cells, V.isAgg, V.one, V.clo, clos, V.toD, loadD, structAt, eqCells, D.scalarEq, sliceOf, partsD, partsV, bound, isPtr, Blk.width, elems, lenOf, splice, D.over, resOf, resV, resVs, ↓reduceIte, reduceCtorEq, ↓reduceDIte, Nat.reduceLT, Nat.reduceEqDiff, Nat.reduceAdd, Nat.reduceSub, Nat.reduceMul, Nat.reduceLeDiff, Nat.reduceBEq, Nat.reduceBNe, Int.reduceNeg, Int.reduceAdd, Int.reduceSub, Int.reduceToNat, nilTest, shiftH, Blk.ren, V.ren, renL, initV, frameH, putL, frρ, dI, dW, hs8, ht8]
  refine acall_ice (ds := [dWh w]) (by simp only [xports, xport_wh w hs]) ha ?_
  simp (maxSteps := 2000000) -implicitDefEqProofs only [zz, zE, evop, ev, ofVal, tget, tput, ok, V.isUndef, intBin, guardOf, initT, Ch.on, calleeOf, withArgs, told, xport, xports, tids, tidss, hget, hput, Blk.ice, freeze, V.cells, D.cells, V.isAgg, V.one, V.clo, clos, V.toD, loadD, structAt, eqCells, D.scalarEq, sliceOf, partsD, partsV, bound, isPtr, Blk.width, elems, lenOf, splice, D.over, resOf, resV, resVs, ↓reduceIte, reduceCtorEq, ↓reduceDIte, Nat.reduceLT, Nat.reduceEqDiff, Nat.reduceAdd, Nat.reduceSub, Nat.reduceMul, Nat.reduceLeDiff, Nat.reduceBEq, Nat.reduceBNe, Int.reduceNeg, Int.reduceAdd, Int.reduceSub, Int.reduceToNat, nilTest, shiftH, Blk.ren, V.ren, renL, initV, frameH, putL, frρ, dI, dW, tidss_slots, AM.freeze]
  first | refine acall_flat' (hc) rfl ?_ | refine dcall_flat' (hc) rfl ?_ | refine acall_ice' (hc) ?_ | refine dcall_still' (hc) rfl ?_
  try simp (maxSteps := 2000000) -implicitDefEqProofs only [zz, zE, evop, ev, ofVal, tget, tput, ok, V.isUndef, intBin, guardOf, initT, Ch.on, calleeOf, withArgs, told, xport, xports, tids, tidss, hget, hput, Blk.ice, freeze, V.cells, D.cells, V.isAgg, V.one, V.clo, clos, V.toD, loadD, structAt, eqCells, D.scalarEq, sliceOf, partsD, partsV, bound, isPtr, Blk.width, elems, lenOf, splice, D.over, resOf, resV, resVs, ↓reduceIte, reduceCtorEq, ↓reduceDIte, Nat.reduceLT, Nat.reduceEqDiff, Nat.reduceAdd, Nat.reduceSub, Nat.reduceMul, Nat.reduceLeDiff, Nat.reduceBEq, Nat.reduceBNe, Int.reduceNeg, Int.reduceAdd, Int.reduceSub, Int.reduceToNat, nilTest, shiftH, Blk.ren, V.ren, renL, initV, frameH, putL, frρ, dI, dW]
  rfl
end Go.Proofs.Ytaejlmengfahnaa.AM

set_option linter.all false
set_option maxRecDepth 100000
set_option maxHeartbeats 8000000
namespace Go.Proofs.Ytaejlmengfahnaa.AM
open Go Go.RowKit

theorem idx_cases (p : Int × Int → Bool) (ns : List (Int × Int)) : (idxOf p ns = -1 ∧ ∀ x ∈ ns, p x = false) ∨ ∃ (i : Nat) (x : Int × Int), idxOf p ns = i ∧ ns[i]? = some x ∧ p x = true ∧ ∀ j y, j < i → ns[j]? = some y → p y = false := by
  cases e : ns.findIdx? p with
  | none =>
    left
    refine ⟨by simp [idxOf, e], fun x hx => ?_⟩
    rw [List.findIdx?_eq_none_iff] at e
    simpa using e x hx
  | some i =>
    right
    rw [List.findIdx?_eq_some_iff_getElem] at e
    obtain ⟨h, h1, h2⟩ := e
    refine ⟨i, ns[i], ?_, List.getElem?_eq_getElem h, h1, fun j y hj hy => ?_⟩
    · have : ns.findIdx? p = some i := by
        rw [List.findIdx?_eq_some_iff_getElem]; exact ⟨h, h1, h2⟩
      simp [idxOf, this]
    · have := h2 j hj
      rw [List.getElem?_eq_getElem (by omega)] at hy
      cases hy; simpa using this
theorem filter_all {p : Int × Int → Bool} {l : List (Int × Int)} (h : ∀ x ∈ l, p x = false) : l.filter (fun x => !p x) = l := List.filter_eq_self.2 (fun x hx => by simp [h x hx])
theorem filter_upto {p : Int × Int → Bool} {ns : List (Int × Int)} {i : Nat} (hi : i ≤ ns.length) (h : ∀ j y, j < i → ns[j]? = some y → p y = false) : (ns.take i).filter (fun x => !p x) = ns.take i := filter_all (fun x hx => by
  obtain ⟨j, hj, rfl⟩ := List.getElem_of_mem hx
  have hj' : j < i := by simp at hj; omega
  rw [List.getElem_take]
  exact h j _ hj' (List.getElem?_eq_getElem (by omega)))
theorem filter_snoc {p : Int × Int → Bool} {ns : List (Int × Int)} {j : Nat} {x : Int × Int} (hx : ns[j]? = some x) : (ns.take (j + 1)).filter (fun x => !p x) = (ns.take j).filter (fun x => !p x) ++ (if p x = true then [] else [x]) := by
  rw [List.take_succ, hx, List.filter_append]
  congr 1
  cases e : p x <;> simp [e]
structure DelI (p : Int × Int → Bool) (ns : List (Int × Int)) (j : Nat) (st : List (Int × Int)) : Prop where
  len : st.length = ns.length
  jn : j ≤ ns.length
  lt : ((ns.take j).filter fun x => !p x).length < j
  pre : st.take ((ns.take j).filter fun x => !p x).length = (ns.take j).filter fun x => !p x
  post : ∀ k, j ≤ k → st[k]? = ns[k]?
theorem DelI.begin {p : Int × Int → Bool} {ns : List (Int × Int)} {i : Nat} {x : Int × Int} (hx : ns[i]? = some x) (h1 : p x = true) (h2 : ∀ j y, j < i → ns[j]? = some y → p y = false) : DelI p ns (i + 1) ns ∧ ((ns.take (i + 1)).filter fun x => !p x).length = i := by
  have hi := (List.getElem?_eq_some_iff.1 hx).1
  have e : (ns.take (i + 1)).filter (fun x => !p x) = ns.take i := by rw [filter_snoc hx, filter_upto (by omega) h2, if_pos h1, List.append_nil]
  have el : (ns.take i).length = i := by simp; omega
  refine ⟨⟨rfl, by omega, by rw [e, el]; omega, by rw [e, el], fun _ _ => rfl⟩, by rw [e, el]⟩
theorem DelI.skip {p : Int × Int → Bool} {ns st : List (Int × Int)} {j : Nat} {x : Int × Int} (h : DelI p ns j st) (hx : ns[j]? = some x) (h1 : p x = true) : DelI p ns (j + 1) st ∧ (ns.take (j + 1)).filter (fun x => !p x) = (ns.take j).filter (fun x => !p x) := by
  have e : (ns.take (j + 1)).filter (fun x => !p x) = (ns.take j).filter (fun x => !p x) := by rw [filter_snoc hx, if_pos h1, List.append_nil]
  have hj := (List.getElem?_eq_some_iff.1 hx).1
  refine ⟨⟨h.len, by omega, by rw [e]; have := h.lt; omega, by rw [e]; exact h.pre, fun k hk => h.post k (by omega)⟩, e⟩
theorem DelI.keep {p : Int × Int → Bool} {ns st : List (Int × Int)} {j : Nat} {x : Int × Int} (h : DelI p ns j st) (hx : ns[j]? = some x) (h1 : p x = false) : DelI p ns (j + 1) (st.set ((ns.take j).filter fun x => !p x).length x) ∧ ((ns.take (j + 1)).filter (fun x => !p x)).length = ((ns.take j).filter (fun x => !p x)).length + 1 := by
  have e : (ns.take (j + 1)).filter (fun x => !p x) = (ns.take j).filter (fun x => !p x) ++ [x] := by rw [filter_snoc hx, if_neg (by simp [h1])]
  have hj := (List.getElem?_eq_some_iff.1 hx).1
  have hlt := h.lt
  have hle : ((ns.take (j + 1)).filter (fun x => !p x)).length = ((ns.take j).filter (fun x => !p x)).length + 1 := by rw [e]; simp
  refine ⟨⟨by rw [List.length_set]; exact h.len, by omega, by rw [hle]; omega, ?_, fun k hk => ?_⟩, hle⟩
  · rw [hle, e, List.take_succ, List.getElem?_set_self (by rw [h.len]; omega)]
    have := h.pre
    rw [List.take_set_of_le (Nat.le_refl _), this]; rfl
  · rw [List.getElem?_set_ne (by omega)]
    exact h.post k (by omega)
def delR (p : Int × Int → Bool) (ns : List (Int × Int)) : List D := (ns.filter fun x => !p x).map dW ++ List.replicate (ns.length - (ns.filter fun x => !p x).length) (dW (0, 0))
theorem DelI.fin {p : Int × Int → Bool} {ns st : List (Int × Int)} (h : DelI p ns ns.length st) {z : D} (hz : z = dW (0, 0)) : (st.map dW).take (ns.filter fun x => !p x).length ++ List.replicate (ns.length - (ns.filter fun x => !p x).length) z ++ (st.map dW).drop ns.length = delR p ns := by
  have h1 := h.pre
  rw [List.take_length] at h1
  subst hz
  rw [← List.map_take, h1, List.drop_of_length_le (by rw [List.length_map, h.len]; exact Nat.le_refl _), List.append_nil]
  rfl

theorem r_Del_d (ns : List (Int × Int)) (f : Nat) (cd : D) (p : Int × Int → Bool) (hl : ns.length ≤ 1000000) (hp : ∀ x, CSpec Try.prog f [dW x, cd] (.bool (p x))) :
    RSpec Try.prog 41 [.own 0 0 ns.length, .d (.func (f, 0) [cd])] [.dat false 2 (ns.map dW)] (.own 0 0 (ns.filter fun x => !p x).length) [.dat false 2 (delR p ns)] := by
  have hidx := c_IndexFunc_I ns f [cd] p hl (by simp) (fun x _ => hp x)
  have htl : List.take ns.length (ns.map dW) = ns.map dW := List.take_of_length_le (by simp)
  rw [← htl] at hidx
  have hfl : (ns.filter fun x => !p x).length ≤ ns.length := List.length_filter_le ..
  refine RSpec.of_awp envOf_ok hmix Try.func41 rfl (fun args w => Try.call41 args w) (by simp [Try.f41]) ?_
  simp only [Try.f41]
  simp (maxSteps := 2000000) -implicitDefEqProofs only [zz, zE, evop, ev, ofVal, tget, tput, ok, V.isUndef, intBin, guardOf, initT, Ch.on, calleeOf, withArgs, told, xport, xports, tids, tidss, hget, hput, Blk.ice, freeze, V.cells, D.cells, V.isAgg, V.one, V.clo, clos, V.toD, loadD, structAt, eqCells, D.scalarEq, sliceOf, partsD, partsV, bound, isPtr, Blk.width, elems, lenOf, splice, D.over, resOf, resV, resVs, ↓reduceIte, reduceCtorEq, ↓reduceDIte, Nat.reduceLT, Nat.reduceEqDiff, Nat.reduceAdd, Nat.reduceSub, Nat.reduceMul, Nat.reduceLeDiff, Nat.reduceBEq, Nat.reduceBNe, Int.reduceNeg, Int.reduceAdd, Int.reduceSub, Int.reduceToNat, nilTest, shiftH, Blk.ren, V.ren, renL, initV, frameH, putL, frρ, dI, dW]
  refine acall_flat' hidx rfl ?_
  rcases idx_cases p ns with ⟨e, h⟩ | ⟨i, x, e, hx, h1, h2⟩
  · have e1 : (idxOf p ns == -1) = true := by rw [e]; rfl
    simp (maxSteps := 2000000) -implicitDefEqProofs only [zz, zE, evop, ev, ofVal, tget, tput, ok, V.isUndef, intBin, guardOf, initT, Ch.on, calleeOf, withArgs, told, xport, xports, tids, tidss, hget, hput, Blk.ice, freeze, V.cells, D.cells, V.isAgg, V.one, V.clo, clos, V.toD, loadD, structAt, eqCells, D.scalarEq, sliceOf, partsD, partsV, bound, isPtr, Blk.width, elems, lenOf, splice, D.over, resOf, resV, resVs, ↓reduceIte, reduceCtorEq, ↓reduceDIte, Nat.reduceLT, Nat.reduceEqDiff, Nat.reduceAdd, Nat.reduceSub, Nat.reduceMul, Nat.reduceLeDiff, Nat.reduceBEq, Nat.reduceBNe, Int.reduceNeg, Int.reduceAdd, Int.reduceSub, Int.reduceToNat, nilTest, shiftH, Blk.ren, V.ren, renL, initV, frameH, putL, frρ, dI, dW, e1]
    have hd : delR p ns = ns.map dW := by unfold delR; rw [filter_all h, Nat.sub_self]; simp
    rw [hd, filter_all h]
    exact Weak.sub (by simp [tget])
  have e1 : (idxOf p ns == -1) = false := by rw [e]; exact beq_eq_false_iff_ne.2 (by omega)
  have hil := (List.getElem?_eq_some_iff.1 hx).1
  have hw : IntKind.i64.wrap ((i : Int) + 1) = ((i + 1 : Nat) : Int) := by rw [wrap_in (by omega)]; omega
  obtain ⟨hb, hbl⟩ := DelI.begin hx h1 h2
  simp (maxSteps := 2000000) -implicitDefEqProofs only [zz, zE, evop, ev, ofVal, tget, tput, ok, V.isUndef, intBin, guardOf, initT, Ch.on, calleeOf, withArgs, told, xport, xports, tids, tidss, hget, hput, Blk.ice, freeze, V.cells, D.cells, V.isAgg, V.one, V.clo, clos, V.toD, loadD, structAt, eqCells, D.scalarEq, sliceOf, partsD, partsV, bound, isPtr, Blk.width, elems, lenOf, splice, D.over, resOf, resV, resVs, ↓reduceIte, reduceCtorEq, ↓reduceDIte, Nat.reduceLT, Nat.reduceEqDiff, Nat.reduceAdd, Nat.reduceSub, Nat.reduceMul, Nat.reduceLeDiff, Nat.reduceBEq, Nat.reduceBNe, Int.reduceNeg, Int.reduceAdd, Int.reduceSub, Int.reduceToNat, nilTest, shiftH, Blk.ren, V.ren, renL, initV, frameH, putL, frρ, dI, dW, e1, e, hw]
  refine wloop_ind (σ := Nat × List (Int × Int)) (fun z => ns.length - z.1) (fun z => [(6, .d (.int .i64 z.1)), (5, .d (.int .i64 ((ns.take z.1).filter fun x => !p x).length)), (0, .own 0 0 ns.length), (1, .d (.func (f, 0) [cd]))]) (fun z => [.dat false 2 (z.2.map dW)]) (fun z => DelI p ns z.1 z.2) (i + 1, ns) hb (Weak.sub (by simp [tget, hbl, hw, e])) ?_
  rintro ⟨j, st⟩ hI
  simp only at hI
  have hjn := hI.jn
  have hjlt := hI.lt
  rcases Nat.lt_or_ge j ns.length with hj | hj
  · have h' : ((j : Int) < (ns.length : Int)) := by omega
    have hy : ns[j]? = some ns[j] := List.getElem?_eq_getElem hj
    have hys : st[j]? = some ns[j] := by rw [hI.post j (Nat.le_refl _)]; exact hy
    generalize ns[j] = y at hy hys
    have hwj : IntKind.i64.wrap ((j : Int) + 1) = ((j + 1 : Nat) : Int) := by rw [wrap_in (by omega)]; omega
    have hpy := hp y
    unfold dW at hpy
    simp (maxSteps := 2000000) -implicitDefEqProofs only [zz, zE, evop, ev, ofVal, tget, tput, ok, V.isUndef, intBin, guardOf, initT, Ch.on, calleeOf, withArgs, told, xport, xports, tids, tidss, hget, hput, Blk.ice, freeze, V.cells, D.cells, V.isAgg, V.one, V.clo, clos, V.toD, loadD, structAt, eqCells, D.scalarEq, sliceOf, partsD, partsV, bound, isPtr, Blk.width, elems, lenOf, splice, D.over, resOf, resV, resVs, ↓reduceIte, reduceCtorEq, ↓reduceDIte, Nat.reduceLT, Nat.reduceEqDiff, Nat.reduceAdd, Nat.reduceSub, Nat.reduceMul, Nat.reduceLeDiff, Nat.reduceBEq, Nat.reduceBNe, Int.reduceNeg, Int.reduceAdd, Int.reduceSub, Int.reduceToNat, nilTest, shiftH, Blk.ren, V.ren, renL, initV, frameH, putL, frρ, dI, dW, h', List.getElem?_map, hys, Option.map_some, Int.natCast_nonneg, Int.toNat_natCast]
    refine acall_flat' hpy rfl ?_
    cases hpp : p y with
    | true =>
      obtain ⟨k1, k2⟩ := hI.skip hy hpp
      simp (maxSteps := 2000000) -implicitDefEqProofs only [zz, zE, evop, ev, ofVal, tget, tput, ok, V.isUndef, intBin, guardOf, initT, Ch.on, calleeOf, withArgs, told, xport, xports, tids, tidss, hget, hput, Blk.ice, freeze, V.cells, D.cells, V.isAgg, V.one, V.clo, clos, V.toD, loadD, structAt, eqCells, D.scalarEq, sliceOf, partsD, partsV, bound, isPtr, Blk.width, elems, lenOf, splice, D.over, resOf, resV, resVs, ↓reduceIte, reduceCtorEq, ↓reduceDIte, Nat.reduceLT, Nat.reduceEqDiff, Nat.reduceAdd, Nat.reduceSub, Nat.reduceMul, Nat.reduceLeDiff, Nat.reduceBEq, Nat.reduceBNe, Int.reduceNeg, Int.reduceAdd, Int.reduceSub, Int.reduceToNat, nilTest, shiftH, Blk.ren, V.ren, renL, initV, frameH, putL, frρ, dI, dW, hwj]
      exact ⟨(j + 1, st), k1, by simp only; omega, Weak.trimsM 1 (by simp) rfl (by simp [tget, V.lower, hwj, k2, lowerL]) (by simp [Blk.lower])⟩
    | false =>
      obtain ⟨k1, k2⟩ := hI.keep hy hpp
      have hq : ((ns.take j).filter fun x => !p x).length < st.length := by rw [hI.len]; omega
      have hz0 : st[((ns.take j).filter fun x => !p x).length]? = some (st[((ns.take j).filter fun x => !p x).length]'hq) := List.getElem?_eq_getElem hq
      generalize (st[((ns.take j).filter fun x => !p x).length]'hq) = zz0 at hz0
      have hwi : IntKind.i64.wrap ((((ns.take j).filter fun x => !p x).length : Int) + 1) = ((((ns.take j).filter fun x => !p x).length + 1 : Nat) : Int) := by rw [wrap_in (by omega)]; omega
      generalize ((ns.take j).filter fun x => !p x).length = q at hz0 hwi k1 k2 hjlt hq
      simp (maxSteps := 2000000) -implicitDefEqProofs only [zz, zE, evop, ev, ofVal, tget, tput, ok, V.isUndef, intBin, guardOf, initT, Ch.on, calleeOf, withArgs, told, xport, xports, tids, tidss, hget, hput, Blk.ice, freeze, V.cells, D.cells, V.isAgg, V.one, V.clo, clos, V.toD, loadD, structAt, eqCells, D.scalarEq, sliceOf, partsD, partsV, bound, isPtr, Blk.width, elems, lenOf, splice, D.over, resOf, resV, resVs, ↓reduceIte, reduceCtorEq, ↓reduceDIte, Nat.reduceLT, Nat.reduceEqDiff, Nat.reduceAdd, Nat.reduceSub, Nat.reduceMul, Nat.reduceLeDiff, Nat.reduceBEq, Nat.reduceBNe, Int.reduceNeg, Int.reduceAdd, Int.reduceSub, Int.reduceToNat, nilTest, shiftH, Blk.ren, V.ren, renL, initV, frameH, putL, frρ, dI, dW, hwj, List.getElem?_map, hz0, Option.map_some, Int.natCast_nonneg, Int.toNat_natCast, hwi]
      refine ⟨by omega, ?_⟩
      refine ⟨(j + 1, st.set q y), k1, by simp only; omega, ?_⟩
      rw [k2, List.map_set]
      exact Weak.trimsM 1 (by simp) rfl (by simp [tget, V.lower, hwj, hwi, lowerL]) (by simp [Blk.lower])
  · have hjj : j = ns.length := by omega
    subst hjj
    have h' : ¬ ((ns.length : Int) < (ns.length : Int)) := by omega
    have hft : (ns.take ns.length).filter (fun x => !p x) = ns.filter fun x => !p x := by rw [List.take_length]
    rw [hft]
    have hz : ∀ c b s, zeroD ⟨true, c, 2, b, s, [V.d (.int .i64 0), V.d (.int .i64 0)]⟩ = some (.agg [.int .i64 0, .int .i64 0]) := fun _ _ _ => rfl
    have hz0 : okEl 2 (.agg [.int .i64 0, .int .i64 0]) = true := rfl
    have hs1 : ((ns.length : Int) - (((ns.filter fun x => !p x).length : Nat) : Int)).toNat = ns.length - (ns.filter fun x => !p x).length := by omega
    have hs2 : (((ns.filter fun x => !p x).length : Nat) : Int) - 0 = (((ns.filter fun x => !p x).length : Nat) : Int) := by omega
    have hs3 : (ns.filter fun x => !p x).length + (ns.length - (ns.filter fun x => !p x).length) = ns.length := by omega
    have hfin := hI.fin (z := .agg [.int .i64 0, .int .i64 0]) rfl
    simp (maxSteps := 2000000) -implicitDefEqProofs only [zz, zE, evop, ev, ofVal, tget, tput, ok, V.isUndef, intBin, guardOf, initT, Ch.on, calleeOf, withArgs, told, xport, xports, tids, tidss, hget, hput, Blk.ice, freeze, V.cells, D.cells, V.isAgg, V.one, V.clo, clos, V.toD, loadD, structAt, eqCells, D.scalarEq, sliceOf, partsD, partsV, bound, isPtr, Blk.width, elems, lenOf, splice, D.over, resOf, resV, resVs, ↓reduceIte, reduceCtorEq, ↓reduceDIte, Nat.reduceLT, Nat.reduceEqDiff, Nat.reduceAdd, Nat.reduceSub, Nat.reduceMul, Nat.reduceLeDiff, Nat.reduceBEq, Nat.reduceBNe, Int.reduceNeg, Int.reduceAdd, Int.reduceSub, Int.reduceToNat, nilTest, shiftH, Blk.ren, V.ren, renL, initV, frameH, putL, frρ, dI, dW, h', hz, hz0, Int.toNat_natCast, hs1, hs2, hs3]
    refine ⟨⟨by omega, by omega, by omega⟩, ⟨by omega, by omega, by omega⟩, ?_⟩
    rw [hfin]
    exact Weak.sub (by simp [tget])

theorem r_Del_v (ns : List (Int × Int)) (f : Nat) (cd : D) (p : Int × Int → Bool) (hl : ns.length ≤ 1000000) (hp : ∀ x, CSpec Try.prog f [dW x, cd] (.bool (p x))) :
    RSpec Try.prog 41 [.own 0 0 ns.length, .func (f, 0) [.d cd]] [.dat false 2 (ns.map dW)] (.own 0 0 (ns.filter fun x => !p x).length) [.dat false 2 (delR p ns)] := by
  have hidx := c_IndexFunc_I ns f [cd] p hl (by simp) (fun x _ => hp x)
  have htl : List.take ns.length (ns.map dW) = ns.map dW := List.take_of_length_le (by simp)
  rw [← htl] at hidx
  have hfl : (ns.filter fun x => !p x).length ≤ ns.length := List.length_filter_le ..
  refine RSpec.of_awp envOf_ok hmix Try.func41 rfl (fun args w => Try.call41 args w) (by simp [Try.f41]) ?_
  simp only [Try.f41]
  simp (maxSteps := 2000000) -implicitDefEqProofs only [zz, zE, evop, ev, ofVal, tget, tput, ok, V.isUndef, intBin, guardOf, initT, Ch.on, calleeOf, withArgs, told, xport, xports, tids, tidss, hget, hput, Blk.ice, freeze, V.cells, D.cells, V.isAgg, V.one, V.clo, clos, V.toD, loadD, structAt, eqCells, D.scalarEq, sliceOf, partsD, partsV, bound, isPtr, Blk.width, elems, lenOf, splice, D.over, resOf, resV, resVs, ↓reduceIte, reduceCtorEq, ↓reduceDIte, Nat.reduceLT, Nat.reduceEqDiff, Nat.reduceAdd, Nat.reduceSub, Nat.reduceMul, Nat.reduceLeDiff, Nat.reduceBEq, Nat.reduceBNe, Int.reduceNeg, Int.reduceAdd, Int.reduceSub, Int.reduceToNat, nilTest, shiftH, Blk.ren, V.ren, renL, initV, frameH, putL, frρ, dI, dW]
  refine acall_flat' hidx rfl ?_
  rcases idx_cases p ns with ⟨e, h⟩ | ⟨i, x, e, hx, h1, h2⟩
  · have e1 : (idxOf p ns == -1) = true := by rw [e]; rfl
    simp (maxSteps := 2000000) -implicitDefEqProofs only [zz, zE, evop, ev, ofVal, tget, tput, ok, V.isUndef, intBin, guardOf, initT, Ch.on, calleeOf, withArgs, told, xport, xports, tids, tidss, hget, hput, Blk.ice, freeze, V.cells, D.cells, V.isAgg, V.one, V.clo, clos, V.toD, loadD, structAt, eqCells, D.scalarEq, sliceOf, partsD, partsV, bound, isPtr, Blk.width, elems, lenOf, splice, D.over, resOf, resV, resVs, ↓reduceIte, reduceCtorEq, ↓reduceDIte, Nat.reduceLT, Nat.reduceEqDiff, Nat.reduceAdd, Nat.reduceSub, Nat.reduceMul, Nat.reduceLeDiff, Nat.reduceBEq, Nat.reduceBNe, Int.reduceNeg, Int.reduceAdd, Int.reduceSub, Int.reduceToNat, nilTest, shiftH, Blk.ren, V.ren, renL, initV, frameH, putL, frρ, dI, dW, e1]
    have hd : delR p ns = ns.map dW := by unfold delR; rw [filter_all h, Nat.sub_self]; simp
    rw [hd, filter_all h]
    exact Weak.sub (by simp [tget])
  have e1 : (idxOf p ns == -1) = false := by rw [e]; exact beq_eq_false_iff_ne.2 (by omega)
  have hil := (List.getElem?_eq_some_iff.1 hx).1
  have hw : IntKind.i64.wrap ((i : Int) + 1) = ((i + 1 : Nat) : Int) := by rw [wrap_in (by omega)]; omega
  obtain ⟨hb, hbl⟩ := DelI.begin hx h1 h2
  simp (maxSteps := 2000000) -implicitDefEqProofs only [zz, zE, evop, ev, ofVal, tget, tput, ok, V.isUndef, intBin, guardOf, initT, Ch.on, calleeOf, withArgs, told, xport, xports, tids, tidss, hget, hput, Blk.ice, freeze, V.cells, D.cells, V.isAgg, V.one, V.clo, clos, V.toD, loadD, structAt, eqCells, D.scalarEq, sliceOf, partsD, partsV, bound, isPtr, Blk.width, elems, lenOf, splice, D.over, resOf, resV, resVs, ↓reduceIte, reduceCtorEq, ↓reduceDIte, Nat.reduceLT, Nat.reduceEqDiff, Nat.reduceAdd, Nat.reduceSub, Nat.reduceMul, Nat.reduceLeDiff, Nat.reduceBEq, Nat.reduceBNe, Int.reduceNeg, Int.reduceAdd, Int.reduceSub, Int.reduceToNat, nilTest, shiftH, Blk.ren, V.ren, renL, initV, frameH, putL, frρ, dI, dW, e1, e, hw]
  refine wloop_ind (σ := Nat × List (Int × Int)) (fun z => ns.length - z.1) (fun z => [(6, .d (.int .i64 z.1)), (5, .d (.int .i64 ((ns.take z.1).filter fun x => !p x).length)), (0, .own 0 0 ns.length), (1, .func (f, 0) [.d cd])]) (fun z => [.dat false 2 (z.2.map dW)]) (fun z => DelI p ns z.1 z.2) (i + 1, ns) hb (Weak.sub (by simp [tget, hbl, hw, e])) ?_
  rintro ⟨j, st⟩ hI
  simp only at hI
  have hjn := hI.jn
  have hjlt := hI.lt
  rcases Nat.lt_or_ge j ns.length with hj | hj
  · have h' : ((j : Int) < (ns.length : Int)) := by omega
    have hy : ns[j]? = some ns[j] := List.getElem?_eq_getElem hj
    have hys : st[j]? = some ns[j] := by rw [hI.post j (Nat.le_refl _)]; exact hy
    generalize ns[j] = y at hy hys
    have hwj : IntKind.i64.wrap ((j : Int) + 1) = ((j + 1 : Nat) : Int) := by rw [wrap_in (by omega)]; omega
    have hpy := hp y
    unfold dW at hpy
    simp (maxSteps := 2000000) -implicitDefEqProofs only [zz, zE, evop, ev, ofVal, tget, tput, ok, V.isUndef, intBin, guardOf, initT, Ch.on, calleeOf, withArgs, told, xport, xports, tids, tidss, hget, hput, Blk.ice, freeze, V.cells, D.cells, V.isAgg, V.one, V.clo, clos, V.toD, loadD, structAt, eqCells, D.scalarEq, sliceOf, partsD, partsV, bound, isPtr, Blk.width, elems, lenOf, splice, D.over, resOf, resV, resVs, ↓reduceIte, reduceCtorEq, ↓reduceDIte, Nat.reduceLT, Nat.reduceEqDiff, Nat.reduceAdd, Nat.reduceSub, Nat.reduceMul, Nat.reduceLeDiff, Nat.reduceBEq, Nat.reduceBNe, Int.reduceNeg, Int.reduceAdd, Int.reduceSub, Int.reduceToNat, nilTest, shiftH, Blk.ren, V.ren, renL, initV, frameH, putL, frρ, dI, dW, h', List.getElem?_map, hys, Option.map_some, Int.natCast_nonneg, Int.toNat_natCast]
    refine acall_flat' hpy rfl ?_
    cases hpp : p y with
    | true =>
      obtain ⟨k1, k2⟩ := hI.skip hy hpp
      simp (maxSteps := 2000000) -implicitDefEqProofs only [zz, zE, evop, ev, ofVal, tget, tput, ok, V.isUndef, intBin, guardOf, initT, Ch.on, calleeOf, withArgs, told, xport, xports, tids, tidss, hget, hput, Blk.ice, freeze, V.cells, D.cells, V.isAgg, V.one, V.clo, clos, V.toD, loadD, structAt, eqCells, D.scalarEq, sliceOf, partsD, partsV, bound, isPtr, Blk.width, elems, lenOf, splice, D.over, resOf, resV, resVs, ↓reduceIte, reduceCtorEq, ↓reduceDIte, Nat.reduceLT, Nat.reduceEqDiff, Nat.reduceAdd, Nat.reduceSub, Nat.reduceMul, Nat.reduceLeDiff, Nat.reduceBEq, Nat.reduceBNe, Int.reduceNeg, Int.reduceAdd, Int.reduceSub, Int.reduceToNat, nilTest, shiftH, Blk.ren, V.ren, renL, initV, frameH, putL, frρ, dI, dW, hwj]
      exact ⟨(j + 1, st), k1, by simp only; omega, Weak.trimsM 1 (by simp) rfl (by simp [tget, V.lower, hwj, k2, lowerL]) (by simp [Blk.lower])⟩
    | false =>
      obtain ⟨k1, k2⟩ := hI.keep hy hpp
      have hq : ((ns.take j).filter fun x => !p x).length < st.length := by rw [hI.len]; omega
      have hz0 : st[((ns.take j).filter fun x => !p x).length]? = some (st[((ns.take j).filter fun x => !p x).length]'hq) := List.getElem?_eq_getElem hq
      generalize (st[((ns.take j).filter fun x => !p x).length]'hq) = zz0 at hz0
      have hwi : IntKind.i64.wrap ((((ns.take j).filter fun x => !p x).length : Int) + 1) = ((((ns.take j).filter fun x => !p x).length + 1 : Nat) : Int) := by rw [wrap_in (by omega)]; omega
      generalize ((ns.take j).filter fun x => !p x).length = q at hz0 hwi k1 k2 hjlt hq
      simp (maxSteps := 2000000) -implicitDefEqProofs only [zz, zE, evop, ev, ofVal, tget, tput, ok, V.isUndef, intBin, guardOf, initT, Ch.on, calleeOf, withArgs, told, xport, xports, tids, tidss, hget, hput, Blk.ice, freeze, V.cells, D.cells, V.isAgg, V.one, V.clo, clos, V.toD, loadD, structAt, eqCells, D.scalarEq, sliceOf, partsD, partsV, bound, isPtr, Blk.width, elems, lenOf, splice, D.over, resOf, resV, resVs, ↓reduceIte, reduceCtorEq, ↓reduceDIte, Nat.reduceLT, Nat.reduceEqDiff, Nat.reduceAdd, Nat.reduceSub, Nat.reduceMul, Nat.reduceLeDiff, Nat.reduceBEq, Nat.reduceBNe, Int.reduceNeg, Int.reduceAdd, Int.reduceSub, Int.reduceToNat, nilTest, shiftH, Blk.ren, V.ren, renL, initV, frameH, putL, frρ, dI, dW, hwj, List.getElem?_map, hz0, Option.map_some, Int.natCast_nonneg, Int.toNat_natCast, hwi]
      refine ⟨by omega, ?_⟩
      refine ⟨(j + 1, st.set q y), k1, by simp only; omega, ?_⟩
      rw [k2, List.map_set]
      exact Weak.trimsM 1 (by simp) rfl (by simp [tget, V.lower, hwj, hwi, lowerL]) (by simp [Blk.lower])
  · have hjj : j = ns.length := by omega
    subst hjj
    have h' : ¬ ((ns.length : Int) < (ns.length : Int)) := by omega
    have hft : (ns.take ns.length).filter (fun x => !p x) = ns.filter fun x => !p x := by rw [List.take_length]
    rw [hft]
    have hz : ∀ c b s, zeroD ⟨true, c, 2, b, s, [V.d (.int .i64 0), V.d (.int .i64 0)]⟩ = some (.agg [.int .i64 0, .int .i64 0]) := fun _ _ _ => rfl
    have hz0 : okEl 2 (.agg [.int .i64 0, .int .i64 0]) = true := rfl
    have hs1 : ((ns.length : Int) - (((ns.filter fun x => !p x).length : Nat) : Int)).toNat = ns.length - (ns.filter fun x => !p x).length := by omega
    have hs2 : (((ns.filter fun x => !p x).length : Nat) : Int) - 0 = (((ns.filter fun x => !p x).length : Nat) : Int) := by omega
    have hs3 : (ns.filter fun x => !p x).length + (ns.length - (ns.filter fun x => !p x).length) = ns.length := by omega
    have hfin := hI.fin (z := .agg [.int .i64 0, .int .i64 0]) rfl
    simp (maxSteps := 2000000) -implicitDefEqProofs only [zz, zE, evop, ev, ofVal, tget, tput, ok, V.isUndef, intBin, guardOf, initT, Ch.on, calleeOf, withArgs, told, xport, xports, tids, tidss, hget, hput, Blk.ice, freeze, V.cells, D.cells, V.isAgg, V.one, V.clo, clos, V.toD, loadD, structAt, eqCells, D.scalarEq, sliceOf, partsD, partsV, bound, isPtr, Blk.width, elems, lenOf, splice, D.over, resOf, resV, resVs, ↓reduceIte, reduceCtorEq, ↓reduceDIte, Nat.reduceLT, Nat.reduceEqDiff, Nat.reduceAdd, Nat.reduceSub, Nat.reduceMul, Nat.reduceLeDiff, Nat.reduceBEq, Nat.reduceBNe, Int.reduceNeg, Int.reduceAdd, Int.reduceSub, Int.reduceToNat, nilTest, shiftH, Blk.ren, V.ren, renL, initV, frameH, putL, frρ, dI, dW, h', hz, hz0, Int.toNat_natCast, hs1, hs2, hs3]
    refine ⟨⟨by omega, by omega, by omega⟩, ⟨by omega, by omega, by omega⟩, ?_⟩
    rw [hfin]
    exact Weak.sub (by simp [tget])
end Go.Proofs.Ytaejlmengfahnaa.AM

set_option linter.all false
set_option maxRecDepth 100000
set_option maxHeartbeats 8000000
namespace Go.Proofs.Ytaejlmengfahnaa.AM
open Go Go.RowKit

def wkW (w : Wh) (p : Int × Int → Bool) (i : Nat) : Wh := ⟨w.now, (w.slots.take i).map (fun l => l.filter p) ++ w.slots.drop i⟩
theorem wkW_len {w : Wh} {p : Int × Int → Bool} {i : Nat} (hs : w.slots.length = 8) : (wkW w p i).slots.length = 8 := by simp [wkW, hs]; omega
theorem wkW_zero (w : Wh) (p : Int × Int → Bool) : wkW w p 0 = w := by simp [wkW]
theorem wkW_all {w : Wh} {p : Int × Int → Bool} (hs : w.slots.length = 8) : wkW w p 8 = sieveW w.now w p := by
  unfold wkW sieveW
  rw [List.take_of_length_le (by omega), List.drop_of_length_le (by omega), List.append_nil]
theorem wkW_set {w : Wh} {p : Int × Int → Bool} {i : Nat} {l : List (Int × Int)} (hli : w.slots[i]? = some l) : (wkW w p i).slots.set i (l.filter p) = (wkW w p (i + 1)).slots := by
  have hi := (List.getElem?_eq_some_iff.1 hli).1
  unfold wkW
  simp only
  have h1 : ((w.slots.take i).map fun l => l.filter p).length = i := by simp; omega
  rw [List.take_succ, hli, List.drop_eq_getElem_cons hi, List.set_append_right _ _ (by omega), h1, Nat.sub_self, List.set_cons_zero]
  simp
theorem slots_set {w : Wh} {i : Nat} {l : List (Int × Int)} (hi : i < w.slots.length) : ∀ {V' : V}, V' = .d (.vec (l.map dW)) → List.take (1 + i) (V.d (.int .i64 w.now) :: slotsV w) ++ [V'] ++ List.drop (1 + i + 1) (V.d (.int .i64 w.now) :: slotsV w) = V.d (.int .i64 w.now) :: slotsV ⟨w.now, w.slots.set i l⟩ := fun {V'} h => by
  subst h
  have e : slotsV ⟨w.now, w.slots.set i l⟩ = (slotsV w).set i (.d (.vec (l.map dW))) := by
    unfold slotsV; rw [List.map_set, List.map_set]
  rw [e, Nat.add_comm 1 i, List.take_succ_cons, List.drop_succ_cons, List.cons_append, List.cons_append]
  congr 1
  rw [List.set_eq_take_append_cons_drop, if_pos (by simp [slotsV]; exact hi)]
  simp
theorem seal_ds {H : Heap} {ids : List Nat} (ds : List D) : (ds.map V.d).map (sealF H ids) = ds.map V.d := by
  rw [List.map_map]; apply List.map_congr_left; intro x _; rfl

theorem seal_slots {H : Heap} {ids : List Nat} (w : Wh) : (slotsV w).map (sealF H ids) = slotsV w := seal_ds _
theorem slots_one (w : Wh) : (slotsV w).all V.one = true := by
  unfold slotsV
  rw [List.all_eq_true]
  intro v hv
  obtain ⟨d, hd, rfl⟩ := List.mem_map.1 hv
  obtain ⟨l, _, rfl⟩ := List.mem_map.1 hd
  rfl
theorem take_delR (p : Int × Int → Bool) (l : List (Int × Int)) : List.take (l.filter fun x => !p x).length (List.drop 0 (delR p l)) = (l.filter fun x => !p x).map dW := by
  rw [List.drop_zero]
  unfold delR
  rw [List.take_append_of_le_length (by rw [List.length_map]; exact Nat.le_refl _), List.take_of_length_le (by rw [List.length_map]; exact Nat.le_refl _)]
theorem seal_box {w : Wh} {H : Heap} {b i m : Nat} {els : List D} {l : List (Int × Int)} (hi : i < w.slots.length) (hg : hget H b = .dat false 2 els) (he : List.take m (List.drop 0 els) = l.map dW) :
    (List.take (1 + i) (V.d (.int .i64 w.now) :: slotsV w) ++ [V.own b 0 m] ++ List.drop (1 + i) (slotsV w)).map (sealF H [b]) = V.d (.int .i64 w.now) :: slotsV ⟨w.now, w.slots.set i l⟩ := by
  have hs := slots_set (w := w) (i := i) (l := l) hi rfl
  rw [List.drop_succ_cons] at hs
  have hf : sealF H [b] (V.own b 0 m) = .d (.vec (l.map dW)) := by
    simp only [sealF, List.mem_cons, List.not_mem_nil, or_false, if_true, hg, he]
  have h1 : (V.d (.int .i64 w.now) :: slotsV w).map (sealF H [b]) = V.d (.int .i64 w.now) :: slotsV w := by
    rw [List.map_cons, seal_slots]; rfl
  rw [List.map_append, List.map_append, List.map_take, List.map_drop, h1, seal_slots, List.map_cons, List.map_nil, hf]
  exact hs
theorem xports_slots {H : Heap} (w : Wh) (hs : w.slots.length = 8) : xports H 38 (slotsV w) = some (w.slots.map fun l => D.vec (l.map dW)) := xports_ds _ 38 (by simp [hs])
theorem c_wh_without (w : Wh) (hs : w.slots.length = 8) (hl : ∀ l ∈ w.slots, l.length ≤ 1000000) (f : Nat) (cd : D) (p : Int × Int → Bool) (hp : ∀ x, CSpec Try.prog f [dW x, cd] (.bool (p x))) :
    CSpec Try.prog 38 [dWh w, .func (f, 0) [cd]] (dWh (sieveW w.now w fun x => !p x)) := by
  have hsl : (slotsV w).length = 8 := by simp [slotsV, hs]
  have hs8 : 8 ≤ w.slots.length := by omega
  have ht8 : List.take 8 (List.map V.d (List.map (fun l => D.vec (List.map dW l)) w.slots)) = slotsV w := List.take_of_length_le (by simp [hs])
  have hbw : Blk.box false (V.d (D.int IntKind.i64 w.now) :: List.map V.d (List.map (fun l => D.vec (List.map dW l)) w.slots)) = bWh (wkW w (fun x => !p x) 0) := by rw [wkW_zero]; rfl
  have hbz : Blk.box false [V.d (D.int IntKind.i64 0), V.nils, V.nils, V.nils, V.nils, V.nils, V.nils, V.nils, V.nils] = .box false (V.d (D.int IntKind.i64 0) :: List.replicate 8 V.nils) := rfl
  refine CSpec.of_awp envOf_ok hmix Try.func38 rfl (fun args w => Try.call38 args w) (by simp [Try.f38]) ?_
  simp only [Try.f38]
  simp (maxSteps := 2000000) -implicitDefEqProofs only [zz, zE, evop, ev, ofVal, tget, tput, ok, V.isUndef, intBin, guardOf, initT, Ch.on, calleeOf, withArgs, told, xport, xports, tids, tidss, hget, hput, Blk.ice, freeze, V.cells, D.cells, V.isAgg, V.one, V.clo, clos, V.toD, loadD, structAt, eqCells, D.scalarEq, sliceOf, partsD, partsV, bound, isPtr, Blk.width, elems, lenOf, splice, D.over, resOf, resV, resVs, ↓reduceIte, reduceCtorEq, ↓reduceDIte, Nat.reduceLT, Nat.reduceEqDiff, Nat.reduceAdd, Nat.reduceSub, Nat.reduceMul, Nat.reduceLeDiff, Nat.reduceBEq, Nat.reduceBNe, Int.reduceNeg, Int.reduceAdd, Int.reduceSub, Int.reduceToNat, nilTest, shiftH, Blk.ren, V.ren, renL, initV, frameH, putL, frρ, dI, dW]
  unfold dWh
  simp (maxSteps := 2000000) -implicitDefEqProofs only [zz, zE, evop, ev, ofVal, tget, tput, ok, V.isUndef, intBin, guardOf, initT, Ch.on, calleeOf, withArgs, told, xport, xports, tids, tidss, hget, hput, Blk.ice, freeze, V.cells, D.cells, V.isAgg, V.one, V.clo, clos, V.toD, loadD, structAt, eqCells, D.scalarEq, sliceOf, partsD, partsV, bound, isPtr, Blk.width, elems, lenOf, splice, D.over, resOf, resV, resVs, ↓reduceIte, reduceCtorEq, ↓reduceDIte, Nat.reduceLT, Nat.reduceEqDiff, Nat.reduceAdd, Nat.reduceSub, Nat.reduceMul, Nat.reduceLeDiff, Nat.reduceBEq, Nat.reduceBNe, Int.reduceNeg, Int.reduceAdd, Int.reduceSub, Int.reduceToNat, nilTest, shiftH, Blk.ren, V.ren, renL, initV, frameH, putL, frρ, dI, dW, hs8, ht8]
  rw [hbw]
  refine wloop_count 8 (fun i => [(9, .d (.int .i64 i)), (8, .agg (slotsV w)), (1, .d (.func (f, 0) [cd])), (2, .ptr 0 0 0), (4, .ptr 1 0 0)]) (fun i => [bWh (wkW w (fun x => !p x) i), .box false [V.d (D.int IntKind.i64 0), V.d (.vec []), V.d (.vec []), V.d (.vec []), V.d (.vec []), V.d (.vec []), V.d (.vec []), V.d (.vec []), V.d (.vec [])]]) (fun _ => True) trivial ?_ (fun i hi _ => ?_) (fun _ => ?_)
  · refine Weak.trans' (Weak.sealed (T' := [(9, .d (.int .i64 0)), (8, .agg (slotsV w)), (1, .d (.func (f, 0) [cd])), (2, .ptr 0 0 0), (4, .ptr 1 0 0)]) [] (by simp [tget, sealF])) ?_
    have hS : ∀ (X Y : List V), sealH [.box false X, .box false Y] [] = [.box false (X.map (sealF [.box false X, .box false Y] [])), .box false (Y.map (sealF [.box false X, .box false Y] []))] := fun _ _ => rfl
    have h1 : ∀ H, (V.d (.int .i64 (wkW w (fun x => !p x) 0).now) :: slotsV (wkW w (fun x => !p x) 0)).map (sealF H []) = V.d (.int .i64 (wkW w (fun x => !p x) 0).now) :: slotsV (wkW w (fun x => !p x) 0) := fun H => by
      rw [List.map_cons, seal_slots]; rfl
    unfold bWh
    rw [hS, h1]
    exact Weak.sub (by simp [tget])
  · obtain ⟨l, hli⟩ : ∃ l, w.slots[i]? = some l := ⟨_, List.getElem?_eq_getElem (by omega)⟩
    have hll := hl l (List.mem_of_getElem? hli)
    have h' : ((i : Int) < 8) := by omega
    have hgi : (slotsV w).getD i (.d .undef) = .d (.vec (l.map dW)) := by
      unfold slotsV
      rw [List.getD_eq_getElem?_getD, List.getElem?_map, List.getElem?_map, hli]; rfl
    have hwi : IntKind.i64.wrap ((i : Int) + 1) = ((i + 1 : Nat) : Int) := by rw [wrap_in (by omega)]; omega
    have hcl := o_Clone_I (l.map dW) (by simp; omega) (okEl_T l)
    rw [List.length_map] at hcl
    have hde := r_Del_d l f cd p hll hp
    simp (maxSteps := 2000000) -implicitDefEqProofs only [zz, zE, evop, ev, ofVal, tget, tput, ok, V.isUndef, intBin, guardOf, initT, Ch.on, calleeOf, withArgs, told, xport, xports, tids, tidss, hget, hput, Blk.ice, freeze, V.cells, D.cells, V.isAgg, V.one, V.clo, clos, V.toD, loadD, structAt, eqCells, D.scalarEq, sliceOf, partsD, partsV, bound, isPtr, Blk.width, elems, lenOf, splice, D.over, resOf, resV, resVs, ↓reduceIte, reduceCtorEq, ↓reduceDIte, Nat.reduceLT, Nat.reduceEqDiff, Nat.reduceAdd, Nat.reduceSub, Nat.reduceMul, Nat.reduceLeDiff, Nat.reduceBEq, Nat.reduceBNe, Int.reduceNeg, Int.reduceAdd, Int.reduceSub, Int.reduceToNat, nilTest, shiftH, Blk.ren, V.ren, renL, initV, frameH, putL, frρ, dI, dW, h', hsl, hgi, Int.toNat_natCast]
    refine ⟨⟨by omega, by omega⟩, ?_⟩
    refine acall_own' (hcl) ?_
    try simp (maxSteps := 2000000) -implicitDefEqProofs only [zz, zE, evop, ev, ofVal, tget, tput, ok, V.isUndef, intBin, guardOf, initT, Ch.on, calleeOf, withArgs, told, xport, xports, tids, tidss, hget, hput, Blk.ice, freeze, V.cells, D.cells, V.isAgg, V.one, V.clo, clos, V.toD, loadD, structAt, eqCells, D.scalarEq, sliceOf, partsD, partsV, bound, isPtr, Blk.width, elems, lenOf, splice, D.over, resOf, resV, resVs, ↓reduceIte, reduceCtorEq, ↓reduceDIte, Nat.reduceLT, Nat.reduceEqDiff, Nat.reduceAdd, Nat.reduceSub, Nat.reduceMul, Nat.reduceLeDiff, Nat.reduceBEq, Nat.reduceBNe, Int.reduceNeg, Int.reduceAdd, Int.reduceSub, Int.reduceToNat, nilTest, shiftH, Blk.ren, V.ren, renL, initV, frameH, putL, frρ, dI, dW]
    refine acall_ref [2] (hde) (by first | rfl | simp [renL, V.ren, frρ, renL_ds]) (by simp) rfl (by simp) (by simp) (by intro j hj; match j, hj with | 0, _ => exact ⟨by simp [hget], rfl⟩) ?_
    try simp (maxSteps := 2000000) -implicitDefEqProofs only [zz, zE, evop, ev, ofVal, tget, tput, ok, V.isUndef, intBin, guardOf, initT, Ch.on, calleeOf, withArgs, told, xport, xports, tids, tidss, hget, hput, Blk.ice, freeze, V.cells, D.cells, V.isAgg, V.one, V.clo, clos, V.toD, loadD, structAt, eqCells, D.scalarEq, sliceOf, partsD, partsV, bound, isPtr, Blk.width, elems, lenOf, splice, D.over, resOf, resV, resVs, ↓reduceIte, reduceCtorEq, ↓reduceDIte, Nat.reduceLT, Nat.reduceEqDiff, Nat.reduceAdd, Nat.reduceSub, Nat.reduceMul, Nat.reduceLeDiff, Nat.reduceBEq, Nat.reduceBNe, Int.reduceNeg, Int.reduceAdd, Int.reduceSub, Int.reduceToNat, nilTest, shiftH, Blk.ren, V.ren, renL, initV, frameH, putL, frρ, dI, dW]
    have hwl := wkW_len (w := w) (p := fun x => !p x) (i := i) hs
    have hslk : (slotsV (wkW w (fun x => !p x) i)).length = 8 := by simp [slotsV, hwl]
    have hj9 : 1 + i + 1 ≤ 9 := by omega
    simp (maxSteps := 2000000) -implicitDefEqProofs only [zz, zE, evop, ev, ofVal, tget, tput, ok, V.isUndef, intBin, guardOf, initT, Ch.on, calleeOf, withArgs, told, xport, xports, tids, tidss, hget, hput, Blk.ice, freeze, V.cells, D.cells, V.isAgg, V.one, V.clo, clos, V.toD, loadD, structAt, eqCells, D.scalarEq, sliceOf, partsD, partsV, bound, isPtr, Blk.width, elems, lenOf, splice, D.over, resOf, resV, resVs, ↓reduceIte, reduceCtorEq, ↓reduceDIte, Nat.reduceLT, Nat.reduceEqDiff, Nat.reduceAdd, Nat.reduceSub, Nat.reduceMul, Nat.reduceLeDiff, Nat.reduceBEq, Nat.reduceBNe, Int.reduceNeg, Int.reduceAdd, Int.reduceSub, Int.reduceToNat, nilTest, shiftH, Blk.ren, V.ren, renL, initV, frameH, putL, frρ, dI, dW, bWh, hslk, hj9, Nat.mul_one, List.length_cons, hwi]
    refine ⟨⟨by omega, by omega⟩, Weak.trans' (Weak.sealed (T' := [(9, .d (.int .i64 ((i + 1 : Nat) : Int))), (8, .agg (slotsV w)), (1, .d (.func (f, 0) [cd])), (2, .ptr 0 0 0), (4, .ptr 1 0 0)]) [2] (by simp [tget, sealF])) ?_⟩
    have hS : ∀ (X Y : List V) (E : List D), sealH [.box false X, .box false Y, .dat false 2 E] [2] = [.box false (X.map (sealF [.box false X, .box false Y, .dat false 2 E] [2])), .box false (Y.map (sealF [.box false X, .box false Y, .dat false 2 E] [2])), .dat true 2 E] := fun _ _ _ => rfl
    rw [hS, seal_box (l := l.filter fun x => !p x) (by rw [hwl]; omega) rfl (take_delR p l), wkW_set hli]
    exact Weak.trims 2 rfl (by simp [tget, V.lower, lower_slots, lowerL]) (by simp [Blk.lower, lowerL, V.lower, lower_slots, sealF])
  · have h' : ¬ (((8 : Nat) : Int) < 8) := by omega
    have hs8' := wkW_len (w := w) (p := fun x => !p x) (i := 8) hs
    rw [wkW_all hs] at hs8' ⊢
    have hsl' : (slotsV (sieveW w.now w fun x => !p x)).length = 8 := by simp [slotsV, hs8']
    have hs9 : 8 ≤ (slotsV (sieveW w.now w fun x => !p x)).length := by omega
    have ht9 : List.take 8 (slotsV (sieveW w.now w fun x => !p x)) = slotsV (sieveW w.now w fun x => !p x) := List.take_of_length_le (by omega)
    simp (maxSteps := 2000000) -implicitDefEqProofs only [zz, zE, evop, ev, ofVal, tget, tput, ok, V.isUndef, intBin, guardOf, initT, Ch.on, calleeOf, withArgs, told, xport, xports, tids, tidss, hget, hput, Blk.ice, freeze, V.cells, D.cells, V.isAgg, V.one, V.clo, clos, V.toD, loadD, structAt, eqCells, D.scalarEq, sliceOf, partsD, partsV, bound, isPtr, Blk.width, elems, lenOf, splice, D.over, resOf, resV, resVs, ↓reduceIte, reduceCtorEq, ↓reduceDIte, Nat.reduceLT, Nat.reduceEqDiff, Nat.reduceAdd, Nat.reduceSub, Nat.reduceMul, Nat.reduceLeDiff, Nat.reduceBEq, Nat.reduceBNe, Int.reduceNeg, Int.reduceAdd, Int.reduceSub, Int.reduceToNat, nilTest, shiftH, Blk.ren, V.ren, renL, initV, frameH, putL, frρ, dI, dW, h', bWh, hsl', ht9, List.length_cons, slots_one]
    simp only [xports_slots _ hs8']
end Go.Proofs.Ytaejlmengfahnaa.AM
