/- The texts Fb, Rl, Fc, Fd, Fe, Ff, Fg, Fh, Fi, Ha, Hb, Hc, Am29, joined. -/
import Derived.Test.YthpapgbpmkgfeaaShB
import Derived.Test.YthpapgbpmkgfeaaJA2

/- Slices: clones, tests. -/
set_option linter.all false
set_option maxRecDepth 100000
namespace Go.Proofs.Ythpapgbpmkgfeaa.AM
open Go Go.RowKit

def dI (n : Int) : D := .int .i64 n
def dW (w : Int × Int) : D := .agg [.int .i64 w.1, .int .i64 w.2]

theorem c_Clone_int (els : List D) (h1 : els.length * 8 ≤ 140737488355328) (h2 : ∀ e ∈ els, okEl 1 e = true) : CSpec Try.prog 68 [.vec els] (.vec els) := by
  refine CSpec.of_awp envOf_ok hmix Try.func68 rfl (fun args w => Try.call68 args w) (by simp [Try.f68]) ?_
  simp only [Try.f68]
  simp (maxSteps := 2000000) -implicitDefEqProofs only [zz, zE, evop, ev, ofVal, tget, tput, ok, V.isUndef, intBin, guardOf, initT, Ch.on, calleeOf, withArgs, told, xport, xports, tids, tidss, hget, hput, Blk.ice, freeze, V.cells, D.cells, V.isAgg, V.one, V.clo, clos, V.toD, loadD, structAt, eqCells, D.scalarEq, sliceOf, partsD, partsV, bound, isPtr, Blk.width, elems, lenOf, splice, D.over, resOf, resV, resVs, ↓reduceIte, reduceCtorEq, ↓reduceDIte, Nat.reduceLT, Nat.reduceEqDiff, Nat.reduceAdd, Nat.reduceSub, Nat.reduceMul, Nat.reduceLeDiff, Nat.reduceBEq, Nat.reduceBNe, Int.reduceNeg, Int.reduceAdd, Int.reduceSub, Int.reduceToNat, nilTest, shiftH, Blk.ren, V.ren, renL, initV, frameH, putL, frρ, dI, dW]
  exact ⟨fun h => by rw [h], ⟨h1, h2⟩, by simp⟩

theorem c_Clone_W (els : List D) (h1 : els.length * 16 ≤ 140737488355328) (h2 : ∀ e ∈ els, okEl 2 e = true) : CSpec Try.prog 54 [.vec els] (.vec els) := by
  refine CSpec.of_awp envOf_ok hmix Try.func54 rfl (fun args w => Try.call54 args w) (by simp [Try.f54]) ?_
  simp only [Try.f54]
  simp (maxSteps := 2000000) -implicitDefEqProofs only [zz, zE, evop, ev, ofVal, tget, tput, ok, V.isUndef, intBin, guardOf, initT, Ch.on, calleeOf, withArgs, told, xport, xports, tids, tidss, hget, hput, Blk.ice, freeze, V.cells, D.cells, V.isAgg, V.one, V.clo, clos, V.toD, loadD, structAt, eqCells, D.scalarEq, sliceOf, partsD, partsV, bound, isPtr, Blk.width, elems, lenOf, splice, D.over, resOf, resV, resVs, ↓reduceIte, reduceCtorEq, ↓reduceDIte, Nat.reduceLT, Nat.reduceEqDiff, Nat.reduceAdd, Nat.reduceSub, Nat.reduceMul, Nat.reduceLeDiff, Nat.reduceBEq, Nat.reduceBNe, Int.reduceNeg, Int.reduceAdd, Int.reduceSub, Int.reduceToNat, nilTest, shiftH, Blk.ren, V.ren, renL, initV, frameH, putL, frρ, dI, dW]
  exact ⟨fun h => by rw [h], ⟨h1, h2⟩, by simp⟩

theorem c_Clone_C (els : List D) (h1 : els.length * 16 ≤ 140737488355328) (h2 : ∀ e ∈ els, okEl 2 e = true) : CSpec Try.prog 64 [.vec els] (.vec els) := by
  refine CSpec.of_awp envOf_ok hmix Try.func64 rfl (fun args w => Try.call64 args w) (by simp [Try.f64]) ?_
  simp only [Try.f64]
  simp (maxSteps := 2000000) -implicitDefEqProofs only [zz, zE, evop, ev, ofVal, tget, tput, ok, V.isUndef, intBin, guardOf, initT, Ch.on, calleeOf, withArgs, told, xport, xports, tids, tidss, hget, hput, Blk.ice, freeze, V.cells, D.cells, V.isAgg, V.one, V.clo, clos, V.toD, loadD, structAt, eqCells, D.scalarEq, sliceOf, partsD, partsV, bound, isPtr, Blk.width, elems, lenOf, splice, D.over, resOf, resV, resVs, ↓reduceIte, reduceCtorEq, ↓reduceDIte, Nat.reduceLT, Nat.reduceEqDiff, Nat.reduceAdd, Nat.reduceSub, Nat.reduceMul, Nat.reduceLeDiff, Nat.reduceBEq, Nat.reduceBNe, Int.reduceNeg, Int.reduceAdd, Int.reduceSub, Int.reduceToNat, nilTest, shiftH, Blk.ren, V.ren, renL, initV, frameH, putL, frρ, dI, dW]
  exact ⟨fun h => by rw [h], ⟨h1, h2⟩, by simp⟩

theorem c_isNaN (n : Int) : CSpec Try.prog 75 [.int .i64 n] (.bool false) := by
  refine CSpec.of_awp envOf_ok hmix Try.func75 rfl (fun args w => Try.call75 args w) (by simp [Try.f75]) ?_
  simp only [Try.f75]
  simp (maxSteps := 2000000) -implicitDefEqProofs only [zz, zE, evop, ev, ofVal, tget, tput, ok, V.isUndef, intBin, guardOf, initT, Ch.on, calleeOf, withArgs, told, xport, xports, tids, tidss, hget, hput, Blk.ice, freeze, V.cells, D.cells, V.isAgg, V.one, V.clo, clos, V.toD, loadD, structAt, eqCells, D.scalarEq, sliceOf, partsD, partsV, bound, isPtr, Blk.width, elems, lenOf, splice, D.over, resOf, resV, resVs, ↓reduceIte, reduceCtorEq, ↓reduceDIte, Nat.reduceLT, Nat.reduceEqDiff, Nat.reduceAdd, Nat.reduceSub, Nat.reduceMul, Nat.reduceLeDiff, Nat.reduceBEq, Nat.reduceBNe, Int.reduceNeg, Int.reduceAdd, Int.reduceSub, Int.reduceToNat, nilTest, shiftH, Blk.ren, V.ren, renL, initV, frameH, putL, frρ, dI, dW]

theorem c_Less (a b : Int) : CSpec Try.prog 73 [.int .i64 a, .int .i64 b] (.bool (decide (a < b))) := by
  refine CSpec.of_awp envOf_ok hmix Try.func73 rfl (fun args w => Try.call73 args w) (by simp [Try.f73]) ?_
  simp only [Try.f73]
  simp (maxSteps := 2000000) -implicitDefEqProofs only [zz, zE, evop, ev, ofVal, tget, tput, ok, V.isUndef, intBin, guardOf, initT, Ch.on, calleeOf, withArgs, told, xport, xports, tids, tidss, hget, hput, Blk.ice, freeze, V.cells, D.cells, V.isAgg, V.one, V.clo, clos, V.toD, loadD, structAt, eqCells, D.scalarEq, sliceOf, partsD, partsV, bound, isPtr, Blk.width, elems, lenOf, splice, D.over, resOf, resV, resVs, ↓reduceIte, reduceCtorEq, ↓reduceDIte, Nat.reduceLT, Nat.reduceEqDiff, Nat.reduceAdd, Nat.reduceSub, Nat.reduceMul, Nat.reduceLeDiff, Nat.reduceBEq, Nat.reduceBNe, Int.reduceNeg, Int.reduceAdd, Int.reduceSub, Int.reduceToNat, nilTest, shiftH, Blk.ren, V.ren, renL, initV, frameH, putL, frρ, dI, dW]
  refine acall_flat (by first | rfl | (simp only [xports, xport, hget]; rfl)) (c_isNaN _) rfl ?_
  try simp (maxSteps := 2000000) -implicitDefEqProofs only [zz, zE, evop, ev, ofVal, tget, tput, ok, V.isUndef, intBin, guardOf, initT, Ch.on, calleeOf, withArgs, told, xport, xports, tids, tidss, hget, hput, Blk.ice, freeze, V.cells, D.cells, V.isAgg, V.one, V.clo, clos, V.toD, loadD, structAt, eqCells, D.scalarEq, sliceOf, partsD, partsV, bound, isPtr, Blk.width, elems, lenOf, splice, D.over, resOf, resV, resVs, ↓reduceIte, reduceCtorEq, ↓reduceDIte, Nat.reduceLT, Nat.reduceEqDiff, Nat.reduceAdd, Nat.reduceSub, Nat.reduceMul, Nat.reduceLeDiff, Nat.reduceBEq, Nat.reduceBNe, Int.reduceNeg, Int.reduceAdd, Int.reduceSub, Int.reduceToNat, nilTest, shiftH, Blk.ren, V.ren, renL, initV, frameH, putL, frρ, dI, dW]

theorem c_wrong (w : Int × Int) : CSpec Try.prog 45 [dW w] (.bool (decide (w.1 < 0) || !spanR w.2)) := by
  refine CSpec.of_awp envOf_ok hmix Try.func45 rfl (fun args w => Try.call45 args w) (by simp [Try.f45]) ?_
  simp only [Try.f45]
  simp (maxSteps := 2000000) -implicitDefEqProofs only [zz, zE, evop, ev, ofVal, tget, tput, ok, V.isUndef, intBin, guardOf, initT, Ch.on, calleeOf, withArgs, told, xport, xports, tids, tidss, hget, hput, Blk.ice, freeze, V.cells, D.cells, V.isAgg, V.one, V.clo, clos, V.toD, loadD, structAt, eqCells, D.scalarEq, sliceOf, partsD, partsV, bound, isPtr, Blk.width, elems, lenOf, splice, D.over, resOf, resV, resVs, ↓reduceIte, reduceCtorEq, ↓reduceDIte, Nat.reduceLT, Nat.reduceEqDiff, Nat.reduceAdd, Nat.reduceSub, Nat.reduceMul, Nat.reduceLeDiff, Nat.reduceBEq, Nat.reduceBNe, Int.reduceNeg, Int.reduceAdd, Int.reduceSub, Int.reduceToNat, nilTest, shiftH, Blk.ren, V.ren, renL, initV, frameH, putL, frρ, dI, dW]
  split
  · rename_i h
    refine acall_flat (by first | rfl | (simp only [xports, xport, hget]; rfl)) (c_span_Right _) rfl ?_
    try simp (maxSteps := 2000000) -implicitDefEqProofs only [zz, zE, evop, ev, ofVal, tget, tput, ok, V.isUndef, intBin, guardOf, initT, Ch.on, calleeOf, withArgs, told, xport, xports, tids, tidss, hget, hput, Blk.ice, freeze, V.cells, D.cells, V.isAgg, V.one, V.clo, clos, V.toD, loadD, structAt, eqCells, D.scalarEq, sliceOf, partsD, partsV, bound, isPtr, Blk.width, elems, lenOf, splice, D.over, resOf, resV, resVs, ↓reduceIte, reduceCtorEq, ↓reduceDIte, Nat.reduceLT, Nat.reduceEqDiff, Nat.reduceAdd, Nat.reduceSub, Nat.reduceMul, Nat.reduceLeDiff, Nat.reduceBEq, Nat.reduceBNe, Int.reduceNeg, Int.reduceAdd, Int.reduceSub, Int.reduceToNat, nilTest, shiftH, Blk.ren, V.ren, renL, initV, frameH, putL, frρ, dI, dW]
    simp only [h]; simp
  · rename_i h; simp at h; simp [h]

/-- Where the first one is of which p tells so. -/
def idxOf {α : Type} (p : α → Bool) (l : List α) : Int := match l.findIdx? p with
  | some i => i
  | none => -1

theorem findIdx_at {α : Type} {p : α → Bool} {l : List α} {i : Nat} (h : i < l.length) (hb : ∀ j < i, ∀ x, l[j]? = some x → p x = false) (hp : p l[i] = true) : l.findIdx? p = some i := by
  rw [List.findIdx?_eq_some_iff_getElem]
  exact ⟨h, hp, fun j hj => by simpa using hb j hj _ (List.getElem?_eq_getElem (by omega))⟩

theorem c_IndexFunc_int (ns : List Int) (f : Nat) (cap : List D) (p : Int → Bool) (hl : ns.length ≤ 1000000) (hcap : cap.length ≤ 8) (hp : ∀ n ∈ ns, CSpec Try.prog f (dI n :: cap) (.bool (p n))) : CSpec Try.prog 72 [.vec (ns.map dI), .func (f, 0) cap] (.int .i64 (idxOf p ns)) := by
  refine CSpec.of_awp envOf_ok hmix Try.func72 rfl (fun args w => Try.call72 args w) (by simp [Try.f72]) ?_
  simp only [Try.f72]
  simp (maxSteps := 2000000) -implicitDefEqProofs only [zz, zE, evop, ev, ofVal, tget, tput, ok, V.isUndef, intBin, guardOf, initT, Ch.on, calleeOf, withArgs, told, xport, xports, tids, tidss, hget, hput, Blk.ice, freeze, V.cells, D.cells, V.isAgg, V.one, V.clo, clos, V.toD, loadD, structAt, eqCells, D.scalarEq, sliceOf, partsD, partsV, bound, isPtr, Blk.width, elems, lenOf, splice, D.over, resOf, resV, resVs, ↓reduceIte, reduceCtorEq, ↓reduceDIte, Nat.reduceLT, Nat.reduceEqDiff, Nat.reduceAdd, Nat.reduceSub, Nat.reduceMul, Nat.reduceLeDiff, Nat.reduceBEq, Nat.reduceBNe, Int.reduceNeg, Int.reduceAdd, Int.reduceSub, Int.reduceToNat, nilTest, shiftH, Blk.ren, V.ren, renL, initV, frameH, putL, frρ, dI, dW]
  refine wloop_ind (σ := Nat) (fun i => ns.length - i) (fun i => [(8, .d (.int .i64 i)), (7, .d (.int .i64 ns.length)), (4, .d (.int .i64 0)), (0, .d (.vec (ns.map dI))), (1, .d (.func (f, 0) cap))]) (fun _ => []) (fun i => i ≤ ns.length ∧ ∀ j < i, ∀ x, ns[j]? = some x → p x = false) 0 ⟨Nat.zero_le _, fun j hj => by omega⟩ (Weak.sub (by simp [tget])) ?_
  intro i ⟨hi, hb⟩
  rcases Nat.lt_or_ge i ns.length with h | h
  · have hx : ns[i]? = some ns[i] := List.getElem?_eq_getElem h
    have h' : ((i : Int) < (ns.length : Int)) := by omega
    simp (maxSteps := 2000000) -implicitDefEqProofs only [zz, zE, evop, ev, ofVal, tget, tput, ok, V.isUndef, intBin, guardOf, initT, Ch.on, calleeOf, withArgs, told, xport, xports, tids, tidss, hget, hput, Blk.ice, freeze, V.cells, D.cells, V.isAgg, V.one, V.clo, clos, V.toD, loadD, structAt, eqCells, D.scalarEq, sliceOf, partsD, partsV, bound, isPtr, Blk.width, elems, lenOf, splice, D.over, resOf, resV, resVs, ↓reduceIte, reduceCtorEq, ↓reduceDIte, Nat.reduceLT, Nat.reduceEqDiff, Nat.reduceAdd, Nat.reduceSub, Nat.reduceMul, Nat.reduceLeDiff, Nat.reduceBEq, Nat.reduceBNe, Int.reduceNeg, Int.reduceAdd, Int.reduceSub, Int.reduceToNat, nilTest, shiftH, Blk.ren, V.ren, renL, initV, frameH, putL, frρ, dI, dW, h', List.getElem?_map, hx, Option.map_some, Int.natCast_nonneg]
    refine acall_flat (ds := dI ns[i] :: cap) (by simp only [xports, xport, xports_ds cap 11 (by omega), dI]) (hp _ (List.getElem_mem h)) rfl ?_
    simp (maxSteps := 2000000) -implicitDefEqProofs only [zz, zE, evop, ev, ofVal, tget, tput, ok, V.isUndef, intBin, guardOf, initT, Ch.on, calleeOf, withArgs, told, xport, xports, tids, tidss, hget, hput, Blk.ice, freeze, V.cells, D.cells, V.isAgg, V.one, V.clo, clos, V.toD, loadD, structAt, eqCells, D.scalarEq, sliceOf, partsD, partsV, bound, isPtr, Blk.width, elems, lenOf, splice, D.over, resOf, resV, resVs, ↓reduceIte, reduceCtorEq, ↓reduceDIte, Nat.reduceLT, Nat.reduceEqDiff, Nat.reduceAdd, Nat.reduceSub, Nat.reduceMul, Nat.reduceLeDiff, Nat.reduceBEq, Nat.reduceBNe, Int.reduceNeg, Int.reduceAdd, Int.reduceSub, Int.reduceToNat, nilTest, shiftH, Blk.ren, V.ren, renL, initV, frameH, putL, frρ, dI, dW]
    split
    · rename_i hpx
      simp [idxOf, findIdx_at h hb hpx]
    · rename_i hpx
      refine ⟨i + 1, ⟨h, fun j hj x hxj => ?_⟩, by omega, Weak.sub ?_⟩
      · rcases Nat.lt_or_ge j i with hji | hji
        · exact hb j hji x hxj
        · have : j = i := by omega
          subst this
          rw [hx] at hxj; cases hxj
          simpa using hpx
      · have hw : IntKind.i64.wrap ((i : Int) + 1) = (i : Int) + 1 := by rw [IntKind.wrap_i64]; omega
        simp [tget, hw]
  · have h' : ¬ ((i : Int) < (ns.length : Int)) := by omega
    simp (maxSteps := 2000000) -implicitDefEqProofs only [zz, zE, evop, ev, ofVal, tget, tput, ok, V.isUndef, intBin, guardOf, initT, Ch.on, calleeOf, withArgs, told, xport, xports, tids, tidss, hget, hput, Blk.ice, freeze, V.cells, D.cells, V.isAgg, V.one, V.clo, clos, V.toD, loadD, structAt, eqCells, D.scalarEq, sliceOf, partsD, partsV, bound, isPtr, Blk.width, elems, lenOf, splice, D.over, resOf, resV, resVs, ↓reduceIte, reduceCtorEq, ↓reduceDIte, Nat.reduceLT, Nat.reduceEqDiff, Nat.reduceAdd, Nat.reduceSub, Nat.reduceMul, Nat.reduceLeDiff, Nat.reduceBEq, Nat.reduceBNe, Int.reduceNeg, Int.reduceAdd, Int.reduceSub, Int.reduceToNat, nilTest, shiftH, Blk.ren, V.ren, renL, initV, frameH, putL, frρ, dI, dW, h']
    have : ns.findIdx? p = none := by
      rw [List.findIdx?_eq_none_iff]
      intro x hx
      obtain ⟨j, hj, rfl⟩ := List.getElem_of_mem hx
      simpa using hb j (by omega) _ (List.getElem?_eq_getElem hj)
    simp [idxOf, this]
theorem c_IndexFunc_W (ns : List (Int × Int)) (f : Nat) (cap : List D) (p : Int × Int → Bool) (hl : ns.length ≤ 1000000) (hcap : cap.length ≤ 8) (hp : ∀ n ∈ ns, CSpec Try.prog f (dW n :: cap) (.bool (p n))) : CSpec Try.prog 71 [.vec (ns.map dW), .func (f, 0) cap] (.int .i64 (idxOf p ns)) := by
  refine CSpec.of_awp envOf_ok hmix Try.func71 rfl (fun args w => Try.call71 args w) (by simp [Try.f71]) ?_
  simp only [Try.f71]
  simp (maxSteps := 2000000) -implicitDefEqProofs only [zz, zE, evop, ev, ofVal, tget, tput, ok, V.isUndef, intBin, guardOf, initT, Ch.on, calleeOf, withArgs, told, xport, xports, tids, tidss, hget, hput, Blk.ice, freeze, V.cells, D.cells, V.isAgg, V.one, V.clo, clos, V.toD, loadD, structAt, eqCells, D.scalarEq, sliceOf, partsD, partsV, bound, isPtr, Blk.width, elems, lenOf, splice, D.over, resOf, resV, resVs, ↓reduceIte, reduceCtorEq, ↓reduceDIte, Nat.reduceLT, Nat.reduceEqDiff, Nat.reduceAdd, Nat.reduceSub, Nat.reduceMul, Nat.reduceLeDiff, Nat.reduceBEq, Nat.reduceBNe, Int.reduceNeg, Int.reduceAdd, Int.reduceSub, Int.reduceToNat, nilTest, shiftH, Blk.ren, V.ren, renL, initV, frameH, putL, frρ, dI, dW]
  refine wloop_ind (σ := Nat) (fun i => ns.length - i) (fun i => [(8, .d (.int .i64 i)), (7, .d (.int .i64 ns.length)), (4, .d (.int .i64 0)), (0, .d (.vec (ns.map dW))), (1, .d (.func (f, 0) cap))]) (fun _ => []) (fun i => i ≤ ns.length ∧ ∀ j < i, ∀ x, ns[j]? = some x → p x = false) 0 ⟨Nat.zero_le _, fun j hj => by omega⟩ (Weak.sub (by simp [tget])) ?_
  intro i ⟨hi, hb⟩
  rcases Nat.lt_or_ge i ns.length with h | h
  · have hx : ns[i]? = some ns[i] := List.getElem?_eq_getElem h
    have h' : ((i : Int) < (ns.length : Int)) := by omega
    simp (maxSteps := 2000000) -implicitDefEqProofs only [zz, zE, evop, ev, ofVal, tget, tput, ok, V.isUndef, intBin, guardOf, initT, Ch.on, calleeOf, withArgs, told, xport, xports, tids, tidss, hget, hput, Blk.ice, freeze, V.cells, D.cells, V.isAgg, V.one, V.clo, clos, V.toD, loadD, structAt, eqCells, D.scalarEq, sliceOf, partsD, partsV, bound, isPtr, Blk.width, elems, lenOf, splice, D.over, resOf, resV, resVs, ↓reduceIte, reduceCtorEq, ↓reduceDIte, Nat.reduceLT, Nat.reduceEqDiff, Nat.reduceAdd, Nat.reduceSub, Nat.reduceMul, Nat.reduceLeDiff, Nat.reduceBEq, Nat.reduceBNe, Int.reduceNeg, Int.reduceAdd, Int.reduceSub, Int.reduceToNat, nilTest, shiftH, Blk.ren, V.ren, renL, initV, frameH, putL, frρ, dI, dW, h', List.getElem?_map, hx, Option.map_some, Int.natCast_nonneg]
    refine acall_flat (ds := dW ns[i] :: cap) (by simp only [xports, xport, xports_ds cap 11 (by omega), dW]) (hp _ (List.getElem_mem h)) rfl ?_
    simp (maxSteps := 2000000) -implicitDefEqProofs only [zz, zE, evop, ev, ofVal, tget, tput, ok, V.isUndef, intBin, guardOf, initT, Ch.on, calleeOf, withArgs, told, xport, xports, tids, tidss, hget, hput, Blk.ice, freeze, V.cells, D.cells, V.isAgg, V.one, V.clo, clos, V.toD, loadD, structAt, eqCells, D.scalarEq, sliceOf, partsD, partsV, bound, isPtr, Blk.width, elems, lenOf, splice, D.over, resOf, resV, resVs, ↓reduceIte, reduceCtorEq, ↓reduceDIte, Nat.reduceLT, Nat.reduceEqDiff, Nat.reduceAdd, Nat.reduceSub, Nat.reduceMul, Nat.reduceLeDiff, Nat.reduceBEq, Nat.reduceBNe, Int.reduceNeg, Int.reduceAdd, Int.reduceSub, Int.reduceToNat, nilTest, shiftH, Blk.ren, V.ren, renL, initV, frameH, putL, frρ, dI, dW]
    split
    · rename_i hpx
      simp [idxOf, findIdx_at h hb hpx]
    · rename_i hpx
      refine ⟨i + 1, ⟨h, fun j hj x hxj => ?_⟩, by omega, Weak.sub ?_⟩
      · rcases Nat.lt_or_ge j i with hji | hji
        · exact hb j hji x hxj
        · have : j = i := by omega
          subst this
          rw [hx] at hxj; cases hxj
          simpa using hpx
      · have hw : IntKind.i64.wrap ((i : Int) + 1) = (i : Int) + 1 := by rw [IntKind.wrap_i64]; omega
        simp [tget, hw]
  · have h' : ¬ ((i : Int) < (ns.length : Int)) := by omega
    simp (maxSteps := 2000000) -implicitDefEqProofs only [zz, zE, evop, ev, ofVal, tget, tput, ok, V.isUndef, intBin, guardOf, initT, Ch.on, calleeOf, withArgs, told, xport, xports, tids, tidss, hget, hput, Blk.ice, freeze, V.cells, D.cells, V.isAgg, V.one, V.clo, clos, V.toD, loadD, structAt, eqCells, D.scalarEq, sliceOf, partsD, partsV, bound, isPtr, Blk.width, elems, lenOf, splice, D.over, resOf, resV, resVs, ↓reduceIte, reduceCtorEq, ↓reduceDIte, Nat.reduceLT, Nat.reduceEqDiff, Nat.reduceAdd, Nat.reduceSub, Nat.reduceMul, Nat.reduceLeDiff, Nat.reduceBEq, Nat.reduceBNe, Int.reduceNeg, Int.reduceAdd, Int.reduceSub, Int.reduceToNat, nilTest, shiftH, Blk.ren, V.ren, renL, initV, frameH, putL, frρ, dI, dW, h']
    have : ns.findIdx? p = none := by
      rw [List.findIdx?_eq_none_iff]
      intro x hx
      obtain ⟨j, hj, rfl⟩ := List.getElem_of_mem hx
      simpa using hb j (by omega) _ (List.getElem?_eq_getElem hj)
    simp [idxOf, this]

theorem idxOf_nonneg {α : Type} (p : α → Bool) (l : List α) : decide (0 ≤ idxOf p l) = l.any p := by
  unfold idxOf
  cases h : l.findIdx? p with
  | none =>
    rw [List.findIdx?_eq_none_iff] at h
    have : l.any p = false := by simpa using h
    simp [this]
  | some i =>
    rw [List.findIdx?_eq_some_iff_getElem] at h
    obtain ⟨h1, h2, _⟩ := h
    have : l.any p = true := List.any_eq_true.2 ⟨_, List.getElem_mem h1, h2⟩
    simp [this]

theorem c_ContainsFunc_int (ns : List Int) (f : Nat) (cap : List D) (p : Int → Bool) (hl : ns.length ≤ 1000000) (hcap : cap.length ≤ 8) (hp : ∀ n ∈ ns, CSpec Try.prog f (dI n :: cap) (.bool (p n))) : CSpec Try.prog 52 [.vec (ns.map dI), .func (f, 0) cap] (.bool (ns.any p)) := by
  refine CSpec.of_awp envOf_ok hmix Try.func52 rfl (fun args w => Try.call52 args w) (by simp [Try.f52]) ?_
  simp only [Try.f52]
  simp (maxSteps := 2000000) -implicitDefEqProofs only [zz, zE, evop, ev, ofVal, tget, tput, ok, V.isUndef, intBin, guardOf, initT, Ch.on, calleeOf, withArgs, told, xport, xports, tids, tidss, hget, hput, Blk.ice, freeze, V.cells, D.cells, V.isAgg, V.one, V.clo, clos, V.toD, loadD, structAt, eqCells, D.scalarEq, sliceOf, partsD, partsV, bound, isPtr, Blk.width, elems, lenOf, splice, D.over, resOf, resV, resVs, ↓reduceIte, reduceCtorEq, ↓reduceDIte, Nat.reduceLT, Nat.reduceEqDiff, Nat.reduceAdd, Nat.reduceSub, Nat.reduceMul, Nat.reduceLeDiff, Nat.reduceBEq, Nat.reduceBNe, Int.reduceNeg, Int.reduceAdd, Int.reduceSub, Int.reduceToNat, nilTest, shiftH, Blk.ren, V.ren, renL, initV, frameH, putL, frρ, dI, dW]
  refine acall_flat (by first | rfl | (simp only [xports, xport, hget]; rfl)) (c_IndexFunc_int ns f cap p hl hcap hp) rfl ?_
  try simp (maxSteps := 2000000) -implicitDefEqProofs only [zz, zE, evop, ev, ofVal, tget, tput, ok, V.isUndef, intBin, guardOf, initT, Ch.on, calleeOf, withArgs, told, xport, xports, tids, tidss, hget, hput, Blk.ice, freeze, V.cells, D.cells, V.isAgg, V.one, V.clo, clos, V.toD, loadD, structAt, eqCells, D.scalarEq, sliceOf, partsD, partsV, bound, isPtr, Blk.width, elems, lenOf, splice, D.over, resOf, resV, resVs, ↓reduceIte, reduceCtorEq, ↓reduceDIte, Nat.reduceLT, Nat.reduceEqDiff, Nat.reduceAdd, Nat.reduceSub, Nat.reduceMul, Nat.reduceLeDiff, Nat.reduceBEq, Nat.reduceBNe, Int.reduceNeg, Int.reduceAdd, Int.reduceSub, Int.reduceToNat, nilTest, shiftH, Blk.ren, V.ren, renL, initV, frameH, putL, frρ, dI, dW]
  rw [idxOf_nonneg]

theorem c_ContainsFunc_W (ns : List (Int × Int)) (f : Nat) (cap : List D) (p : Int × Int → Bool) (hl : ns.length ≤ 1000000) (hcap : cap.length ≤ 8) (hp : ∀ n ∈ ns, CSpec Try.prog f (dW n :: cap) (.bool (p n))) : CSpec Try.prog 51 [.vec (ns.map dW), .func (f, 0) cap] (.bool (ns.any p)) := by
  refine CSpec.of_awp envOf_ok hmix Try.func51 rfl (fun args w => Try.call51 args w) (by simp [Try.f51]) ?_
  simp only [Try.f51]
  simp (maxSteps := 2000000) -implicitDefEqProofs only [zz, zE, evop, ev, ofVal, tget, tput, ok, V.isUndef, intBin, guardOf, initT, Ch.on, calleeOf, withArgs, told, xport, xports, tids, tidss, hget, hput, Blk.ice, freeze, V.cells, D.cells, V.isAgg, V.one, V.clo, clos, V.toD, loadD, structAt, eqCells, D.scalarEq, sliceOf, partsD, partsV, bound, isPtr, Blk.width, elems, lenOf, splice, D.over, resOf, resV, resVs, ↓reduceIte, reduceCtorEq, ↓reduceDIte, Nat.reduceLT, Nat.reduceEqDiff, Nat.reduceAdd, Nat.reduceSub, Nat.reduceMul, Nat.reduceLeDiff, Nat.reduceBEq, Nat.reduceBNe, Int.reduceNeg, Int.reduceAdd, Int.reduceSub, Int.reduceToNat, nilTest, shiftH, Blk.ren, V.ren, renL, initV, frameH, putL, frρ, dI, dW]
  refine acall_flat (by first | rfl | (simp only [xports, xport, hget]; rfl)) (c_IndexFunc_W ns f cap p hl hcap hp) rfl ?_
  try simp (maxSteps := 2000000) -implicitDefEqProofs only [zz, zE, evop, ev, ofVal, tget, tput, ok, V.isUndef, intBin, guardOf, initT, Ch.on, calleeOf, withArgs, told, xport, xports, tids, tidss, hget, hput, Blk.ice, freeze, V.cells, D.cells, V.isAgg, V.one, V.clo, clos, V.toD, loadD, structAt, eqCells, D.scalarEq, sliceOf, partsD, partsV, bound, isPtr, Blk.width, elems, lenOf, splice, D.over, resOf, resV, resVs, ↓reduceIte, reduceCtorEq, ↓reduceDIte, Nat.reduceLT, Nat.reduceEqDiff, Nat.reduceAdd, Nat.reduceSub, Nat.reduceMul, Nat.reduceLeDiff, Nat.reduceBEq, Nat.reduceBNe, Int.reduceNeg, Int.reduceAdd, Int.reduceSub, Int.reduceToNat, nilTest, shiftH, Blk.ren, V.ren, renL, initV, frameH, putL, frρ, dI, dW]
  rw [idxOf_nonneg]

/-- Is a list in order? -/
def srt : List Int → Bool
  | a :: b :: r => decide (a ≤ b) && srt (b :: r)
  | _ => true

theorem srt_iff : ∀ (l : List Int), srt l = true ↔ ∀ i x y, l[i]? = some x → l[i + 1]? = some y → x ≤ y
  | [] => by simp [srt]
  | [a] => by simp [srt]
  | a :: b :: r => by
    simp only [srt, Bool.and_eq_true, decide_eq_true_eq, srt_iff (b :: r)]
    constructor
    · rintro ⟨h1, h2⟩ i x y hx hy
      cases i with
      | zero => simp at hx hy; subst hx; subst hy; exact h1
      | succ i => exact h2 i x y (by simpa using hx) (by simpa using hy)
    · intro h
      exact ⟨h 0 a b rfl rfl, fun i x y hx hy => h (i + 1) x y (by simpa using hx) (by simpa using hy)⟩

theorem c_IsSorted (ns : List Int) (hl : ns.length ≤ 1000000) : CSpec Try.prog 53 [.vec (ns.map dI)] (.bool (srt ns)) := by
  refine CSpec.of_awp envOf_ok hmix Try.func53 rfl (fun args w => Try.call53 args w) (by simp [Try.f53]) ?_
  simp only [Try.f53]
  simp (maxSteps := 2000000) -implicitDefEqProofs only [zz, zE, evop, ev, ofVal, tget, tput, ok, V.isUndef, intBin, guardOf, initT, Ch.on, calleeOf, withArgs, told, xport, xports, tids, tidss, hget, hput, Blk.ice, freeze, V.cells, D.cells, V.isAgg, V.one, V.clo, clos, V.toD, loadD, structAt, eqCells, D.scalarEq, sliceOf, partsD, partsV, bound, isPtr, Blk.width, elems, lenOf, splice, D.over, resOf, resV, resVs, ↓reduceIte, reduceCtorEq, ↓reduceDIte, Nat.reduceLT, Nat.reduceEqDiff, Nat.reduceAdd, Nat.reduceSub, Nat.reduceMul, Nat.reduceLeDiff, Nat.reduceBEq, Nat.reduceBNe, Int.reduceNeg, Int.reduceAdd, Int.reduceSub, Int.reduceToNat, nilTest, shiftH, Blk.ren, V.ren, renL, initV, frameH, putL, frρ, dI, dW]
  have hw : IntKind.i64.wrap ((ns.length : Int) - 1) = (ns.length : Int) - 1 := by rw [IntKind.wrap_i64]; omega
  refine wloop_ind (σ := Int) (fun i => i.toNat) (fun i => [(3, .d (.int .i64 i)), (2, .d (.bool false)), (0, .d (.vec (ns.map dI)))]) (fun _ => []) (fun i => i < ns.length ∧ (∀ j : Nat, i ≤ j → ∀ x y, ns[j]? = some x → ns[j + 1]? = some y → x ≤ y)) ((ns.length : Int) - 1) ⟨by omega, fun j hj x y hx hy => ?_⟩ (Weak.sub (by simp [tget, hw])) ?_
  · have := (List.getElem?_eq_some_iff.1 hy).1; omega
  intro i ⟨hi, hb⟩
  rcases Int.lt_or_le 0 i with h | h
  · obtain ⟨k, rfl⟩ : ∃ k : Nat, i = (k : Int) + 1 := ⟨(i - 1).toNat, by omega⟩
    have h' : ((0 : Int) < (k : Int) + 1) := by omega
    have hw' : IntKind.i64.wrap ((k : Int) + 1 - 1) = (k : Int) := by rw [IntKind.wrap_i64]; omega
    have hk1 : k + 1 < ns.length := by omega
    have hx : ns[k]? = some ns[k] := List.getElem?_eq_getElem (by omega)
    have hy : ns[k + 1]? = some ns[k + 1] := List.getElem?_eq_getElem (by omega)
    have ht : ((k : Int) + 1).toNat = k + 1 := by omega
    simp (maxSteps := 2000000) -implicitDefEqProofs only [zz, zE, evop, ev, ofVal, tget, tput, ok, V.isUndef, intBin, guardOf, initT, Ch.on, calleeOf, withArgs, told, xport, xports, tids, tidss, hget, hput, Blk.ice, freeze, V.cells, D.cells, V.isAgg, V.one, V.clo, clos, V.toD, loadD, structAt, eqCells, D.scalarEq, sliceOf, partsD, partsV, bound, isPtr, Blk.width, elems, lenOf, splice, D.over, resOf, resV, resVs, ↓reduceIte, reduceCtorEq, ↓reduceDIte, Nat.reduceLT, Nat.reduceEqDiff, Nat.reduceAdd, Nat.reduceSub, Nat.reduceMul, Nat.reduceLeDiff, Nat.reduceBEq, Nat.reduceBNe, Int.reduceNeg, Int.reduceAdd, Int.reduceSub, Int.reduceToNat, nilTest, shiftH, Blk.ren, V.ren, renL, initV, frameH, putL, frρ, dI, dW, h']
    refine wdraw_plan [⟨[], false, [12, 15, 16, 17, 18, 19], [], false⟩, ⟨[], false, [11, 15, 16, 17, 18, 19], [0], false⟩, ⟨[0, 1], false, [15, 16, 17, 18, 19], [], false⟩, ⟨[0, 1, 2], false, [15, 16, 17, 18, 19], [], false⟩, ⟨[], false, [11, 12, 13, 14, 16, 17], [0, 1, 2, 3], false⟩, ⟨[], false, [11, 12, 13, 14, 15], [0, 1, 2, 3, 4], false⟩, ⟨[5], false, [11, 12, 13, 14, 15], [0, 1, 2, 3, 4], false⟩, ⟨[4, 5, 6], false, [11, 12, 13, 14], [0, 1, 2, 3], false⟩, ⟨[4, 5, 6, 7], false, [11, 12, 13, 14], [0, 1, 2, 3], false⟩, ⟨[0, 1, 2, 3, 4, 5, 6, 7, 8], true, [], [], false⟩] (by decide) ?_
    simp (maxSteps := 2000000) -implicitDefEqProofs only [zz, zE, evop, ev, ofVal, tget, tput, ok, V.isUndef, intBin, guardOf, initT, Ch.on, calleeOf, withArgs, told, xport, xports, tids, tidss, hget, hput, Blk.ice, freeze, V.cells, D.cells, V.isAgg, V.one, V.clo, clos, V.toD, loadD, structAt, eqCells, D.scalarEq, sliceOf, partsD, partsV, bound, isPtr, Blk.width, elems, lenOf, splice, D.over, resOf, resV, resVs, ↓reduceIte, reduceCtorEq, ↓reduceDIte, Nat.reduceLT, Nat.reduceEqDiff, Nat.reduceAdd, Nat.reduceSub, Nat.reduceMul, Nat.reduceLeDiff, Nat.reduceBEq, Nat.reduceBNe, Int.reduceNeg, Int.reduceAdd, Int.reduceSub, Int.reduceToNat, nilTest, shiftH, Blk.ren, V.ren, renL, initV, frameH, putL, frρ, dI, dW, h', hw', List.getElem?_map, hx, hy, ht, Option.map_some, Int.natCast_nonneg]
    refine ⟨by omega, ?_⟩
    refine acall_flat (by first | rfl | (simp only [xports, xport, hget]; rfl)) (c_Less _ _) rfl ?_
    try simp (maxSteps := 2000000) -implicitDefEqProofs only [zz, zE, evop, ev, ofVal, tget, tput, ok, V.isUndef, intBin, guardOf, initT, Ch.on, calleeOf, withArgs, told, xport, xports, tids, tidss, hget, hput, Blk.ice, freeze, V.cells, D.cells, V.isAgg, V.one, V.clo, clos, V.toD, loadD, structAt, eqCells, D.scalarEq, sliceOf, partsD, partsV, bound, isPtr, Blk.width, elems, lenOf, splice, D.over, resOf, resV, resVs, ↓reduceIte, reduceCtorEq, ↓reduceDIte, Nat.reduceLT, Nat.reduceEqDiff, Nat.reduceAdd, Nat.reduceSub, Nat.reduceMul, Nat.reduceLeDiff, Nat.reduceBEq, Nat.reduceBNe, Int.reduceNeg, Int.reduceAdd, Int.reduceSub, Int.reduceToNat, nilTest, shiftH, Blk.ren, V.ren, renL, initV, frameH, putL, frρ, dI, dW]
    split
    · rename_i hlt
      have : srt ns = false := by
        rw [Bool.eq_false_iff, ne_eq, srt_iff]
        intro hs
        have := hs k _ _ hx hy
        omega
      rw [this]
    · rename_i hlt
      refine ⟨k, ⟨by omega, fun j hj x y hxj hyj => ?_⟩, by omega, Weak.trims 0 rfl ?_ (by simp)⟩
      · by_cases e : j = k
        · subst e; rw [hx] at hxj; rw [hy] at hyj; cases hxj; cases hyj; omega
        · exact hb j (by omega) x y hxj hyj
      · have hw2 : IntKind.i64.wrap (k : Int) = (k : Int) := by rw [IntKind.wrap_i64]; omega
        simp [tget, hw', hw2, V.lower]
  · have h' : ¬ (0 < i) := by omega
    simp (maxSteps := 2000000) -implicitDefEqProofs only [zz, zE, evop, ev, ofVal, tget, tput, ok, V.isUndef, intBin, guardOf, initT, Ch.on, calleeOf, withArgs, told, xport, xports, tids, tidss, hget, hput, Blk.ice, freeze, V.cells, D.cells, V.isAgg, V.one, V.clo, clos, V.toD, loadD, structAt, eqCells, D.scalarEq, sliceOf, partsD, partsV, bound, isPtr, Blk.width, elems, lenOf, splice, D.over, resOf, resV, resVs, ↓reduceIte, reduceCtorEq, ↓reduceDIte, Nat.reduceLT, Nat.reduceEqDiff, Nat.reduceAdd, Nat.reduceSub, Nat.reduceMul, Nat.reduceLeDiff, Nat.reduceBEq, Nat.reduceBNe, Int.reduceNeg, Int.reduceAdd, Int.reduceSub, Int.reduceToNat, nilTest, shiftH, Blk.ren, V.ren, renL, initV, frameH, putL, frρ, dI, dW, h']
    have : srt ns = true := (srt_iff ns).2 (fun j x y hx hy => hb j (by omega) x y hx hy)
    rw [this]

/-! ### the log -/

abbrev Lg := List (Int × Int) × List Int
def dLg (l : Lg) : D := .agg [.vec (l.1.map dW), .vec (l.2.map dI)]
def wrongW (w : Int × Int) : Bool := decide (w.1 < 0) || !spanR w.2
def offI (k : Nat) (n : Int) : Bool := decide (n < 0) || decide ((k : Int) < n)
def logR (l : Lg) : Bool := decide (l.1.length ≤ 24) && decide (l.2.length ≤ 6) && !(l.1.any wrongW) && !(l.2.any (offI l.1.length)) && srt l.2

end Go.Proofs.Ythpapgbpmkgfeaa.AM

/- Logs and writes among a law's parameters. -/
set_option linter.all false
set_option maxRecDepth 100000
namespace Go.Proofs.Ythpapgbpmkgfeaa.AM
open Go Go.RowKit

theorem sh_int {P : Program} {n t : Nat} {k : IntKind} {ds : List D} (ht : P.underlying t = some (.int k)) (h : Sh P (n + 1) t ds) : ∃ x, ds = [.int k x] ∧ k.min ≤ x ∧ x ≤ k.max := by
  simp only [Sh, ht] at h
  obtain ⟨x, rfl, hw⟩ := h
  exact ⟨x, rfl, by simpa [Lit.wf] using hw⟩

theorem sh_list {P : Program} {n t e : Nat} {α : Type} {f : α → D} {g : α → Prop} {ds : List D} (ht : P.underlying t = some (.slice e)) (he : ∀ d, ShE P n e d → ∃ x, d = f x ∧ g x) (h : Sh P (n + 1) t ds) :
    ∃ xs : List α, ds = [.vec (xs.map f)] ∧ xs.length ≤ maxLen ∧ ∀ x ∈ xs, g x := by
  simp only [Sh, ht] at h
  obtain ⟨els, rfl, hl, hw⟩ := h
  have : ∀ els : List (List D), (∀ x ∈ els, Sh P n e x) → ∃ xs : List α, xs.length = els.length ∧ els.map (oneD P e) = xs.map f ∧ ∀ x ∈ xs, g x := by
    intro els
    induction els with
    | nil => exact fun _ => ⟨[], rfl, rfl, by simp⟩
    | cons a r ih =>
      intro h
      obtain ⟨y, hy, hg⟩ := he (oneD P e a) ⟨a, h a (by simp), rfl⟩
      obtain ⟨xs, h1, h2, h3⟩ := ih (fun x hx => h x (by simp [hx]))
      refine ⟨y :: xs, by simp [h1], by simp [h2, hy], ?_⟩
      intro x hx
      rcases List.mem_cons.1 hx with rfl | hx
      · exact hg
      · exact h3 x hx
  obtain ⟨xs, h1, h2, h3⟩ := this els hw
  exact ⟨xs, by rw [h2], by omega, h3⟩

theorem shE_W {n : Nat} {d : D} (h : ShE Try.prog (n + 2) 27 d) : ∃ w : Int × Int, d = dW w ∧ True := by
  obtain ⟨ds, h1, rfl⟩ := h
  simp only [Sh, Try.underlying27, ShF] at h1
  obtain ⟨p, q, rfl, hp, p2, q2, rfl, hp2, rfl⟩ := h1
  obtain ⟨x, rfl, _⟩ := sh_int (n := n) Try.underlying3 hp
  obtain ⟨y, rfl, _⟩ := sh_int (n := n) Try.underlying3 hp2
  exact ⟨(x, y), by simp [oneD, Try.underlying27, dW], trivial⟩

theorem shE_bool {P : Program} {n t : Nat} {d : D} (ht : P.underlying t = some .bool) (h : ShE P (n + 1) t d) : ∃ b, d = .bool b := by
  obtain ⟨ds, h1, rfl⟩ := h
  simp only [Sh, ht] at h1
  obtain ⟨b, rfl⟩ := h1
  exact ⟨b, by simp [oneD, ht]⟩

theorem shE_int1 {n : Nat} {d : D} (h : ShE Try.prog (n + 1) 3 d) : ∃ w : Int, d = dI w ∧ True := by
  obtain ⟨x, h1, _⟩ := shE_int Try.underlying3 h
  exact ⟨x, h1, trivial⟩

theorem shE_Ws {n : Nat} {d : D} (h : ShE Try.prog (n + 3) 22 d) : ∃ ws : List (Int × Int), d = .vec (ws.map dW) ∧ ws.length ≤ maxLen ∧ True := by
  obtain ⟨ds, h1, rfl⟩ := h
  obtain ⟨xs, rfl, hl, _⟩ := sh_list Try.underlying22 (fun d h => shE_W (n := n) h) h1
  exact ⟨xs, by simp [oneD, Try.underlying22], hl, trivial⟩

theorem shE_Log {n : Nat} {d : D} (h : ShE Try.prog (n + 4) 25 d) : ∃ L : Lg, d = dLg L ∧ L.1.length ≤ maxLen ∧ L.2.length ≤ maxLen := by
  obtain ⟨ds, h1, rfl⟩ := h
  simp only [Sh, Try.underlying25, ShF] at h1
  obtain ⟨p, q, rfl, hp, p2, q2, rfl, hp2, rfl⟩ := h1
  obtain ⟨xs, rfl, hl, _⟩ := sh_list (n := n + 2) Try.underlying22 (fun d h => shE_W (n := n) h) (by simpa only [Sh] using hp)
  obtain ⟨ys, rfl, hl2, _⟩ := sh_list (n := n + 2) Try.underlying23 (fun d h => shE_int1 (n := n + 1) h) (by simpa only [Sh] using hp2)
  exact ⟨(xs, ys), by simp [oneD, Try.underlying25, dLg], hl, hl2⟩

end Go.Proofs.Ythpapgbpmkgfeaa.AM

/- The log of writes: is it one? -/
set_option linter.all false
set_option maxRecDepth 100000
set_option maxHeartbeats 4000000
namespace Go.Proofs.Ythpapgbpmkgfeaa.AM
open Go Go.RowKit

theorem wrap_in {x : Int} (h : -9223372036854775808 ≤ x ∧ x ≤ 9223372036854775807) : IntKind.i64.wrap x = x := by rw [IntKind.wrap_i64]; omega

theorem c_Right1 (n : Int) (l : Lg) : CSpec Try.prog 50 [dI n, .imm (dLg l) 0] (.bool (offI l.1.length n)) := by
  refine CSpec.of_awp envOf_ok hmix Try.func50 rfl (fun args w => Try.call50 args w) (by simp [Try.f50]) ?_
  simp only [Try.f50]
  simp (maxSteps := 2000000) -implicitDefEqProofs only [zz, zE, evop, ev, ofVal, tget, tput, ok, V.isUndef, intBin, guardOf, initT, Ch.on, calleeOf, withArgs, told, xport, xports, tids, tidss, hget, hput, Blk.ice, freeze, V.cells, D.cells, V.isAgg, V.one, V.clo, clos, V.toD, loadD, structAt, eqCells, D.scalarEq, sliceOf, partsD, partsV, bound, isPtr, Blk.width, elems, lenOf, splice, D.over, resOf, resV, resVs, ↓reduceIte, reduceCtorEq, ↓reduceDIte, Nat.reduceLT, Nat.reduceEqDiff, Nat.reduceAdd, Nat.reduceSub, Nat.reduceMul, Nat.reduceLeDiff, Nat.reduceBEq, Nat.reduceBNe, Int.reduceNeg, Int.reduceAdd, Int.reduceSub, Int.reduceToNat, nilTest, shiftH, Blk.ren, V.ren, renL, initV, frameH, putL, frρ, dI, dW]
  unfold dLg offI
  simp (maxSteps := 2000000) -implicitDefEqProofs only [zz, zE, evop, ev, ofVal, tget, tput, ok, V.isUndef, intBin, guardOf, initT, Ch.on, calleeOf, withArgs, told, xport, xports, tids, tidss, hget, hput, Blk.ice, freeze, V.cells, D.cells, V.isAgg, V.one, V.clo, clos, V.toD, loadD, structAt, eqCells, D.scalarEq, sliceOf, partsD, partsV, bound, isPtr, Blk.width, elems, lenOf, splice, D.over, resOf, resV, resVs, ↓reduceIte, reduceCtorEq, ↓reduceDIte, Nat.reduceLT, Nat.reduceEqDiff, Nat.reduceAdd, Nat.reduceSub, Nat.reduceMul, Nat.reduceLeDiff, Nat.reduceBEq, Nat.reduceBNe, Int.reduceNeg, Int.reduceAdd, Int.reduceSub, Int.reduceToNat, nilTest, shiftH, Blk.ren, V.ren, renL, initV, frameH, putL, frρ, dI, dW]
  split <;> simp_all <;> omega

theorem c_W_Right (l : Lg) : CSpec Try.prog 29 [dLg l] (.bool (logR l)) := by
  refine CSpec.of_awp envOf_ok hmix Try.func29 rfl (fun args w => Try.call29 args w) (by simp [Try.f29]) ?_
  simp only [Try.f29]
  simp (maxSteps := 2000000) -implicitDefEqProofs only [zz, zE, evop, ev, ofVal, tget, tput, ok, V.isUndef, intBin, guardOf, initT, Ch.on, calleeOf, withArgs, told, xport, xports, tids, tidss, hget, hput, Blk.ice, freeze, V.cells, D.cells, V.isAgg, V.one, V.clo, clos, V.toD, loadD, structAt, eqCells, D.scalarEq, sliceOf, partsD, partsV, bound, isPtr, Blk.width, elems, lenOf, splice, D.over, resOf, resV, resVs, ↓reduceIte, reduceCtorEq, ↓reduceDIte, Nat.reduceLT, Nat.reduceEqDiff, Nat.reduceAdd, Nat.reduceSub, Nat.reduceMul, Nat.reduceLeDiff, Nat.reduceBEq, Nat.reduceBNe, Int.reduceNeg, Int.reduceAdd, Int.reduceSub, Int.reduceToNat, nilTest, shiftH, Blk.ren, V.ren, renL, initV, frameH, putL, frρ, dI, dW]
  unfold dLg logR
  simp (maxSteps := 2000000) -implicitDefEqProofs only [zz, zE, evop, ev, ofVal, tget, tput, ok, V.isUndef, intBin, guardOf, initT, Ch.on, calleeOf, withArgs, told, xport, xports, tids, tidss, hget, hput, Blk.ice, freeze, V.cells, D.cells, V.isAgg, V.one, V.clo, clos, V.toD, loadD, structAt, eqCells, D.scalarEq, sliceOf, partsD, partsV, bound, isPtr, Blk.width, elems, lenOf, splice, D.over, resOf, resV, resVs, ↓reduceIte, reduceCtorEq, ↓reduceDIte, Nat.reduceLT, Nat.reduceEqDiff, Nat.reduceAdd, Nat.reduceSub, Nat.reduceMul, Nat.reduceLeDiff, Nat.reduceBEq, Nat.reduceBNe, Int.reduceNeg, Int.reduceAdd, Int.reduceSub, Int.reduceToNat, nilTest, shiftH, Blk.ren, V.ren, renL, initV, frameH, putL, frρ, dI, dW]
  split
  · rename_i h1
    split
    · rename_i h2
      refine acall_flat (by first | rfl | (simp only [xports, xport, hget]; rfl)) (c_ContainsFunc_W l.1 _ [] wrongW (by omega) (by decide) (fun w _ => c_wrong w)) rfl ?_
      try simp (maxSteps := 2000000) -implicitDefEqProofs only [zz, zE, evop, ev, ofVal, tget, tput, ok, V.isUndef, intBin, guardOf, initT, Ch.on, calleeOf, withArgs, told, xport, xports, tids, tidss, hget, hput, Blk.ice, freeze, V.cells, D.cells, V.isAgg, V.one, V.clo, clos, V.toD, loadD, structAt, eqCells, D.scalarEq, sliceOf, partsD, partsV, bound, isPtr, Blk.width, elems, lenOf, splice, D.over, resOf, resV, resVs, ↓reduceIte, reduceCtorEq, ↓reduceDIte, Nat.reduceLT, Nat.reduceEqDiff, Nat.reduceAdd, Nat.reduceSub, Nat.reduceMul, Nat.reduceLeDiff, Nat.reduceBEq, Nat.reduceBNe, Int.reduceNeg, Int.reduceAdd, Int.reduceSub, Int.reduceToNat, nilTest, shiftH, Blk.ren, V.ren, renL, initV, frameH, putL, frρ, dI, dW]
      split
      · rename_i h3
        refine acall_flat (by first | rfl | (simp only [xports, xport, hget]; rfl)) (c_ContainsFunc_int l.2 _ [.imm (dLg l) 0] (offI l.1.length) (by omega) (by simp) (fun n _ => c_Right1 n l)) rfl ?_
        try simp (maxSteps := 2000000) -implicitDefEqProofs only [zz, zE, evop, ev, ofVal, tget, tput, ok, V.isUndef, intBin, guardOf, initT, Ch.on, calleeOf, withArgs, told, xport, xports, tids, tidss, hget, hput, Blk.ice, freeze, V.cells, D.cells, V.isAgg, V.one, V.clo, clos, V.toD, loadD, structAt, eqCells, D.scalarEq, sliceOf, partsD, partsV, bound, isPtr, Blk.width, elems, lenOf, splice, D.over, resOf, resV, resVs, ↓reduceIte, reduceCtorEq, ↓reduceDIte, Nat.reduceLT, Nat.reduceEqDiff, Nat.reduceAdd, Nat.reduceSub, Nat.reduceMul, Nat.reduceLeDiff, Nat.reduceBEq, Nat.reduceBNe, Int.reduceNeg, Int.reduceAdd, Int.reduceSub, Int.reduceToNat, nilTest, shiftH, Blk.ren, V.ren, renL, initV, frameH, putL, frρ, dI, dW]
        split
        · rename_i h4
          refine acall_flat (by first | rfl | (simp only [xports, xport, hget]; rfl)) (c_IsSorted l.2 (by omega)) rfl ?_
          try simp (maxSteps := 2000000) -implicitDefEqProofs only [zz, zE, evop, ev, ofVal, tget, tput, ok, V.isUndef, intBin, guardOf, initT, Ch.on, calleeOf, withArgs, told, xport, xports, tids, tidss, hget, hput, Blk.ice, freeze, V.cells, D.cells, V.isAgg, V.one, V.clo, clos, V.toD, loadD, structAt, eqCells, D.scalarEq, sliceOf, partsD, partsV, bound, isPtr, Blk.width, elems, lenOf, splice, D.over, resOf, resV, resVs, ↓reduceIte, reduceCtorEq, ↓reduceDIte, Nat.reduceLT, Nat.reduceEqDiff, Nat.reduceAdd, Nat.reduceSub, Nat.reduceMul, Nat.reduceLeDiff, Nat.reduceBEq, Nat.reduceBNe, Int.reduceNeg, Int.reduceAdd, Int.reduceSub, Int.reduceToNat, nilTest, shiftH, Blk.ren, V.ren, renL, initV, frameH, putL, frρ, dI, dW]
          rw [decide_eq_true (by omega : l.1.length ≤ 24), decide_eq_true (by omega : l.2.length ≤ 6), h3, h4]; simp
        · rename_i h4
          simp only [Bool.not_eq_true] at h4
          rw [h4]; simp
      · rename_i h3
        simp only [Bool.not_eq_true] at h3
        rw [h3]; simp
    · rename_i h2
      rw [decide_eq_false (by omega : ¬ l.2.length ≤ 6)]; simp
  · rename_i h1
    rw [decide_eq_false (by omega : ¬ l.1.length ≤ 24)]; simp

theorem c_small (l : Lg) : CSpec Try.prog 15 [dLg l] (.bool (decide (l.1.length ≤ 40) && decide (l.2.length ≤ 20))) := by
  refine CSpec.of_awp envOf_ok hmix Try.func15 rfl (fun args w => Try.call15 args w) (by simp [Try.f15]) ?_
  simp only [Try.f15]
  simp (maxSteps := 2000000) -implicitDefEqProofs only [zz, zE, evop, ev, ofVal, tget, tput, ok, V.isUndef, intBin, guardOf, initT, Ch.on, calleeOf, withArgs, told, xport, xports, tids, tidss, hget, hput, Blk.ice, freeze, V.cells, D.cells, V.isAgg, V.one, V.clo, clos, V.toD, loadD, structAt, eqCells, D.scalarEq, sliceOf, partsD, partsV, bound, isPtr, Blk.width, elems, lenOf, splice, D.over, resOf, resV, resVs, ↓reduceIte, reduceCtorEq, ↓reduceDIte, Nat.reduceLT, Nat.reduceEqDiff, Nat.reduceAdd, Nat.reduceSub, Nat.reduceMul, Nat.reduceLeDiff, Nat.reduceBEq, Nat.reduceBNe, Int.reduceNeg, Int.reduceAdd, Int.reduceSub, Int.reduceToNat, nilTest, shiftH, Blk.ren, V.ren, renL, initV, frameH, putL, frρ, dI, dW]
  unfold dLg
  simp (maxSteps := 2000000) -implicitDefEqProofs only [zz, zE, evop, ev, ofVal, tget, tput, ok, V.isUndef, intBin, guardOf, initT, Ch.on, calleeOf, withArgs, told, xport, xports, tids, tidss, hget, hput, Blk.ice, freeze, V.cells, D.cells, V.isAgg, V.one, V.clo, clos, V.toD, loadD, structAt, eqCells, D.scalarEq, sliceOf, partsD, partsV, bound, isPtr, Blk.width, elems, lenOf, splice, D.over, resOf, resV, resVs, ↓reduceIte, reduceCtorEq, ↓reduceDIte, Nat.reduceLT, Nat.reduceEqDiff, Nat.reduceAdd, Nat.reduceSub, Nat.reduceMul, Nat.reduceLeDiff, Nat.reduceBEq, Nat.reduceBNe, Int.reduceNeg, Int.reduceAdd, Int.reduceSub, Int.reduceToNat, nilTest, shiftH, Blk.ren, V.ren, renL, initV, frameH, putL, frρ, dI, dW]
  (repeat' split) <;> (first | rfl | (simp_all [IntKind.wrap_i64]; done) | (simp [IntKind.wrap_i64] at * <;> omega) | (simp_all [IntKind.wrap_i64] <;> omega) | (congr 2; rw [Bool.eq_iff_iff]; simp_all; omega) | grind)

theorem c_r06_one (w : Int × Int) : CSpec Try.prog 47 [dW w] (.bool (!wrongW w)) := by
  refine CSpec.of_awp envOf_ok hmix Try.func47 rfl (fun args w => Try.call47 args w) (by simp [Try.f47]) ?_
  simp only [Try.f47]
  simp (maxSteps := 2000000) -implicitDefEqProofs only [zz, zE, evop, ev, ofVal, tget, tput, ok, V.isUndef, intBin, guardOf, initT, Ch.on, calleeOf, withArgs, told, xport, xports, tids, tidss, hget, hput, Blk.ice, freeze, V.cells, D.cells, V.isAgg, V.one, V.clo, clos, V.toD, loadD, structAt, eqCells, D.scalarEq, sliceOf, partsD, partsV, bound, isPtr, Blk.width, elems, lenOf, splice, D.over, resOf, resV, resVs, ↓reduceIte, reduceCtorEq, ↓reduceDIte, Nat.reduceLT, Nat.reduceEqDiff, Nat.reduceAdd, Nat.reduceSub, Nat.reduceMul, Nat.reduceLeDiff, Nat.reduceBEq, Nat.reduceBNe, Int.reduceNeg, Int.reduceAdd, Int.reduceSub, Int.reduceToNat, nilTest, shiftH, Blk.ren, V.ren, renL, initV, frameH, putL, frρ, dI, dW]
  refine acall_flat (by first | rfl | (simp only [xports, xport, hget]; rfl)) (c_r01_Right _) rfl ?_
  try simp (maxSteps := 2000000) -implicitDefEqProofs only [zz, zE, evop, ev, ofVal, tget, tput, ok, V.isUndef, intBin, guardOf, initT, Ch.on, calleeOf, withArgs, told, xport, xports, tids, tidss, hget, hput, Blk.ice, freeze, V.cells, D.cells, V.isAgg, V.one, V.clo, clos, V.toD, loadD, structAt, eqCells, D.scalarEq, sliceOf, partsD, partsV, bound, isPtr, Blk.width, elems, lenOf, splice, D.over, resOf, resV, resVs, ↓reduceIte, reduceCtorEq, ↓reduceDIte, Nat.reduceLT, Nat.reduceEqDiff, Nat.reduceAdd, Nat.reduceSub, Nat.reduceMul, Nat.reduceLeDiff, Nat.reduceBEq, Nat.reduceBNe, Int.reduceNeg, Int.reduceAdd, Int.reduceSub, Int.reduceToNat, nilTest, shiftH, Blk.ren, V.ren, renL, initV, frameH, putL, frρ, dI, dW]
  unfold wrongW
  have : decide (0 ≤ w.1) = !decide (w.1 < 0) := by rw [Bool.eq_iff_iff]; simp
  rw [this]
  split <;> simp_all

theorem c_Ref (l : Lg) : CSpec Try.prog 17 [dLg l] (dLg l) := by
  refine CSpec.of_awp envOf_ok hmix Try.func17 rfl (fun args w => Try.call17 args w) (by simp [Try.f17]) ?_
  simp only [Try.f17]
  simp (maxSteps := 2000000) -implicitDefEqProofs only [zz, zE, evop, ev, ofVal, tget, tput, ok, V.isUndef, intBin, guardOf, initT, Ch.on, calleeOf, withArgs, told, xport, xports, tids, tidss, hget, hput, Blk.ice, freeze, V.cells, D.cells, V.isAgg, V.one, V.clo, clos, V.toD, loadD, structAt, eqCells, D.scalarEq, sliceOf, partsD, partsV, bound, isPtr, Blk.width, elems, lenOf, splice, D.over, resOf, resV, resVs, ↓reduceIte, reduceCtorEq, ↓reduceDIte, Nat.reduceLT, Nat.reduceEqDiff, Nat.reduceAdd, Nat.reduceSub, Nat.reduceMul, Nat.reduceLeDiff, Nat.reduceBEq, Nat.reduceBNe, Int.reduceNeg, Int.reduceAdd, Int.reduceSub, Int.reduceToNat, nilTest, shiftH, Blk.ren, V.ren, renL, initV, frameH, putL, frρ, dI, dW]
  unfold dLg
  simp (maxSteps := 2000000) -implicitDefEqProofs only [zz, zE, evop, ev, ofVal, tget, tput, ok, V.isUndef, intBin, guardOf, initT, Ch.on, calleeOf, withArgs, told, xport, xports, tids, tidss, hget, hput, Blk.ice, freeze, V.cells, D.cells, V.isAgg, V.one, V.clo, clos, V.toD, loadD, structAt, eqCells, D.scalarEq, sliceOf, partsD, partsV, bound, isPtr, Blk.width, elems, lenOf, splice, D.over, resOf, resV, resVs, ↓reduceIte, reduceCtorEq, ↓reduceDIte, Nat.reduceLT, Nat.reduceEqDiff, Nat.reduceAdd, Nat.reduceSub, Nat.reduceMul, Nat.reduceLeDiff, Nat.reduceBEq, Nat.reduceBNe, Int.reduceNeg, Int.reduceAdd, Int.reduceSub, Int.reduceToNat, nilTest, shiftH, Blk.ren, V.ren, renL, initV, frameH, putL, frρ, dI, dW]

theorem c_r06_List (a b : List (Int × Int)) (ha : a.length ≤ 1000000) (hb : b.length ≤ 1000000) : CSpec Try.prog 31 [.vec (a.map dW), .vec (b.map dW)] (.bool (decide (a = b))) := by
  refine CSpec.of_awp envOf_ok hmix Try.func31 rfl (fun args w => Try.call31 args w) (by simp [Try.f31]) ?_
  simp only [Try.f31]
  simp (maxSteps := 2000000) -implicitDefEqProofs only [zz, zE, evop, ev, ofVal, tget, tput, ok, V.isUndef, intBin, guardOf, initT, Ch.on, calleeOf, withArgs, told, xport, xports, tids, tidss, hget, hput, Blk.ice, freeze, V.cells, D.cells, V.isAgg, V.one, V.clo, clos, V.toD, loadD, structAt, eqCells, D.scalarEq, sliceOf, partsD, partsV, bound, isPtr, Blk.width, elems, lenOf, splice, D.over, resOf, resV, resVs, ↓reduceIte, reduceCtorEq, ↓reduceDIte, Nat.reduceLT, Nat.reduceEqDiff, Nat.reduceAdd, Nat.reduceSub, Nat.reduceMul, Nat.reduceLeDiff, Nat.reduceBEq, Nat.reduceBNe, Int.reduceNeg, Int.reduceAdd, Int.reduceSub, Int.reduceToNat, nilTest, shiftH, Blk.ren, V.ren, renL, initV, frameH, putL, frρ, dI, dW]
  split
  · rename_i h
    have : a ≠ b := fun e => by subst e; simp at h
    simp [this]
  · rename_i h
    have hab : a.length = b.length := by simp at h; omega
    refine wloop_count a.length (fun i => [(5, .d (.int .i64 i)), (0, .d (.vec (a.map dW))), (1, .d (.vec (b.map dW)))]) (fun _ => []) (fun i => ∀ j < i, a[j]? = b[j]?) (fun j hj => by omega) (Weak.sub (by simp [tget])) (fun i hi hI => ?_) (fun hI => ?_)
    · have hx : a[i]? = some a[i] := List.getElem?_eq_getElem hi
      have hy : b[i]? = some b[i] := List.getElem?_eq_getElem (by omega)
      have h' : ((i : Int) < (a.length : Int)) := by omega
      simp (maxSteps := 2000000) -implicitDefEqProofs only [zz, zE, evop, ev, ofVal, tget, tput, ok, V.isUndef, intBin, guardOf, initT, Ch.on, calleeOf, withArgs, told, xport, xports, tids, tidss, hget, hput, Blk.ice, freeze, V.cells, D.cells, V.isAgg, V.one, V.clo, clos, V.toD, loadD, structAt, eqCells, D.scalarEq, sliceOf, partsD, partsV, bound, isPtr, Blk.width, elems, lenOf, splice, D.over, resOf, resV, resVs, ↓reduceIte, reduceCtorEq, ↓reduceDIte, Nat.reduceLT, Nat.reduceEqDiff, Nat.reduceAdd, Nat.reduceSub, Nat.reduceMul, Nat.reduceLeDiff, Nat.reduceBEq, Nat.reduceBNe, Int.reduceNeg, Int.reduceAdd, Int.reduceSub, Int.reduceToNat, nilTest, shiftH, Blk.ren, V.ren, renL, initV, frameH, putL, frρ, dI, dW, h', List.getElem?_map, hx, hy, Option.map_some]
      refine wdraw_plan [⟨[], false, [18, 21, 22, 23, 24], [], false⟩, ⟨[], false, [17, 21, 22, 23, 24], [0], false⟩, ⟨[0, 1], false, [21, 22, 23, 24], [], false⟩, ⟨[0, 1, 2], false, [21, 22, 23, 24], [], false⟩, ⟨[], false, [17, 18, 19, 20, 22], [0, 1, 2, 3], false⟩, ⟨[], false, [17, 18, 19, 20, 21], [0, 1, 2, 3, 4], false⟩, ⟨[4, 5], false, [17, 18, 19, 20], [0, 1, 2, 3], false⟩, ⟨[4, 5, 6], false, [17, 18, 19, 20], [0, 1, 2, 3], false⟩, ⟨[0, 1, 2, 3, 4, 5, 6, 7], true, [], [], false⟩] (by decide) ?_
      simp (maxSteps := 2000000) -implicitDefEqProofs only [zz, zE, evop, ev, ofVal, tget, tput, ok, V.isUndef, intBin, guardOf, initT, Ch.on, calleeOf, withArgs, told, xport, xports, tids, tidss, hget, hput, Blk.ice, freeze, V.cells, D.cells, V.isAgg, V.one, V.clo, clos, V.toD, loadD, structAt, eqCells, D.scalarEq, sliceOf, partsD, partsV, bound, isPtr, Blk.width, elems, lenOf, splice, D.over, resOf, resV, resVs, ↓reduceIte, reduceCtorEq, ↓reduceDIte, Nat.reduceLT, Nat.reduceEqDiff, Nat.reduceAdd, Nat.reduceSub, Nat.reduceMul, Nat.reduceLeDiff, Nat.reduceBEq, Nat.reduceBNe, Int.reduceNeg, Int.reduceAdd, Int.reduceSub, Int.reduceToNat, nilTest, shiftH, Blk.ren, V.ren, renL, initV, frameH, putL, frρ, dI, dW, h', List.getElem?_map, hx, hy, Option.map_some, Int.natCast_nonneg]
      have hw : IntKind.i64.wrap ((i : Int) + 1) = ((i + 1 : Nat) : Int) := by rw [wrap_in (by omega)]; omega
      split
      · rename_i hne
        have : a ≠ b := fun e => by subst e; simp at hne
        simp [this]
      · rename_i heq
        have heq' : a[i] = b[i] := by simp at heq; exact Prod.ext heq.1 heq.2
        refine ⟨fun j hj => ?_, Weak.trims 0 rfl (by simp [tget, hw, V.lower]) (by simp)⟩
        by_cases e : j = i
        · subst e; rw [hx, hy, heq']
        · exact hI j (by omega)
    · have h' : ¬ ((a.length : Int) < (a.length : Int)) := by omega
      simp (maxSteps := 2000000) -implicitDefEqProofs only [zz, zE, evop, ev, ofVal, tget, tput, ok, V.isUndef, intBin, guardOf, initT, Ch.on, calleeOf, withArgs, told, xport, xports, tids, tidss, hget, hput, Blk.ice, freeze, V.cells, D.cells, V.isAgg, V.one, V.clo, clos, V.toD, loadD, structAt, eqCells, D.scalarEq, sliceOf, partsD, partsV, bound, isPtr, Blk.width, elems, lenOf, splice, D.over, resOf, resV, resVs, ↓reduceIte, reduceCtorEq, ↓reduceDIte, Nat.reduceLT, Nat.reduceEqDiff, Nat.reduceAdd, Nat.reduceSub, Nat.reduceMul, Nat.reduceLeDiff, Nat.reduceBEq, Nat.reduceBNe, Int.reduceNeg, Int.reduceAdd, Int.reduceSub, Int.reduceToNat, nilTest, shiftH, Blk.ren, V.ren, renL, initV, frameH, putL, frρ, dI, dW, h']
      have : a = b := List.ext_getElem? (fun j => by
        rcases Nat.lt_or_ge j a.length with h | h
        · exact hI j h
        · rw [List.getElem?_eq_none h, List.getElem?_eq_none (by omega)])
      simp [this]

end Go.Proofs.Ythpapgbpmkgfeaa.AM

/- The log of writes: the document's, and Put, Mark, Keep, Back. -/
set_option linter.all false
set_option maxRecDepth 100000
set_option maxHeartbeats 4000000
namespace Go.Proofs.Ythpapgbpmkgfeaa.AM
open Go Go.RowKit

/-- The heap of a log's variable. -/
def bLg (l : Lg) : Blk := .box false [.d (.vec (l.1.map dW)), .d (.vec (l.2.map dI))]

def lowOf (l : List Int) (i : Nat) : Int := if i = 0 then 0 else (l[i - 1]?).getD 0

theorem c_r06_Right (l : Lg) (h1 : l.1.length ≤ 1000000) (h2 : l.2.length ≤ 1000000) : CSpec Try.prog 26 [dLg l] (.bool (logR l)) := by
  refine CSpec.of_awp envOf_ok hmix Try.func26 rfl (fun args w => Try.call26 args w) (by simp [Try.f26]) ?_
  simp only [Try.f26]
  simp (maxSteps := 2000000) -implicitDefEqProofs only [zz, zE, evop, ev, ofVal, tget, tput, ok, V.isUndef, intBin, guardOf, initT, Ch.on, calleeOf, withArgs, told, xport, xports, tids, tidss, hget, hput, Blk.ice, freeze, V.cells, D.cells, V.isAgg, V.one, V.clo, clos, V.toD, loadD, structAt, eqCells, D.scalarEq, sliceOf, partsD, partsV, bound, isPtr, Blk.width, elems, lenOf, splice, D.over, resOf, resV, resVs, ↓reduceIte, reduceCtorEq, ↓reduceDIte, Nat.reduceLT, Nat.reduceEqDiff, Nat.reduceAdd, Nat.reduceSub, Nat.reduceMul, Nat.reduceLeDiff, Nat.reduceBEq, Nat.reduceBNe, Int.reduceNeg, Int.reduceAdd, Int.reduceSub, Int.reduceToNat, nilTest, shiftH, Blk.ren, V.ren, renL, initV, frameH, putL, frρ, dI, dW]
  unfold dLg
  simp (maxSteps := 2000000) -implicitDefEqProofs only [zz, zE, evop, ev, ofVal, tget, tput, ok, V.isUndef, intBin, guardOf, initT, Ch.on, calleeOf, withArgs, told, xport, xports, tids, tidss, hget, hput, Blk.ice, freeze, V.cells, D.cells, V.isAgg, V.one, V.clo, clos, V.toD, loadD, structAt, eqCells, D.scalarEq, sliceOf, partsD, partsV, bound, isPtr, Blk.width, elems, lenOf, splice, D.over, resOf, resV, resVs, ↓reduceIte, reduceCtorEq, ↓reduceDIte, Nat.reduceLT, Nat.reduceEqDiff, Nat.reduceAdd, Nat.reduceSub, Nat.reduceMul, Nat.reduceLeDiff, Nat.reduceBEq, Nat.reduceBNe, Int.reduceNeg, Int.reduceAdd, Int.reduceSub, Int.reduceToNat, nilTest, shiftH, Blk.ren, V.ren, renL, initV, frameH, putL, frρ, dI, dW]
  refine wloop_count l.1.length (fun i => [(3, .d (.int .i64 i)), (1, .ptr 0 0 0)]) (fun _ => [bLg l]) (fun i => ∀ j < i, ∀ x, l.1[j]? = some x → wrongW x = false) (fun j hj => by omega) (Weak.sub (by simp [tget])) (fun i hi hI => ?_) (fun hI => ?_)
  · have hx : l.1[i]? = some l.1[i] := List.getElem?_eq_getElem hi
    have h' : ((i : Int) < (l.1.length : Int)) := by omega
    simp (maxSteps := 2000000) -implicitDefEqProofs only [zz, zE, evop, ev, ofVal, tget, tput, ok, V.isUndef, intBin, guardOf, initT, Ch.on, calleeOf, withArgs, told, xport, xports, tids, tidss, hget, hput, Blk.ice, freeze, V.cells, D.cells, V.isAgg, V.one, V.clo, clos, V.toD, loadD, structAt, eqCells, D.scalarEq, sliceOf, partsD, partsV, bound, isPtr, Blk.width, elems, lenOf, splice, D.over, resOf, resV, resVs, ↓reduceIte, reduceCtorEq, ↓reduceDIte, Nat.reduceLT, Nat.reduceEqDiff, Nat.reduceAdd, Nat.reduceSub, Nat.reduceMul, Nat.reduceLeDiff, Nat.reduceBEq, Nat.reduceBNe, Int.reduceNeg, Int.reduceAdd, Int.reduceSub, Int.reduceToNat, nilTest, shiftH, Blk.ren, V.ren, renL, initV, frameH, putL, frρ, dI, dW, h', bLg, List.getElem?_map, hx, Option.map_some, Int.natCast_nonneg]
    refine acall_flat (by first | rfl | (simp only [xports, xport, hget]; rfl)) (c_r06_one l.1[i]) rfl ?_
    try simp (maxSteps := 2000000) -implicitDefEqProofs only [zz, zE, evop, ev, ofVal, tget, tput, ok, V.isUndef, intBin, guardOf, initT, Ch.on, calleeOf, withArgs, told, xport, xports, tids, tidss, hget, hput, Blk.ice, freeze, V.cells, D.cells, V.isAgg, V.one, V.clo, clos, V.toD, loadD, structAt, eqCells, D.scalarEq, sliceOf, partsD, partsV, bound, isPtr, Blk.width, elems, lenOf, splice, D.over, resOf, resV, resVs, ↓reduceIte, reduceCtorEq, ↓reduceDIte, Nat.reduceLT, Nat.reduceEqDiff, Nat.reduceAdd, Nat.reduceSub, Nat.reduceMul, Nat.reduceLeDiff, Nat.reduceBEq, Nat.reduceBNe, Int.reduceNeg, Int.reduceAdd, Int.reduceSub, Int.reduceToNat, nilTest, shiftH, Blk.ren, V.ren, renL, initV, frameH, putL, frρ, dI, dW]
    have hw : IntKind.i64.wrap ((i : Int) + 1) = ((i + 1 : Nat) : Int) := by rw [wrap_in (by omega)]; omega
    split
    · rename_i h
      have : l.1.any wrongW = true := List.any_eq_true.2 ⟨_, List.getElem_mem hi, by simpa using h⟩
      simp [logR, this]
    · rename_i h
      refine ⟨fun j hj x hxj => ?_, Weak.sub (by simp [tget, hw])⟩
      by_cases e : j = i
      · subst e; rw [hx] at hxj; cases hxj; simpa using h
      · exact hI j (by omega) x hxj
  · have h' : ¬ ((l.1.length : Int) < (l.1.length : Int)) := by omega
    have hany : l.1.any wrongW = false := by
      rw [List.any_eq_false]
      intro x hx
      obtain ⟨j, hj, rfl⟩ := List.getElem_of_mem hx
      simpa using hI j hj _ (List.getElem?_eq_getElem hj)
    simp (maxSteps := 2000000) -implicitDefEqProofs only [zz, zE, evop, ev, ofVal, tget, tput, ok, V.isUndef, intBin, guardOf, initT, Ch.on, calleeOf, withArgs, told, xport, xports, tids, tidss, hget, hput, Blk.ice, freeze, V.cells, D.cells, V.isAgg, V.one, V.clo, clos, V.toD, loadD, structAt, eqCells, D.scalarEq, sliceOf, partsD, partsV, bound, isPtr, Blk.width, elems, lenOf, splice, D.over, resOf, resV, resVs, ↓reduceIte, reduceCtorEq, ↓reduceDIte, Nat.reduceLT, Nat.reduceEqDiff, Nat.reduceAdd, Nat.reduceSub, Nat.reduceMul, Nat.reduceLeDiff, Nat.reduceBEq, Nat.reduceBNe, Int.reduceNeg, Int.reduceAdd, Int.reduceSub, Int.reduceToNat, nilTest, shiftH, Blk.ren, V.ren, renL, initV, frameH, putL, frρ, dI, dW, h', bLg]
    refine wloop_count l.2.length (fun i => [(6, .d (.int .i64 i)), (5, .d (.int .i64 (lowOf l.2 i))), (1, .ptr 0 0 0)]) (fun _ => [bLg l]) (fun i => ∀ j < i, ∀ x, l.2[j]? = some x → lowOf l.2 j ≤ x ∧ offI l.1.length x = false ∧ 0 ≤ x) (fun j hj => by omega) (Weak.sub (by simp [tget, lowOf])) (fun i hi hJ => ?_) (fun hJ => ?_)
    · have hx : l.2[i]? = some l.2[i] := List.getElem?_eq_getElem hi
      have h' : ((i : Int) < (l.2.length : Int)) := by omega
      have hw : IntKind.i64.wrap ((i : Int) + 1) = ((i + 1 : Nat) : Int) := by rw [wrap_in (by omega)]; omega
      simp (maxSteps := 2000000) -implicitDefEqProofs only [zz, zE, evop, ev, ofVal, tget, tput, ok, V.isUndef, intBin, guardOf, initT, Ch.on, calleeOf, withArgs, told, xport, xports, tids, tidss, hget, hput, Blk.ice, freeze, V.cells, D.cells, V.isAgg, V.one, V.clo, clos, V.toD, loadD, structAt, eqCells, D.scalarEq, sliceOf, partsD, partsV, bound, isPtr, Blk.width, elems, lenOf, splice, D.over, resOf, resV, resVs, ↓reduceIte, reduceCtorEq, ↓reduceDIte, Nat.reduceLT, Nat.reduceEqDiff, Nat.reduceAdd, Nat.reduceSub, Nat.reduceMul, Nat.reduceLeDiff, Nat.reduceBEq, Nat.reduceBNe, Int.reduceNeg, Int.reduceAdd, Int.reduceSub, Int.reduceToNat, nilTest, shiftH, Blk.ren, V.ren, renL, initV, frameH, putL, frρ, dI, dW, h', bLg, List.getElem?_map, hx, Option.map_some, Int.natCast_nonneg]
      refine wdraw_plan [⟨[], false, [31, 34], [], false⟩, ⟨[0], false, [31, 34], [], false⟩, ⟨[], false, [29, 30, 34], [0, 1], false⟩, ⟨[0, 1, 2], false, [34], [], false⟩, ⟨[0, 1, 2, 3], false, [34], [], false⟩, ⟨[], false, [29, 30, 31, 32, 33], [0, 1, 2, 3, 4], false⟩, ⟨[0, 1, 2, 3, 4, 5], true, [], [], false⟩, ⟨[0, 1, 2, 3, 4, 5, 6], true, [], [], false⟩, ⟨[0, 1, 2, 3, 4, 5, 6, 7], false, [39, 42, 43, 44], [], false⟩, ⟨[0, 1, 2, 3, 4, 5, 6, 7, 8], false, [39, 42, 43, 44], [], false⟩, ⟨[0, 1, 2, 3, 4, 5, 6, 7], false, [37, 38, 42, 43, 44], [8, 9], false⟩, ⟨[0, 1, 2, 3, 4, 5, 6, 7, 8, 9, 10], false, [42, 43, 44], [], false⟩, ⟨[0, 1, 2, 3, 4, 5, 6, 7, 8, 9, 10, 11], false, [42, 43, 44], [], false⟩, ⟨[0, 1, 2, 3, 4, 5, 6, 7], false, [37, 38, 39, 40, 41], [8, 9, 10, 11, 12], false⟩, ⟨[0, 1, 2, 3, 4, 5, 6, 7, 13], false, [37, 38, 39, 40, 41], [8, 9, 10, 11, 12], false⟩, ⟨[0, 1, 2, 3, 4, 5, 6, 7, 13, 14], false, [37, 38, 39, 40, 41], [8, 9, 10, 11, 12], false⟩, ⟨[0, 1, 2, 3, 4, 5, 6, 7, 8, 9, 10, 11, 12, 13, 14, 15], false, [], [], false⟩, ⟨[0, 1, 2, 3, 4, 5, 6, 7, 8, 9, 10, 11, 12, 13, 14, 15, 16], true, [], [], false⟩] (by decide) ?_
      simp (maxSteps := 2000000) -implicitDefEqProofs only [zz, zE, evop, ev, ofVal, tget, tput, ok, V.isUndef, intBin, guardOf, initT, Ch.on, calleeOf, withArgs, told, xport, xports, tids, tidss, hget, hput, Blk.ice, freeze, V.cells, D.cells, V.isAgg, V.one, V.clo, clos, V.toD, loadD, structAt, eqCells, D.scalarEq, sliceOf, partsD, partsV, bound, isPtr, Blk.width, elems, lenOf, splice, D.over, resOf, resV, resVs, ↓reduceIte, reduceCtorEq, ↓reduceDIte, Nat.reduceLT, Nat.reduceEqDiff, Nat.reduceAdd, Nat.reduceSub, Nat.reduceMul, Nat.reduceLeDiff, Nat.reduceBEq, Nat.reduceBNe, Int.reduceNeg, Int.reduceAdd, Int.reduceSub, Int.reduceToNat, nilTest, shiftH, Blk.ren, V.ren, renL, initV, frameH, putL, frρ, dI, dW, h', bLg, List.getElem?_map, hx, Option.map_some, Int.natCast_nonneg]
      have hlow : lowOf l.2 (i + 1) = l.2[i] := by simp [lowOf, hx]
      have hlow0 : ∀ (j : Nat) (x : Int), l.2[j]? = some x → logR l = true → lowOf l.2 j ≤ x := fun j x hj hr => by
        simp only [logR, Bool.and_eq_true, Bool.not_eq_true', List.any_eq_false] at hr
        obtain ⟨⟨_, r2⟩, r3⟩ := hr
        unfold lowOf
        split
        · have := r2 x (List.mem_of_getElem? hj)
          simp [offI] at this; omega
        · rename_i h0
          obtain ⟨k, rfl⟩ : ∃ k, j = k + 1 := ⟨j - 1, by omega⟩
          have hk : k < l.2.length := by have := (List.getElem?_eq_some_iff.1 hj).1; omega
          simp only [Nat.add_sub_cancel, List.getElem?_eq_getElem hk, Option.getD_some]
          exact (srt_iff _).1 r3 k _ _ (List.getElem?_eq_getElem hk) hj
      have hoff : ∀ x, x ∈ l.2 → logR l = true → offI l.1.length x = false := fun x hx hr => by
        simp only [logR, Bool.and_eq_true, Bool.not_eq_true', List.any_eq_false] at hr
        simpa using hr.1.2 x hx
      split
      · rename_i hlt
        split
        · rename_i hgt
          have : logR l = false := by
            rw [Bool.eq_false_iff]
            intro hr
            have := hoff _ (List.getElem_mem hi) hr
            simp [offI] at this; omega
          rw [this]
        · rename_i hgt
          refine ⟨fun j hj x hxj => ?_, Weak.trims 1 rfl (by simp [tget, hw, hlow, V.lower]) (by simp [Blk.lower, lowerL, V.lower])⟩
          by_cases e : j = i
          · subst e; rw [hx] at hxj; cases hxj
            have h0 : 0 ≤ lowOf l.2 j := by
              unfold lowOf
              split
              · exact Int.le_refl _
              · rename_i h0
                have hk : j - 1 < l.2.length := by omega
                simp only [List.getElem?_eq_getElem hk, Option.getD_some]
                exact (hJ (j - 1) (by omega) _ (List.getElem?_eq_getElem hk)).2.2
            simp at hlt
            refine ⟨hlt, ?_, by omega⟩
            simp [offI]; omega
          · exact hJ j (by omega) x hxj
      · rename_i hlt
        have : logR l = false := by
          rw [Bool.eq_false_iff]
          intro hr
          have := hlow0 i _ hx hr
          simp at hlt; omega
        rw [this]
    · have h' : ¬ ((l.2.length : Int) < (l.2.length : Int)) := by omega
      simp (maxSteps := 2000000) -implicitDefEqProofs only [zz, zE, evop, ev, ofVal, tget, tput, ok, V.isUndef, intBin, guardOf, initT, Ch.on, calleeOf, withArgs, told, xport, xports, tids, tidss, hget, hput, Blk.ice, freeze, V.cells, D.cells, V.isAgg, V.one, V.clo, clos, V.toD, loadD, structAt, eqCells, D.scalarEq, sliceOf, partsD, partsV, bound, isPtr, Blk.width, elems, lenOf, splice, D.over, resOf, resV, resVs, ↓reduceIte, reduceCtorEq, ↓reduceDIte, Nat.reduceLT, Nat.reduceEqDiff, Nat.reduceAdd, Nat.reduceSub, Nat.reduceMul, Nat.reduceLeDiff, Nat.reduceBEq, Nat.reduceBNe, Int.reduceNeg, Int.reduceAdd, Int.reduceSub, Int.reduceToNat, nilTest, shiftH, Blk.ren, V.ren, renL, initV, frameH, putL, frρ, dI, dW, h', bLg]
      have hoff : l.2.any (offI l.1.length) = false := by
        rw [List.any_eq_false]
        intro x hx
        obtain ⟨j, hj, rfl⟩ := List.getElem_of_mem hx
        have := (hJ j hj _ (List.getElem?_eq_getElem hj)).2.1
        simpa using this
      have hs : srt l.2 = true := (srt_iff _).2 (fun j x y hx hy => by
        have hj := (List.getElem?_eq_some_iff.1 hy).1
        have := (hJ (j + 1) hj y hy).1
        simpa [lowOf, hx] using this)
      unfold logR
      rw [hany, hoff, hs]
      (repeat' split) <;> (first | rfl | (simp_all [IntKind.wrap_i64]; done) | (simp [IntKind.wrap_i64] at * <;> omega) | (simp_all [IntKind.wrap_i64] <;> omega) | (congr 2; rw [Bool.eq_iff_iff]; simp_all; omega) | grind)

end Go.Proofs.Ythpapgbpmkgfeaa.AM

/- What is its caller's own. -/
set_option linter.all false
set_option maxRecDepth 100000
set_option maxHeartbeats 4000000
namespace Go.Proofs.Ythpapgbpmkgfeaa.AM
open Go Go.RowKit

theorem o_Clone_W (els : List D) (h1 : els.length * 16 ≤ 140737488355328) (h2 : ∀ e ∈ els, okEl 2 e = true) : FSpec Try.prog 54 [.vec els] (.own 0 0 els.length) [.dat false 2 els] := by
  refine FSpec.of_awp envOf_ok hmix Try.func54 rfl (fun args w => Try.call54 args w) (by simp [Try.f54]) ?_
  simp only [Try.f54]
  simp (maxSteps := 2000000) -implicitDefEqProofs only [zz, zE, evop, ev, ofVal, tget, tput, ok, V.isUndef, intBin, guardOf, initT, Ch.on, calleeOf, withArgs, told, xport, xports, tids, tidss, hget, hput, Blk.ice, freeze, V.cells, D.cells, V.isAgg, V.one, V.clo, clos, V.toD, loadD, structAt, eqCells, D.scalarEq, sliceOf, partsD, partsV, bound, isPtr, Blk.width, elems, lenOf, splice, D.over, resOf, resV, resVs, ↓reduceIte, reduceCtorEq, ↓reduceDIte, Nat.reduceLT, Nat.reduceEqDiff, Nat.reduceAdd, Nat.reduceSub, Nat.reduceMul, Nat.reduceLeDiff, Nat.reduceBEq, Nat.reduceBNe, Int.reduceNeg, Int.reduceAdd, Int.reduceSub, Int.reduceToNat, nilTest, shiftH, Blk.ren, V.ren, renL, initV, frameH, putL, frρ, dI, dW]
  refine ⟨fun h => ?_, ⟨h1, h2⟩, ?_⟩
  · subst h
    refine Weak.pick [7] (by simp) (by simp) rfl (fun q hq => ?_) (fun i hi => ?_)
    · obtain rfl : q = _ := by simpa using hq
      exact .nils 0 2 rfl
    · obtain rfl : i = 0 := by simpa using hi
      exact .virt 2 rfl rfl
  · refine Weak.pick [1] (by simp) (by simp) rfl (fun q hq => ?_) (fun i hi => ?_)
    · obtain rfl : q = _ := by simpa using hq
      exact .same _
    · obtain rfl : i = 0 := by simpa using hi
      exact .dat false 2 els rfl rfl

theorem o_Clone_int (els : List D) (h1 : els.length * 8 ≤ 140737488355328) (h2 : ∀ e ∈ els, okEl 1 e = true) : FSpec Try.prog 68 [.vec els] (.own 0 0 els.length) [.dat false 1 els] := by
  refine FSpec.of_awp envOf_ok hmix Try.func68 rfl (fun args w => Try.call68 args w) (by simp [Try.f68]) ?_
  simp only [Try.f68]
  simp (maxSteps := 2000000) -implicitDefEqProofs only [zz, zE, evop, ev, ofVal, tget, tput, ok, V.isUndef, intBin, guardOf, initT, Ch.on, calleeOf, withArgs, told, xport, xports, tids, tidss, hget, hput, Blk.ice, freeze, V.cells, D.cells, V.isAgg, V.one, V.clo, clos, V.toD, loadD, structAt, eqCells, D.scalarEq, sliceOf, partsD, partsV, bound, isPtr, Blk.width, elems, lenOf, splice, D.over, resOf, resV, resVs, ↓reduceIte, reduceCtorEq, ↓reduceDIte, Nat.reduceLT, Nat.reduceEqDiff, Nat.reduceAdd, Nat.reduceSub, Nat.reduceMul, Nat.reduceLeDiff, Nat.reduceBEq, Nat.reduceBNe, Int.reduceNeg, Int.reduceAdd, Int.reduceSub, Int.reduceToNat, nilTest, shiftH, Blk.ren, V.ren, renL, initV, frameH, putL, frρ, dI, dW]
  refine ⟨fun h => ?_, ⟨h1, h2⟩, ?_⟩
  · subst h
    refine Weak.pick [7] (by simp) (by simp) rfl (fun q hq => ?_) (fun i hi => ?_)
    · obtain rfl : q = _ := by simpa using hq
      exact .nils 0 1 rfl
    · obtain rfl : i = 0 := by simpa using hi
      exact .virt 1 rfl rfl
  · refine Weak.pick [1] (by simp) (by simp) rfl (fun q hq => ?_) (fun i hi => ?_)
    · obtain rfl : q = _ := by simpa using hq
      exact .same _
    · obtain rfl : i = 0 := by simpa using hi
      exact .dat false 1 els rfl rfl

theorem o_Clone_C (els : List D) (h1 : els.length * 16 ≤ 140737488355328) (h2 : ∀ e ∈ els, okEl 2 e = true) : FSpec Try.prog 64 [.vec els] (.own 0 0 els.length) [.dat false 2 els] := by
  refine FSpec.of_awp envOf_ok hmix Try.func64 rfl (fun args w => Try.call64 args w) (by simp [Try.f64]) ?_
  simp only [Try.f64]
  simp (maxSteps := 2000000) -implicitDefEqProofs only [zz, zE, evop, ev, ofVal, tget, tput, ok, V.isUndef, intBin, guardOf, initT, Ch.on, calleeOf, withArgs, told, xport, xports, tids, tidss, hget, hput, Blk.ice, freeze, V.cells, D.cells, V.isAgg, V.one, V.clo, clos, V.toD, loadD, structAt, eqCells, D.scalarEq, sliceOf, partsD, partsV, bound, isPtr, Blk.width, elems, lenOf, splice, D.over, resOf, resV, resVs, ↓reduceIte, reduceCtorEq, ↓reduceDIte, Nat.reduceLT, Nat.reduceEqDiff, Nat.reduceAdd, Nat.reduceSub, Nat.reduceMul, Nat.reduceLeDiff, Nat.reduceBEq, Nat.reduceBNe, Int.reduceNeg, Int.reduceAdd, Int.reduceSub, Int.reduceToNat, nilTest, shiftH, Blk.ren, V.ren, renL, initV, frameH, putL, frρ, dI, dW]
  refine ⟨fun h => ?_, ⟨h1, h2⟩, ?_⟩
  · subst h
    refine Weak.pick [7] (by simp) (by simp) rfl (fun q hq => ?_) (fun i hi => ?_)
    · obtain rfl : q = _ := by simpa using hq
      exact .nils 0 2 rfl
    · obtain rfl : i = 0 := by simpa using hi
      exact .virt 2 rfl rfl
  · refine Weak.pick [1] (by simp) (by simp) rfl (fun q hq => ?_) (fun i hi => ?_)
    · obtain rfl : q = _ := by simpa using hq
      exact .same _
    · obtain rfl : i = 0 := by simpa using hi
      exact .dat false 2 els rfl rfl


theorem okEl_W (l : List (Int × Int)) : ∀ e ∈ l.map dW, okEl 2 e = true := by
  intro e he
  obtain ⟨w, _, rfl⟩ := List.mem_map.1 he
  rfl
theorem okEl_I (l : List Int) : ∀ e ∈ l.map dI, okEl 1 e = true := by
  intro e he
  obtain ⟨w, _, rfl⟩ := List.mem_map.1 he
  rfl

def rLg (l : Lg) : V := .agg [.own 0 0 l.1.length, .own 1 0 l.2.length]
def hLg (l : Lg) : Heap := [.dat false 2 (l.1.map dW), .dat false 1 (l.2.map dI)]

theorem o_own (l : Lg) (h1 : l.1.length ≤ 1000000) (h2 : l.2.length ≤ 1000000) : FSpec Try.prog 46 [dLg l] (rLg l) (hLg l) := by
  refine FSpec.of_awp envOf_ok hmix Try.func46 rfl (fun args w => Try.call46 args w) (by simp [Try.f46]) ?_
  simp only [Try.f46]
  simp (maxSteps := 2000000) -implicitDefEqProofs only [zz, zE, evop, ev, ofVal, tget, tput, ok, V.isUndef, intBin, guardOf, initT, Ch.on, calleeOf, withArgs, told, xport, xports, tids, tidss, hget, hput, Blk.ice, freeze, V.cells, D.cells, V.isAgg, V.one, V.clo, clos, V.toD, loadD, structAt, eqCells, D.scalarEq, sliceOf, partsD, partsV, bound, isPtr, Blk.width, elems, lenOf, splice, D.over, resOf, resV, resVs, ↓reduceIte, reduceCtorEq, ↓reduceDIte, Nat.reduceLT, Nat.reduceEqDiff, Nat.reduceAdd, Nat.reduceSub, Nat.reduceMul, Nat.reduceLeDiff, Nat.reduceBEq, Nat.reduceBNe, Int.reduceNeg, Int.reduceAdd, Int.reduceSub, Int.reduceToNat, nilTest, shiftH, Blk.ren, V.ren, renL, initV, frameH, putL, frρ, dI, dW]
  unfold dLg
  simp (maxSteps := 2000000) -implicitDefEqProofs only [zz, zE, evop, ev, ofVal, tget, tput, ok, V.isUndef, intBin, guardOf, initT, Ch.on, calleeOf, withArgs, told, xport, xports, tids, tidss, hget, hput, Blk.ice, freeze, V.cells, D.cells, V.isAgg, V.one, V.clo, clos, V.toD, loadD, structAt, eqCells, D.scalarEq, sliceOf, partsD, partsV, bound, isPtr, Blk.width, elems, lenOf, splice, D.over, resOf, resV, resVs, ↓reduceIte, reduceCtorEq, ↓reduceDIte, Nat.reduceLT, Nat.reduceEqDiff, Nat.reduceAdd, Nat.reduceSub, Nat.reduceMul, Nat.reduceLeDiff, Nat.reduceBEq, Nat.reduceBNe, Int.reduceNeg, Int.reduceAdd, Int.reduceSub, Int.reduceToNat, nilTest, shiftH, Blk.ren, V.ren, renL, initV, frameH, putL, frρ, dI, dW]
  refine wdraw_plan [⟨[], false, [6, 7], [], false⟩, ⟨[0], false, [6, 7], [], false⟩, ⟨[0, 1], false, [6, 7], [], false⟩, ⟨[], false, [3, 4, 5], [0, 1, 2], false⟩, ⟨[3], false, [3, 4, 5], [0, 1, 2], false⟩, ⟨[0, 1, 2, 3, 4], true, [], [], false⟩, ⟨[0, 1, 2, 3, 4, 5], true, [], [], false⟩, ⟨[0, 1, 2, 3, 4, 5, 6], true, [], [], false⟩] (by decide) ?_
  simp (maxSteps := 2000000) -implicitDefEqProofs only [zz, zE, evop, ev, ofVal, tget, tput, ok, V.isUndef, intBin, guardOf, initT, Ch.on, calleeOf, withArgs, told, xport, xports, tids, tidss, hget, hput, Blk.ice, freeze, V.cells, D.cells, V.isAgg, V.one, V.clo, clos, V.toD, loadD, structAt, eqCells, D.scalarEq, sliceOf, partsD, partsV, bound, isPtr, Blk.width, elems, lenOf, splice, D.over, resOf, resV, resVs, ↓reduceIte, reduceCtorEq, ↓reduceDIte, Nat.reduceLT, Nat.reduceEqDiff, Nat.reduceAdd, Nat.reduceSub, Nat.reduceMul, Nat.reduceLeDiff, Nat.reduceBEq, Nat.reduceBNe, Int.reduceNeg, Int.reduceAdd, Int.reduceSub, Int.reduceToNat, nilTest, shiftH, Blk.ren, V.ren, renL, initV, frameH, putL, frρ, dI, dW]
  refine dcall_own (by first | rfl | (simp only [xports, xport, hget]; rfl)) (o_Clone_W (l.1.map dW) (by simp; omega) (okEl_W _)) rfl ?_
  try simp (maxSteps := 2000000) -implicitDefEqProofs only [zz, zE, evop, ev, ofVal, tget, tput, ok, V.isUndef, intBin, guardOf, initT, Ch.on, calleeOf, withArgs, told, xport, xports, tids, tidss, hget, hput, Blk.ice, freeze, V.cells, D.cells, V.isAgg, V.one, V.clo, clos, V.toD, loadD, structAt, eqCells, D.scalarEq, sliceOf, partsD, partsV, bound, isPtr, Blk.width, elems, lenOf, splice, D.over, resOf, resV, resVs, ↓reduceIte, reduceCtorEq, ↓reduceDIte, Nat.reduceLT, Nat.reduceEqDiff, Nat.reduceAdd, Nat.reduceSub, Nat.reduceMul, Nat.reduceLeDiff, Nat.reduceBEq, Nat.reduceBNe, Int.reduceNeg, Int.reduceAdd, Int.reduceSub, Int.reduceToNat, nilTest, shiftH, Blk.ren, V.ren, renL, initV, frameH, putL, frρ, dI, dW]
  refine acall_own (by first | rfl | (simp only [xports, xport, hget]; rfl)) (o_Clone_int (l.2.map dI) (by simp; omega) (okEl_I _)) ?_
  try simp (maxSteps := 2000000) -implicitDefEqProofs only [zz, zE, evop, ev, ofVal, tget, tput, ok, V.isUndef, intBin, guardOf, initT, Ch.on, calleeOf, withArgs, told, xport, xports, tids, tidss, hget, hput, Blk.ice, freeze, V.cells, D.cells, V.isAgg, V.one, V.clo, clos, V.toD, loadD, structAt, eqCells, D.scalarEq, sliceOf, partsD, partsV, bound, isPtr, Blk.width, elems, lenOf, splice, D.over, resOf, resV, resVs, ↓reduceIte, reduceCtorEq, ↓reduceDIte, Nat.reduceLT, Nat.reduceEqDiff, Nat.reduceAdd, Nat.reduceSub, Nat.reduceMul, Nat.reduceLeDiff, Nat.reduceBEq, Nat.reduceBNe, Int.reduceNeg, Int.reduceAdd, Int.reduceSub, Int.reduceToNat, nilTest, shiftH, Blk.ren, V.ren, renL, initV, frameH, putL, frρ, dI, dW]
  refine Weak.pick [4, 7] (by decide) (by simp) rfl (fun q hq => ?_) (fun i hi => ?_)
  · obtain rfl : q = _ := by simpa using hq
    exact .same _
  · match i, hi with
    | 0, _ => exact .dat _ _ _ rfl rfl
    | 1, _ => exact .dat _ _ _ rfl rfl
    | i + 2, hi => exact absurd hi (by simp [hLg])
end Go.Proofs.Ythpapgbpmkgfeaa.AM

/- Put, Mark, Keep, Back. -/
set_option linter.all false
set_option maxRecDepth 100000
set_option maxHeartbeats 4000000
namespace Go.Proofs.Ythpapgbpmkgfeaa.AM
open Go Go.RowKit

def logPut (l : Lg) (w : Int × Int) : Lg × Int := if logR l = true ∧ wrongW w = false then (if l.1.length = 24 then (l, 5) else ((l.1 ++ [w], l.2), 0)) else (l, 1)
def logMark (l : Lg) : Lg × Int := if logR l = true then (if l.2.length = 6 then (l, 5) else ((l.1, l.2 ++ [(l.1.length : Int)]), 0)) else (l, 1)
def logMarked (l : Lg) : Int := if logR l = true then (if l.2.length = 0 then 3 else 0) else 1
def logKeep (l : Lg) : Lg × Int := if logMarked l = 0 then ((l.1, l.2.dropLast), 0) else (l, logMarked l)
def logBack (l : Lg) : Lg × Int := if logMarked l = 0 then ((l.1.take ((l.2.getLast?).getD 0).toNat, l.2.dropLast), 0) else (l, logMarked l)
def dLE (r : Lg × Int) : D := .tuple [dLg r.1, .int .i64 r.2]

theorem logR_len {l : Lg} (h : logR l = true) : l.1.length ≤ 24 ∧ l.2.length ≤ 6 := by
  simp [logR] at h; omega

theorem c_W_Put (l : Lg) (w : Int × Int) (h1 : l.1.length ≤ 1000000) (h2 : l.2.length ≤ 1000000) : CSpec Try.prog 18 [dLg l, dW w] (dLE (logPut l w)) := by
  refine CSpec.of_awp envOf_ok hmix Try.func18 rfl (fun args w => Try.call18 args w) (by simp [Try.f18]) ?_
  simp only [Try.f18]
  simp (maxSteps := 2000000) -implicitDefEqProofs only [zz, zE, evop, ev, ofVal, tget, tput, ok, V.isUndef, intBin, guardOf, initT, Ch.on, calleeOf, withArgs, told, xport, xports, tids, tidss, hget, hput, Blk.ice, freeze, V.cells, D.cells, V.isAgg, V.one, V.clo, clos, V.toD, loadD, structAt, eqCells, D.scalarEq, sliceOf, partsD, partsV, bound, isPtr, Blk.width, elems, lenOf, splice, D.over, resOf, resV, resVs, ↓reduceIte, reduceCtorEq, ↓reduceDIte, Nat.reduceLT, Nat.reduceEqDiff, Nat.reduceAdd, Nat.reduceSub, Nat.reduceMul, Nat.reduceLeDiff, Nat.reduceBEq, Nat.reduceBNe, Int.reduceNeg, Int.reduceAdd, Int.reduceSub, Int.reduceToNat, nilTest, shiftH, Blk.ren, V.ren, renL, initV, frameH, putL, frρ, dI, dW, dLg, rLg, hLg]
  refine acall_flat (by first | rfl | (simp only [xports, xport, hget]; rfl)) (c_W_Right l) rfl ?_
  try simp (maxSteps := 2000000) -implicitDefEqProofs only [zz, zE, evop, ev, ofVal, tget, tput, ok, V.isUndef, intBin, guardOf, initT, Ch.on, calleeOf, withArgs, told, xport, xports, tids, tidss, hget, hput, Blk.ice, freeze, V.cells, D.cells, V.isAgg, V.one, V.clo, clos, V.toD, loadD, structAt, eqCells, D.scalarEq, sliceOf, partsD, partsV, bound, isPtr, Blk.width, elems, lenOf, splice, D.over, resOf, resV, resVs, ↓reduceIte, reduceCtorEq, ↓reduceDIte, Nat.reduceLT, Nat.reduceEqDiff, Nat.reduceAdd, Nat.reduceSub, Nat.reduceMul, Nat.reduceLeDiff, Nat.reduceBEq, Nat.reduceBNe, Int.reduceNeg, Int.reduceAdd, Int.reduceSub, Int.reduceToNat, nilTest, shiftH, Blk.ren, V.ren, renL, initV, frameH, putL, frρ, dI, dW, dLg, rLg, hLg]
  split
  · rename_i hr
    simp only [Bool.not_eq_eq_eq_not, Bool.not_false] at hr
    refine acall_flat (by first | rfl | (simp only [xports, xport, hget]; rfl)) (c_wrong w) rfl ?_
    try simp (maxSteps := 2000000) -implicitDefEqProofs only [zz, zE, evop, ev, ofVal, tget, tput, ok, V.isUndef, intBin, guardOf, initT, Ch.on, calleeOf, withArgs, told, xport, xports, tids, tidss, hget, hput, Blk.ice, freeze, V.cells, D.cells, V.isAgg, V.one, V.clo, clos, V.toD, loadD, structAt, eqCells, D.scalarEq, sliceOf, partsD, partsV, bound, isPtr, Blk.width, elems, lenOf, splice, D.over, resOf, resV, resVs, ↓reduceIte, reduceCtorEq, ↓reduceDIte, Nat.reduceLT, Nat.reduceEqDiff, Nat.reduceAdd, Nat.reduceSub, Nat.reduceMul, Nat.reduceLeDiff, Nat.reduceBEq, Nat.reduceBNe, Int.reduceNeg, Int.reduceAdd, Int.reduceSub, Int.reduceToNat, nilTest, shiftH, Blk.ren, V.ren, renL, initV, frameH, putL, frρ, dI, dW, dLg, rLg, hLg]
    split
    · rename_i hw
      have : logPut l w = (l, 1) := by simp [logPut, wrongW, hw]
      simp [this, dLE, dLg]
    · rename_i hw
      split
      · rename_i hl
        have : logPut l w = (l, 5) := by simp [logPut, wrongW, hr, hw] at hl ⊢; omega
        simp [this, dLE, dLg]
      · rename_i hl
        refine acall_own (by first | rfl | (simp only [xports, xport, hget]; rfl)) (o_own l h1 h2) ?_
        try simp (maxSteps := 2000000) -implicitDefEqProofs only [zz, zE, evop, ev, ofVal, tget, tput, ok, V.isUndef, intBin, guardOf, initT, Ch.on, calleeOf, withArgs, told, xport, xports, tids, tidss, hget, hput, Blk.ice, freeze, V.cells, D.cells, V.isAgg, V.one, V.clo, clos, V.toD, loadD, structAt, eqCells, D.scalarEq, sliceOf, partsD, partsV, bound, isPtr, Blk.width, elems, lenOf, splice, D.over, resOf, resV, resVs, ↓reduceIte, reduceCtorEq, ↓reduceDIte, Nat.reduceLT, Nat.reduceEqDiff, Nat.reduceAdd, Nat.reduceSub, Nat.reduceMul, Nat.reduceLeDiff, Nat.reduceBEq, Nat.reduceBNe, Int.reduceNeg, Int.reduceAdd, Int.reduceSub, Int.reduceToNat, nilTest, shiftH, Blk.ren, V.ren, renL, initV, frameH, putL, frρ, dI, dW, dLg, rLg, hLg]
        have hl' := logR_len hr
        have e : logPut l w = ((l.1 ++ [w], l.2), 0) := by
          have : wrongW w = false := by simpa [wrongW] using hw
          simp [logPut, hr, this] at hl ⊢; omega
        refine ⟨⟨by omega, fun e he => ?_⟩, ?_⟩
        · obtain rfl : e = _ := by simpa using he
          rfl
        · rw [e]
          have q1 : List.take l.1.length (l.1.map dW) = l.1.map dW := List.take_of_length_le (by simp)
          have q2 : List.take l.2.length (l.2.map dI) = l.2.map dI := List.take_of_length_le (by simp)
          rw [q1, q2, List.take_of_length_le (by simp)]
          simp [dLE, dLg, dW]
  · rename_i hr
    have : logPut l w = (l, 1) := by simp [logPut] at hr ⊢; simp [hr]
    simp [this, dLE, dLg]

theorem c_W_Mark (l : Lg) (h1 : l.1.length ≤ 1000000) (h2 : l.2.length ≤ 1000000) : CSpec Try.prog 20 [dLg l] (dLE (logMark l)) := by
  refine CSpec.of_awp envOf_ok hmix Try.func20 rfl (fun args w => Try.call20 args w) (by simp [Try.f20]) ?_
  simp only [Try.f20]
  simp (maxSteps := 2000000) -implicitDefEqProofs only [zz, zE, evop, ev, ofVal, tget, tput, ok, V.isUndef, intBin, guardOf, initT, Ch.on, calleeOf, withArgs, told, xport, xports, tids, tidss, hget, hput, Blk.ice, freeze, V.cells, D.cells, V.isAgg, V.one, V.clo, clos, V.toD, loadD, structAt, eqCells, D.scalarEq, sliceOf, partsD, partsV, bound, isPtr, Blk.width, elems, lenOf, splice, D.over, resOf, resV, resVs, ↓reduceIte, reduceCtorEq, ↓reduceDIte, Nat.reduceLT, Nat.reduceEqDiff, Nat.reduceAdd, Nat.reduceSub, Nat.reduceMul, Nat.reduceLeDiff, Nat.reduceBEq, Nat.reduceBNe, Int.reduceNeg, Int.reduceAdd, Int.reduceSub, Int.reduceToNat, nilTest, shiftH, Blk.ren, V.ren, renL, initV, frameH, putL, frρ, dI, dW, dLg, rLg, hLg]
  refine acall_flat (by first | rfl | (simp only [xports, xport, hget]; rfl)) (c_W_Right l) rfl ?_
  try simp (maxSteps := 2000000) -implicitDefEqProofs only [zz, zE, evop, ev, ofVal, tget, tput, ok, V.isUndef, intBin, guardOf, initT, Ch.on, calleeOf, withArgs, told, xport, xports, tids, tidss, hget, hput, Blk.ice, freeze, V.cells, D.cells, V.isAgg, V.one, V.clo, clos, V.toD, loadD, structAt, eqCells, D.scalarEq, sliceOf, partsD, partsV, bound, isPtr, Blk.width, elems, lenOf, splice, D.over, resOf, resV, resVs, ↓reduceIte, reduceCtorEq, ↓reduceDIte, Nat.reduceLT, Nat.reduceEqDiff, Nat.reduceAdd, Nat.reduceSub, Nat.reduceMul, Nat.reduceLeDiff, Nat.reduceBEq, Nat.reduceBNe, Int.reduceNeg, Int.reduceAdd, Int.reduceSub, Int.reduceToNat, nilTest, shiftH, Blk.ren, V.ren, renL, initV, frameH, putL, frρ, dI, dW, dLg, rLg, hLg]
  split
  · rename_i hr
    have : logMark l = (l, 1) := by simp [logMark] at hr ⊢; simp [hr]
    simp [this, dLE, dLg]
  · rename_i hr
    have hr : logR l = true := by simpa using hr
    have hl' := logR_len hr
    split
    · rename_i hl
      have : logMark l = (l, 5) := by simp [logMark, hr] at hl ⊢; omega
      simp [this, dLE, dLg]
    · rename_i hl
      refine acall_own (by first | rfl | (simp only [xports, xport, hget]; rfl)) (o_own l h1 h2) ?_
      try simp (maxSteps := 2000000) -implicitDefEqProofs only [zz, zE, evop, ev, ofVal, tget, tput, ok, V.isUndef, intBin, guardOf, initT, Ch.on, calleeOf, withArgs, told, xport, xports, tids, tidss, hget, hput, Blk.ice, freeze, V.cells, D.cells, V.isAgg, V.one, V.clo, clos, V.toD, loadD, structAt, eqCells, D.scalarEq, sliceOf, partsD, partsV, bound, isPtr, Blk.width, elems, lenOf, splice, D.over, resOf, resV, resVs, ↓reduceIte, reduceCtorEq, ↓reduceDIte, Nat.reduceLT, Nat.reduceEqDiff, Nat.reduceAdd, Nat.reduceSub, Nat.reduceMul, Nat.reduceLeDiff, Nat.reduceBEq, Nat.reduceBNe, Int.reduceNeg, Int.reduceAdd, Int.reduceSub, Int.reduceToNat, nilTest, shiftH, Blk.ren, V.ren, renL, initV, frameH, putL, frρ, dI, dW, dLg, rLg, hLg]
      have e : logMark l = ((l.1, l.2 ++ [(l.1.length : Int)]), 0) := by
        simp [logMark, hr] at hl ⊢; omega
      refine ⟨⟨by omega, fun e he => ?_⟩, ?_⟩
      · obtain rfl : e = _ := by simpa using he
        rfl
      · rw [e]
        have q1 : List.take l.1.length (l.1.map dW) = l.1.map dW := List.take_of_length_le (by simp)
        have q2 : List.take l.2.length (l.2.map dI) = l.2.map dI := List.take_of_length_le (by simp)
        rw [q1, q2, List.take_of_length_le (by simp)]
        simp [dLE, dLg, dI]

theorem c_W_marked (l : Lg) : CSpec Try.prog 48 [dLg l] (.int .i64 (logMarked l)) := by
  refine CSpec.of_awp envOf_ok hmix Try.func48 rfl (fun args w => Try.call48 args w) (by simp [Try.f48]) ?_
  simp only [Try.f48]
  simp (maxSteps := 2000000) -implicitDefEqProofs only [zz, zE, evop, ev, ofVal, tget, tput, ok, V.isUndef, intBin, guardOf, initT, Ch.on, calleeOf, withArgs, told, xport, xports, tids, tidss, hget, hput, Blk.ice, freeze, V.cells, D.cells, V.isAgg, V.one, V.clo, clos, V.toD, loadD, structAt, eqCells, D.scalarEq, sliceOf, partsD, partsV, bound, isPtr, Blk.width, elems, lenOf, splice, D.over, resOf, resV, resVs, ↓reduceIte, reduceCtorEq, ↓reduceDIte, Nat.reduceLT, Nat.reduceEqDiff, Nat.reduceAdd, Nat.reduceSub, Nat.reduceMul, Nat.reduceLeDiff, Nat.reduceBEq, Nat.reduceBNe, Int.reduceNeg, Int.reduceAdd, Int.reduceSub, Int.reduceToNat, nilTest, shiftH, Blk.ren, V.ren, renL, initV, frameH, putL, frρ, dI, dW, dLg, rLg, hLg]
  refine acall_flat (by first | rfl | (simp only [xports, xport, hget]; rfl)) (c_W_Right l) rfl ?_
  try simp (maxSteps := 2000000) -implicitDefEqProofs only [zz, zE, evop, ev, ofVal, tget, tput, ok, V.isUndef, intBin, guardOf, initT, Ch.on, calleeOf, withArgs, told, xport, xports, tids, tidss, hget, hput, Blk.ice, freeze, V.cells, D.cells, V.isAgg, V.one, V.clo, clos, V.toD, loadD, structAt, eqCells, D.scalarEq, sliceOf, partsD, partsV, bound, isPtr, Blk.width, elems, lenOf, splice, D.over, resOf, resV, resVs, ↓reduceIte, reduceCtorEq, ↓reduceDIte, Nat.reduceLT, Nat.reduceEqDiff, Nat.reduceAdd, Nat.reduceSub, Nat.reduceMul, Nat.reduceLeDiff, Nat.reduceBEq, Nat.reduceBNe, Int.reduceNeg, Int.reduceAdd, Int.reduceSub, Int.reduceToNat, nilTest, shiftH, Blk.ren, V.ren, renL, initV, frameH, putL, frρ, dI, dW, dLg, rLg, hLg]
  unfold logMarked
  split
  · rename_i hr
    simp at hr; simp [hr]
  · rename_i hr
    simp at hr
    split
    · rename_i hl
      simp at hl
      simp [hr]; omega
    · rename_i hl
      simp at hl
      simp [hr]; omega

theorem logMarked_0 {l : Lg} (h : logMarked l = 0) : logR l = true ∧ l.2.length ≠ 0 := by
  unfold logMarked at h
  split at h
  · rename_i hr
    split at h
    · cases h
    · exact ⟨hr, by assumption⟩
  · cases h

theorem c_W_Keep (l : Lg) (h1 : l.1.length ≤ 1000000) (h2 : l.2.length ≤ 1000000) : CSpec Try.prog 24 [dLg l] (dLE (logKeep l)) := by
  refine CSpec.of_awp envOf_ok hmix Try.func24 rfl (fun args w => Try.call24 args w) (by simp [Try.f24]) ?_
  simp only [Try.f24]
  simp (maxSteps := 2000000) -implicitDefEqProofs only [zz, zE, evop, ev, ofVal, tget, tput, ok, V.isUndef, intBin, guardOf, initT, Ch.on, calleeOf, withArgs, told, xport, xports, tids, tidss, hget, hput, Blk.ice, freeze, V.cells, D.cells, V.isAgg, V.one, V.clo, clos, V.toD, loadD, structAt, eqCells, D.scalarEq, sliceOf, partsD, partsV, bound, isPtr, Blk.width, elems, lenOf, splice, D.over, resOf, resV, resVs, ↓reduceIte, reduceCtorEq, ↓reduceDIte, Nat.reduceLT, Nat.reduceEqDiff, Nat.reduceAdd, Nat.reduceSub, Nat.reduceMul, Nat.reduceLeDiff, Nat.reduceBEq, Nat.reduceBNe, Int.reduceNeg, Int.reduceAdd, Int.reduceSub, Int.reduceToNat, nilTest, shiftH, Blk.ren, V.ren, renL, initV, frameH, putL, frρ, dI, dW, dLg, rLg, hLg]
  refine acall_flat (by first | rfl | (simp only [xports, xport, hget]; rfl)) (c_W_marked l) rfl ?_
  try simp (maxSteps := 2000000) -implicitDefEqProofs only [zz, zE, evop, ev, ofVal, tget, tput, ok, V.isUndef, intBin, guardOf, initT, Ch.on, calleeOf, withArgs, told, xport, xports, tids, tidss, hget, hput, Blk.ice, freeze, V.cells, D.cells, V.isAgg, V.one, V.clo, clos, V.toD, loadD, structAt, eqCells, D.scalarEq, sliceOf, partsD, partsV, bound, isPtr, Blk.width, elems, lenOf, splice, D.over, resOf, resV, resVs, ↓reduceIte, reduceCtorEq, ↓reduceDIte, Nat.reduceLT, Nat.reduceEqDiff, Nat.reduceAdd, Nat.reduceSub, Nat.reduceMul, Nat.reduceLeDiff, Nat.reduceBEq, Nat.reduceBNe, Int.reduceNeg, Int.reduceAdd, Int.reduceSub, Int.reduceToNat, nilTest, shiftH, Blk.ren, V.ren, renL, initV, frameH, putL, frρ, dI, dW, dLg, rLg, hLg]
  split
  · rename_i hm
    have : logKeep l = (l, logMarked l) := by simp [logKeep] at hm ⊢; simp [hm]
    simp [this, dLE, dLg]
  · rename_i hm
    have hm' : logMarked l = 0 := by simpa using hm
    obtain ⟨hr, hne⟩ := logMarked_0 hm'
    have hl' := logR_len hr
    refine acall_own (by first | rfl | (simp only [xports, xport, hget]; rfl)) (o_own l h1 h2) ?_
    try simp (maxSteps := 2000000) -implicitDefEqProofs only [zz, zE, evop, ev, ofVal, tget, tput, ok, V.isUndef, intBin, guardOf, initT, Ch.on, calleeOf, withArgs, told, xport, xports, tids, tidss, hget, hput, Blk.ice, freeze, V.cells, D.cells, V.isAgg, V.one, V.clo, clos, V.toD, loadD, structAt, eqCells, D.scalarEq, sliceOf, partsD, partsV, bound, isPtr, Blk.width, elems, lenOf, splice, D.over, resOf, resV, resVs, ↓reduceIte, reduceCtorEq, ↓reduceDIte, Nat.reduceLT, Nat.reduceEqDiff, Nat.reduceAdd, Nat.reduceSub, Nat.reduceMul, Nat.reduceLeDiff, Nat.reduceBEq, Nat.reduceBNe, Int.reduceNeg, Int.reduceAdd, Int.reduceSub, Int.reduceToNat, nilTest, shiftH, Blk.ren, V.ren, renL, initV, frameH, putL, frρ, dI, dW, dLg, rLg, hLg]
    have hw : IntKind.i64.wrap ((l.2.length : Int) - 1) = ((l.2.length - 1 : Nat) : Int) := by rw [wrap_in (by omega)]; omega
    have e : logKeep l = ((l.1, l.2.dropLast), 0) := by simp [logKeep, hm']
    rw [hw, e]
    refine ⟨⟨by omega, by omega, by omega⟩, ?_⟩
    have q1 : List.take l.1.length (l.1.map dW) = l.1.map dW := List.take_of_length_le (by simp)
    have q2 : (((l.2.length - 1 : Nat) : Int) - 0).toNat = l.2.length - 1 := by omega
    rw [q1, q2]
    simp [dLE, dLg, List.dropLast_eq_take]

theorem marks_last {l : Lg} (hr : logR l = true) (hne : l.2.length ≠ 0) : ∃ k : Nat, l.2[l.2.length - 1]? = some (k : Int) ∧ k ≤ l.1.length ∧ l.2.getLast? = some (k : Int) := by
  have hx : l.2[l.2.length - 1]? = some l.2[l.2.length - 1] := List.getElem?_eq_getElem (by omega)
  have hoff : offI l.1.length l.2[l.2.length - 1] = false := by
    simp only [logR, Bool.and_eq_true, Bool.not_eq_true', List.any_eq_false] at hr
    simpa using hr.1.2 _ (List.getElem_mem (by omega : l.2.length - 1 < l.2.length))
  simp [offI] at hoff
  refine ⟨l.2[l.2.length - 1].toNat, ?_, by omega, ?_⟩
  · rw [hx]; congr 1; omega
  · rw [List.getLast?_eq_getElem?, hx]; congr 1; omega

theorem c_W_Back (l : Lg) (h1 : l.1.length ≤ 1000000) (h2 : l.2.length ≤ 1000000) : CSpec Try.prog 22 [dLg l] (dLE (logBack l)) := by
  have hK := c_W_Keep l h1 h2
  by_cases hm : logMarked l = 0
  · obtain ⟨hr, hne⟩ := logMarked_0 hm
    have hl' := logR_len hr
    obtain ⟨k, k1, k2, k3⟩ := marks_last hr hne
    rw [show logKeep l = ((l.1, l.2.dropLast), 0) by simp [logKeep, hm]] at hK
    have hw : IntKind.i64.wrap ((l.2.length : Int) - 1) = ((l.2.length - 1 : Nat) : Int) := by rw [wrap_in (by omega)]; omega
    simp only [dLE, dLg] at hK
    refine CSpec.of_awp envOf_ok hmix Try.func22 rfl (fun args w => Try.call22 args w) (by simp [Try.f22]) ?_
    simp only [Try.f22]
    simp (maxSteps := 2000000) -implicitDefEqProofs only [zz, zE, evop, ev, ofVal, tget, tput, ok, V.isUndef, intBin, guardOf, initT, Ch.on, calleeOf, withArgs, told, xport, xports, tids, tidss, hget, hput, Blk.ice, freeze, V.cells, D.cells, V.isAgg, V.one, V.clo, clos, V.toD, loadD, structAt, eqCells, D.scalarEq, sliceOf, partsD, partsV, bound, isPtr, Blk.width, elems, lenOf, splice, D.over, resOf, resV, resVs, ↓reduceIte, reduceCtorEq, ↓reduceDIte, Nat.reduceLT, Nat.reduceEqDiff, Nat.reduceAdd, Nat.reduceSub, Nat.reduceMul, Nat.reduceLeDiff, Nat.reduceBEq, Nat.reduceBNe, Int.reduceNeg, Int.reduceAdd, Int.reduceSub, Int.reduceToNat, nilTest, shiftH, Blk.ren, V.ren, renL, initV, frameH, putL, frρ, dI, dW, dLg, rLg, hLg]
    refine acall_ice (by first | rfl | (simp only [xports, xport, hget]; rfl)) (hK) ?_
    try simp (maxSteps := 2000000) -implicitDefEqProofs only [zz, zE, evop, ev, ofVal, tget, tput, ok, V.isUndef, intBin, guardOf, initT, Ch.on, calleeOf, withArgs, told, xport, xports, tids, tidss, hget, hput, Blk.ice, freeze, V.cells, D.cells, V.isAgg, V.one, V.clo, clos, V.toD, loadD, structAt, eqCells, D.scalarEq, sliceOf, partsD, partsV, bound, isPtr, Blk.width, elems, lenOf, splice, D.over, resOf, resV, resVs, ↓reduceIte, reduceCtorEq, ↓reduceDIte, Nat.reduceLT, Nat.reduceEqDiff, Nat.reduceAdd, Nat.reduceSub, Nat.reduceMul, Nat.reduceLeDiff, Nat.reduceBEq, Nat.reduceBNe, Int.reduceNeg, Int.reduceAdd, Int.reduceSub, Int.reduceToNat, nilTest, shiftH, Blk.ren, V.ren, renL, initV, frameH, putL, frρ, dI, dW, dLg, rLg, hLg]
    refine wdraw_plan [⟨[], false, [17, 18, 19, 20, 21, 22, 23, 24], [], false⟩, ⟨[0], false, [17, 18, 19, 20, 21, 22, 23, 24], [], false⟩, ⟨[], false, [15, 16, 19, 20, 21, 22], [0, 1], false⟩, ⟨[2], false, [15, 16, 19, 20, 21, 22], [0, 1], false⟩, ⟨[], false, [15, 16, 17, 18], [0, 1, 2, 3], false⟩, ⟨[4], false, [15, 16, 17, 18], [0, 1, 2, 3], false⟩, ⟨[4, 5], false, [15, 16, 17, 18], [0, 1, 2, 3], false⟩, ⟨[4, 5, 6], false, [15, 16, 17, 18], [0, 1, 2, 3], false⟩, ⟨[2, 3, 4, 5, 6, 7], false, [15, 16], [0, 1], false⟩, ⟨[2, 3, 4, 5, 6, 7, 8], false, [15, 16], [0, 1], false⟩, ⟨[0, 1, 2, 3, 4, 5, 6, 7, 8, 9], true, [], [], false⟩, ⟨[0, 1, 2, 3, 4, 5, 6, 7, 8, 9, 10], true, [], [], false⟩, ⟨[0, 1, 2, 3, 4, 5, 6, 7, 8, 9, 10, 11], true, [], [], false⟩] (by decide) ?_
    simp (maxSteps := 2000000) -implicitDefEqProofs only [zz, zE, evop, ev, ofVal, tget, tput, ok, V.isUndef, intBin, guardOf, initT, Ch.on, calleeOf, withArgs, told, xport, xports, tids, tidss, hget, hput, Blk.ice, freeze, V.cells, D.cells, V.isAgg, V.one, V.clo, clos, V.toD, loadD, structAt, eqCells, D.scalarEq, sliceOf, partsD, partsV, bound, isPtr, Blk.width, elems, lenOf, splice, D.over, resOf, resV, resVs, ↓reduceIte, reduceCtorEq, ↓reduceDIte, Nat.reduceLT, Nat.reduceEqDiff, Nat.reduceAdd, Nat.reduceSub, Nat.reduceMul, Nat.reduceLeDiff, Nat.reduceBEq, Nat.reduceBNe, Int.reduceNeg, Int.reduceAdd, Int.reduceSub, Int.reduceToNat, nilTest, shiftH, Blk.ren, V.ren, renL, initV, frameH, putL, frρ, dI, dW, dLg, rLg, hLg, hw, List.getElem?_map, k1, Option.map_some, Int.natCast_nonneg]
    refine ⟨⟨by omega, by omega, fun e he => ?_⟩, ?_⟩
    · obtain ⟨x, _, rfl⟩ := List.mem_map.1 he
      rfl
    · rw [show logBack l = ((l.1.take ((l.2.getLast?).getD 0).toNat, l.2.dropLast), 0) by simp [logBack, hm], k3]
      have q2 : ((k : Int) - 0).toNat = k := by omega
      rw [q2]
      simp [dLE, dLg]
  · rw [show logKeep l = (l, logMarked l) by simp [logKeep, hm]] at hK
    rw [show logBack l = (l, logMarked l) by simp [logBack, hm]]
    simp only [dLE, dLg] at hK
    refine CSpec.of_awp envOf_ok hmix Try.func22 rfl (fun args w => Try.call22 args w) (by simp [Try.f22]) ?_
    simp only [Try.f22]
    simp (maxSteps := 2000000) -implicitDefEqProofs only [zz, zE, evop, ev, ofVal, tget, tput, ok, V.isUndef, intBin, guardOf, initT, Ch.on, calleeOf, withArgs, told, xport, xports, tids, tidss, hget, hput, Blk.ice, freeze, V.cells, D.cells, V.isAgg, V.one, V.clo, clos, V.toD, loadD, structAt, eqCells, D.scalarEq, sliceOf, partsD, partsV, bound, isPtr, Blk.width, elems, lenOf, splice, D.over, resOf, resV, resVs, ↓reduceIte, reduceCtorEq, ↓reduceDIte, Nat.reduceLT, Nat.reduceEqDiff, Nat.reduceAdd, Nat.reduceSub, Nat.reduceMul, Nat.reduceLeDiff, Nat.reduceBEq, Nat.reduceBNe, Int.reduceNeg, Int.reduceAdd, Int.reduceSub, Int.reduceToNat, nilTest, shiftH, Blk.ren, V.ren, renL, initV, frameH, putL, frρ, dI, dW, dLg, rLg, hLg]
    refine acall_ice (by first | rfl | (simp only [xports, xport, hget]; rfl)) (hK) ?_
    try simp (maxSteps := 2000000) -implicitDefEqProofs only [zz, zE, evop, ev, ofVal, tget, tput, ok, V.isUndef, intBin, guardOf, initT, Ch.on, calleeOf, withArgs, told, xport, xports, tids, tidss, hget, hput, Blk.ice, freeze, V.cells, D.cells, V.isAgg, V.one, V.clo, clos, V.toD, loadD, structAt, eqCells, D.scalarEq, sliceOf, partsD, partsV, bound, isPtr, Blk.width, elems, lenOf, splice, D.over, resOf, resV, resVs, ↓reduceIte, reduceCtorEq, ↓reduceDIte, Nat.reduceLT, Nat.reduceEqDiff, Nat.reduceAdd, Nat.reduceSub, Nat.reduceMul, Nat.reduceLeDiff, Nat.reduceBEq, Nat.reduceBNe, Int.reduceNeg, Int.reduceAdd, Int.reduceSub, Int.reduceToNat, nilTest, shiftH, Blk.ren, V.ren, renL, initV, frameH, putL, frρ, dI, dW, dLg, rLg, hLg]
    simp [hm, dLE, dLg]

theorem c_r06_Put (l : Lg) (w : Int × Int) (h1 : l.1.length ≤ 1000000) (h2 : l.2.length ≤ 1000000) : CSpec Try.prog 19 [dLg l, dW w] (dLE (logPut l w)) := by
  refine CSpec.of_awp envOf_ok hmix Try.func19 rfl (fun args w => Try.call19 args w) (by simp [Try.f19]) ?_
  simp only [Try.f19]
  simp (maxSteps := 2000000) -implicitDefEqProofs only [zz, zE, evop, ev, ofVal, tget, tput, ok, V.isUndef, intBin, guardOf, initT, Ch.on, calleeOf, withArgs, told, xport, xports, tids, tidss, hget, hput, Blk.ice, freeze, V.cells, D.cells, V.isAgg, V.one, V.clo, clos, V.toD, loadD, structAt, eqCells, D.scalarEq, sliceOf, partsD, partsV, bound, isPtr, Blk.width, elems, lenOf, splice, D.over, resOf, resV, resVs, ↓reduceIte, reduceCtorEq, ↓reduceDIte, Nat.reduceLT, Nat.reduceEqDiff, Nat.reduceAdd, Nat.reduceSub, Nat.reduceMul, Nat.reduceLeDiff, Nat.reduceBEq, Nat.reduceBNe, Int.reduceNeg, Int.reduceAdd, Int.reduceSub, Int.reduceToNat, nilTest, shiftH, Blk.ren, V.ren, renL, initV, frameH, putL, frρ, dI, dW, dLg, rLg, hLg]
  refine wdraw_plan [⟨[], false, [11], [], false⟩, ⟨[0], false, [11], [], false⟩, ⟨[], false, [9, 10], [0, 1], false⟩, ⟨[0, 1, 2], true, [], [], false⟩, ⟨[0, 1, 2, 3], true, [], [], false⟩, ⟨[0, 1, 2, 3, 4], true, [], [], false⟩] (by decide) ?_
  simp (maxSteps := 2000000) -implicitDefEqProofs only [zz, zE, evop, ev, ofVal, tget, tput, ok, V.isUndef, intBin, guardOf, initT, Ch.on, calleeOf, withArgs, told, xport, xports, tids, tidss, hget, hput, Blk.ice, freeze, V.cells, D.cells, V.isAgg, V.one, V.clo, clos, V.toD, loadD, structAt, eqCells, D.scalarEq, sliceOf, partsD, partsV, bound, isPtr, Blk.width, elems, lenOf, splice, D.over, resOf, resV, resVs, ↓reduceIte, reduceCtorEq, ↓reduceDIte, Nat.reduceLT, Nat.reduceEqDiff, Nat.reduceAdd, Nat.reduceSub, Nat.reduceMul, Nat.reduceLeDiff, Nat.reduceBEq, Nat.reduceBNe, Int.reduceNeg, Int.reduceAdd, Int.reduceSub, Int.reduceToNat, nilTest, shiftH, Blk.ren, V.ren, renL, initV, frameH, putL, frρ, dI, dW, dLg, rLg, hLg]
  refine dcall_flat (by first | rfl | (simp only [xports, xport, hget]; rfl)) (c_r06_Right l h1 h2) rfl ?_
  try simp (maxSteps := 2000000) -implicitDefEqProofs only [zz, zE, evop, ev, ofVal, tget, tput, ok, V.isUndef, intBin, guardOf, initT, Ch.on, calleeOf, withArgs, told, xport, xports, tids, tidss, hget, hput, Blk.ice, freeze, V.cells, D.cells, V.isAgg, V.one, V.clo, clos, V.toD, loadD, structAt, eqCells, D.scalarEq, sliceOf, partsD, partsV, bound, isPtr, Blk.width, elems, lenOf, splice, D.over, resOf, resV, resVs, ↓reduceIte, reduceCtorEq, ↓reduceDIte, Nat.reduceLT, Nat.reduceEqDiff, Nat.reduceAdd, Nat.reduceSub, Nat.reduceMul, Nat.reduceLeDiff, Nat.reduceBEq, Nat.reduceBNe, Int.reduceNeg, Int.reduceAdd, Int.reduceSub, Int.reduceToNat, nilTest, shiftH, Blk.ren, V.ren, renL, initV, frameH, putL, frρ, dI, dW, dLg, rLg, hLg]
  refine acall_flat (by first | rfl | (simp only [xports, xport, hget]; rfl)) (c_r06_one w) rfl ?_
  try simp (maxSteps := 2000000) -implicitDefEqProofs only [zz, zE, evop, ev, ofVal, tget, tput, ok, V.isUndef, intBin, guardOf, initT, Ch.on, calleeOf, withArgs, told, xport, xports, tids, tidss, hget, hput, Blk.ice, freeze, V.cells, D.cells, V.isAgg, V.one, V.clo, clos, V.toD, loadD, structAt, eqCells, D.scalarEq, sliceOf, partsD, partsV, bound, isPtr, Blk.width, elems, lenOf, splice, D.over, resOf, resV, resVs, ↓reduceIte, reduceCtorEq, ↓reduceDIte, Nat.reduceLT, Nat.reduceEqDiff, Nat.reduceAdd, Nat.reduceSub, Nat.reduceMul, Nat.reduceLeDiff, Nat.reduceBEq, Nat.reduceBNe, Int.reduceNeg, Int.reduceAdd, Int.reduceSub, Int.reduceToNat, nilTest, shiftH, Blk.ren, V.ren, renL, initV, frameH, putL, frρ, dI, dW, dLg, rLg, hLg]
  split
  · rename_i hr
    simp only [Bool.not_eq_eq_eq_not, Bool.not_false] at hr
    split
    · rename_i hw
      have : logPut l w = (l, 1) := by simp [logPut] at hw ⊢; simp [hw]
      simp [this, dLE, dLg]
    · rename_i hw
      have hw' : wrongW w = false := by simpa using hw
      split
      · rename_i hl
        have hl' := logR_len hr
        have : logPut l w = (l, 5) := by simp [logPut, hr, hw']; omega
        simp [this, dLE, dLg]
      · rename_i hl
        have hl' := logR_len hr
        have e : logPut l w = ((l.1 ++ [w], l.2), 0) := by simp [logPut, hr, hw']; omega
        refine ⟨⟨by omega, okEl_W _⟩, ⟨by omega, fun e he => ?_⟩, ?_⟩
        · obtain rfl : e = _ := by simpa using he
          rfl
        · rw [e, List.take_of_length_le (by simp), List.take_of_length_le (by simp)]
          simp [dLE, dLg, dW]
  · rename_i hr
    have : logPut l w = (l, 1) := by simp [logPut] at hr ⊢; simp [hr]
    simp [this, dLE, dLg]

theorem c_r06_Mark (l : Lg) (h1 : l.1.length ≤ 1000000) (h2 : l.2.length ≤ 1000000) : CSpec Try.prog 21 [dLg l] (dLE (logMark l)) := by
  refine CSpec.of_awp envOf_ok hmix Try.func21 rfl (fun args w => Try.call21 args w) (by simp [Try.f21]) ?_
  simp only [Try.f21]
  simp (maxSteps := 2000000) -implicitDefEqProofs only [zz, zE, evop, ev, ofVal, tget, tput, ok, V.isUndef, intBin, guardOf, initT, Ch.on, calleeOf, withArgs, told, xport, xports, tids, tidss, hget, hput, Blk.ice, freeze, V.cells, D.cells, V.isAgg, V.one, V.clo, clos, V.toD, loadD, structAt, eqCells, D.scalarEq, sliceOf, partsD, partsV, bound, isPtr, Blk.width, elems, lenOf, splice, D.over, resOf, resV, resVs, ↓reduceIte, reduceCtorEq, ↓reduceDIte, Nat.reduceLT, Nat.reduceEqDiff, Nat.reduceAdd, Nat.reduceSub, Nat.reduceMul, Nat.reduceLeDiff, Nat.reduceBEq, Nat.reduceBNe, Int.reduceNeg, Int.reduceAdd, Int.reduceSub, Int.reduceToNat, nilTest, shiftH, Blk.ren, V.ren, renL, initV, frameH, putL, frρ, dI, dW, dLg, rLg, hLg]
  refine acall_flat (by first | rfl | (simp only [xports, xport, hget]; rfl)) (c_r06_Right l h1 h2) rfl ?_
  try simp (maxSteps := 2000000) -implicitDefEqProofs only [zz, zE, evop, ev, ofVal, tget, tput, ok, V.isUndef, intBin, guardOf, initT, Ch.on, calleeOf, withArgs, told, xport, xports, tids, tidss, hget, hput, Blk.ice, freeze, V.cells, D.cells, V.isAgg, V.one, V.clo, clos, V.toD, loadD, structAt, eqCells, D.scalarEq, sliceOf, partsD, partsV, bound, isPtr, Blk.width, elems, lenOf, splice, D.over, resOf, resV, resVs, ↓reduceIte, reduceCtorEq, ↓reduceDIte, Nat.reduceLT, Nat.reduceEqDiff, Nat.reduceAdd, Nat.reduceSub, Nat.reduceMul, Nat.reduceLeDiff, Nat.reduceBEq, Nat.reduceBNe, Int.reduceNeg, Int.reduceAdd, Int.reduceSub, Int.reduceToNat, nilTest, shiftH, Blk.ren, V.ren, renL, initV, frameH, putL, frρ, dI, dW, dLg, rLg, hLg]
  split
  · rename_i hr
    have : logMark l = (l, 1) := by simp [logMark] at hr ⊢; simp [hr]
    simp [this, dLE, dLg]
  · rename_i hr
    have hr : logR l = true := by simpa using hr
    have hl' := logR_len hr
    split
    · rename_i hl
      have : logMark l = (l, 5) := by simp [logMark, hr]; omega
      simp [this, dLE, dLg]
    · rename_i hl
      have e : logMark l = ((l.1, l.2 ++ [(l.1.length : Int)]), 0) := by simp [logMark, hr]; omega
      refine ⟨⟨by omega, okEl_I _⟩, ⟨by omega, fun e he => ?_⟩, ?_⟩
      · obtain rfl : e = _ := by simpa using he
        rfl
      · rw [e, List.take_of_length_le (by simp), List.take_of_length_le (by simp)]
        simp [dLE, dLg, dI]

theorem c_r06_Back (l : Lg) (keep : Bool) (h1 : l.1.length ≤ 1000000) (h2 : l.2.length ≤ 1000000) : CSpec Try.prog 23 [dLg l, .bool keep] (dLE (if keep = true then logKeep l else logBack l)) := by
  by_cases hm : logMarked l = 0
  · obtain ⟨hr, hne⟩ := logMarked_0 hm
    have hl' := logR_len hr
    obtain ⟨k, k1, k2, k3⟩ := marks_last hr hne
    have hw : IntKind.i64.wrap ((l.2.length : Int) - 1) = ((l.2.length - 1 : Nat) : Int) := by rw [wrap_in (by omega)]; omega
    rw [show logKeep l = ((l.1, l.2.dropLast), 0) by simp [logKeep, hm], show logBack l = ((l.1.take k, l.2.dropLast), 0) by simp [logBack, hm, k3]]
    refine CSpec.of_awp envOf_ok hmix Try.func23 rfl (fun args w => Try.call23 args w) (by simp [Try.f23]) ?_
    simp only [Try.f23]
    simp (maxSteps := 2000000) -implicitDefEqProofs only [zz, zE, evop, ev, ofVal, tget, tput, ok, V.isUndef, intBin, guardOf, initT, Ch.on, calleeOf, withArgs, told, xport, xports, tids, tidss, hget, hput, Blk.ice, freeze, V.cells, D.cells, V.isAgg, V.one, V.clo, clos, V.toD, loadD, structAt, eqCells, D.scalarEq, sliceOf, partsD, partsV, bound, isPtr, Blk.width, elems, lenOf, splice, D.over, resOf, resV, resVs, ↓reduceIte, reduceCtorEq, ↓reduceDIte, Nat.reduceLT, Nat.reduceEqDiff, Nat.reduceAdd, Nat.reduceSub, Nat.reduceMul, Nat.reduceLeDiff, Nat.reduceBEq, Nat.reduceBNe, Int.reduceNeg, Int.reduceAdd, Int.reduceSub, Int.reduceToNat, nilTest, shiftH, Blk.ren, V.ren, renL, initV, frameH, putL, frρ, dI, dW, dLg, rLg, hLg]
    refine acall_flat (by first | rfl | (simp only [xports, xport, hget]; rfl)) (c_r06_Right l h1 h2) rfl ?_
    try simp (maxSteps := 2000000) -implicitDefEqProofs only [zz, zE, evop, ev, ofVal, tget, tput, ok, V.isUndef, intBin, guardOf, initT, Ch.on, calleeOf, withArgs, told, xport, xports, tids, tidss, hget, hput, Blk.ice, freeze, V.cells, D.cells, V.isAgg, V.one, V.clo, clos, V.toD, loadD, structAt, eqCells, D.scalarEq, sliceOf, partsD, partsV, bound, isPtr, Blk.width, elems, lenOf, splice, D.over, resOf, resV, resVs, ↓reduceIte, reduceCtorEq, ↓reduceDIte, Nat.reduceLT, Nat.reduceEqDiff, Nat.reduceAdd, Nat.reduceSub, Nat.reduceMul, Nat.reduceLeDiff, Nat.reduceBEq, Nat.reduceBNe, Int.reduceNeg, Int.reduceAdd, Int.reduceSub, Int.reduceToNat, nilTest, shiftH, Blk.ren, V.ren, renL, initV, frameH, putL, frρ, dI, dW, dLg, rLg, hLg]
    have hne' : ((l.2.length : Int) == 0) = false := by rw [beq_eq_false_iff_ne]; omega
    simp (maxSteps := 2000000) -implicitDefEqProofs only [zz, zE, evop, ev, ofVal, tget, tput, ok, V.isUndef, intBin, guardOf, initT, Ch.on, calleeOf, withArgs, told, xport, xports, tids, tidss, hget, hput, Blk.ice, freeze, V.cells, D.cells, V.isAgg, V.one, V.clo, clos, V.toD, loadD, structAt, eqCells, D.scalarEq, sliceOf, partsD, partsV, bound, isPtr, Blk.width, elems, lenOf, splice, D.over, resOf, resV, resVs, ↓reduceIte, reduceCtorEq, ↓reduceDIte, Nat.reduceLT, Nat.reduceEqDiff, Nat.reduceAdd, Nat.reduceSub, Nat.reduceMul, Nat.reduceLeDiff, Nat.reduceBEq, Nat.reduceBNe, Int.reduceNeg, Int.reduceAdd, Int.reduceSub, Int.reduceToNat, nilTest, shiftH, Blk.ren, V.ren, renL, initV, frameH, putL, frρ, dI, dW, dLg, rLg, hLg, hr, hne']
    split
    · refine wdraw_plan [⟨[], false, [22, 23, 24, 25, 26], [], false⟩, ⟨[0], false, [22, 23, 24, 25, 26], [], false⟩, ⟨[], false, [20, 21, 24, 25], [0, 1], false⟩, ⟨[2], false, [20, 21, 24, 25], [0, 1], false⟩, ⟨[], false, [20, 21, 22, 23], [0, 1, 2, 3], false⟩, ⟨[4], false, [20, 21, 22, 23], [0, 1, 2, 3], false⟩, ⟨[2, 3, 4, 5], false, [20, 21], [0, 1], false⟩, ⟨[0, 1, 2, 3, 4, 5, 6], true, [], [], false⟩, ⟨[0, 1, 2, 3, 4, 5, 6, 7], true, [], [], false⟩, ⟨[0, 1, 2, 3, 4, 5, 6, 7, 8], true, [], [], false⟩] (by decide) ?_
      simp (maxSteps := 2000000) -implicitDefEqProofs only [zz, zE, evop, ev, ofVal, tget, tput, ok, V.isUndef, intBin, guardOf, initT, Ch.on, calleeOf, withArgs, told, xport, xports, tids, tidss, hget, hput, Blk.ice, freeze, V.cells, D.cells, V.isAgg, V.one, V.clo, clos, V.toD, loadD, structAt, eqCells, D.scalarEq, sliceOf, partsD, partsV, bound, isPtr, Blk.width, elems, lenOf, splice, D.over, resOf, resV, resVs, ↓reduceIte, reduceCtorEq, ↓reduceDIte, Nat.reduceLT, Nat.reduceEqDiff, Nat.reduceAdd, Nat.reduceSub, Nat.reduceMul, Nat.reduceLeDiff, Nat.reduceBEq, Nat.reduceBNe, Int.reduceNeg, Int.reduceAdd, Int.reduceSub, Int.reduceToNat, nilTest, shiftH, Blk.ren, V.ren, renL, initV, frameH, putL, frρ, dI, dW, dLg, rLg, hLg, hw, List.getElem?_map, k1, Option.map_some, Int.natCast_nonneg]
      have q2 : (((l.2.length - 1 : Nat) : Int) - 0).toNat = l.2.length - 1 := by omega
      refine ⟨⟨by omega, by omega, fun e he => ?_⟩, ?_⟩
      · obtain ⟨x, _, rfl⟩ := List.mem_map.1 he
        rfl
      · rw [q2]; simp [dLE, dLg, List.dropLast_eq_take]
    · refine wdraw_plan [⟨[], false, [30, 31, 32, 33, 34, 35, 37, 38, 39, 40, 41], [], false⟩, ⟨[0], false, [30, 31, 32, 33, 34, 35, 37, 38, 39, 40, 41], [], false⟩, ⟨[], false, [28, 29, 32, 33, 37, 38, 39, 40, 41], [0, 1], false⟩, ⟨[2], false, [28, 29, 32, 33, 37, 38, 39, 40, 41], [0, 1], false⟩, ⟨[], false, [28, 29, 30, 31, 37, 38, 39, 40, 41], [0, 1, 2, 3], false⟩, ⟨[4], false, [28, 29, 30, 31, 37, 38, 39, 40, 41], [0, 1, 2, 3], false⟩, ⟨[2, 3, 4, 5], false, [28, 29, 37, 38, 39, 40, 41], [0, 1], false⟩, ⟨[2, 3, 4, 5, 6], false, [28, 29, 37, 38, 39, 40, 41], [0, 1], false⟩, ⟨[0, 1, 2, 3, 4, 5, 6, 7], false, [37, 38, 39, 40, 41], [], false⟩, ⟨[], false, [28, 29, 30, 31, 32, 33, 34, 35, 36, 39, 40], [0, 1, 2, 3, 4, 5, 6, 7, 8], false⟩, ⟨[9], false, [28, 29, 30, 31, 32, 33, 34, 35, 36, 39, 40], [0, 1, 2, 3, 4, 5, 6, 7, 8], false⟩, ⟨[], false, [28, 29, 30, 31, 32, 33, 34, 35, 36, 37, 38], [0, 1, 2, 3, 4, 5, 6, 7, 8, 9, 10], false⟩, ⟨[11], false, [28, 29, 30, 31, 32, 33, 34, 35, 36, 37, 38], [0, 1, 2, 3, 4, 5, 6, 7, 8, 9, 10], false⟩, ⟨[9, 10, 11, 12], false, [28, 29, 30, 31, 32, 33, 34, 35, 36], [0, 1, 2, 3, 4, 5, 6, 7, 8], false⟩, ⟨[0, 1, 2, 3, 4, 5, 6, 7, 8, 9, 10, 11, 12, 13], true, [], [], false⟩, ⟨[0, 1, 2, 3, 4, 5, 6, 7, 8, 9, 10, 11, 12, 13, 14], true, [], [], false⟩, ⟨[0, 1, 2, 3, 4, 5, 6, 7, 8, 9, 10, 11, 12, 13, 14, 15], true, [], [], false⟩] (by decide) ?_
      simp (maxSteps := 2000000) -implicitDefEqProofs only [zz, zE, evop, ev, ofVal, tget, tput, ok, V.isUndef, intBin, guardOf, initT, Ch.on, calleeOf, withArgs, told, xport, xports, tids, tidss, hget, hput, Blk.ice, freeze, V.cells, D.cells, V.isAgg, V.one, V.clo, clos, V.toD, loadD, structAt, eqCells, D.scalarEq, sliceOf, partsD, partsV, bound, isPtr, Blk.width, elems, lenOf, splice, D.over, resOf, resV, resVs, ↓reduceIte, reduceCtorEq, ↓reduceDIte, Nat.reduceLT, Nat.reduceEqDiff, Nat.reduceAdd, Nat.reduceSub, Nat.reduceMul, Nat.reduceLeDiff, Nat.reduceBEq, Nat.reduceBNe, Int.reduceNeg, Int.reduceAdd, Int.reduceSub, Int.reduceToNat, nilTest, shiftH, Blk.ren, V.ren, renL, initV, frameH, putL, frρ, dI, dW, dLg, rLg, hLg, hw, List.getElem?_map, k1, Option.map_some, Int.natCast_nonneg]
      have q1 : ((k : Int) - 0).toNat = k := by omega
      have q2 : (((l.2.length - 1 : Nat) : Int) - 0).toNat = l.2.length - 1 := by omega
      refine ⟨⟨by omega, by omega, fun e he => ?_⟩, ⟨by omega, by omega, fun e he => ?_⟩, ?_⟩
      · obtain ⟨x, _, rfl⟩ := List.mem_map.1 he
        rfl
      · obtain ⟨x, _, rfl⟩ := List.mem_map.1 he
        rfl
      · rw [q1, q2]; simp [dLE, dLg, List.dropLast_eq_take]
  · have e : (if keep = true then logKeep l else logBack l) = (l, logMarked l) := by simp [logKeep, logBack, hm]
    rw [e]
    refine CSpec.of_awp envOf_ok hmix Try.func23 rfl (fun args w => Try.call23 args w) (by simp [Try.f23]) ?_
    simp only [Try.f23]
    simp (maxSteps := 2000000) -implicitDefEqProofs only [zz, zE, evop, ev, ofVal, tget, tput, ok, V.isUndef, intBin, guardOf, initT, Ch.on, calleeOf, withArgs, told, xport, xports, tids, tidss, hget, hput, Blk.ice, freeze, V.cells, D.cells, V.isAgg, V.one, V.clo, clos, V.toD, loadD, structAt, eqCells, D.scalarEq, sliceOf, partsD, partsV, bound, isPtr, Blk.width, elems, lenOf, splice, D.over, resOf, resV, resVs, ↓reduceIte, reduceCtorEq, ↓reduceDIte, Nat.reduceLT, Nat.reduceEqDiff, Nat.reduceAdd, Nat.reduceSub, Nat.reduceMul, Nat.reduceLeDiff, Nat.reduceBEq, Nat.reduceBNe, Int.reduceNeg, Int.reduceAdd, Int.reduceSub, Int.reduceToNat, nilTest, shiftH, Blk.ren, V.ren, renL, initV, frameH, putL, frρ, dI, dW, dLg, rLg, hLg]
    refine acall_flat (by first | rfl | (simp only [xports, xport, hget]; rfl)) (c_r06_Right l h1 h2) rfl ?_
    try simp (maxSteps := 2000000) -implicitDefEqProofs only [zz, zE, evop, ev, ofVal, tget, tput, ok, V.isUndef, intBin, guardOf, initT, Ch.on, calleeOf, withArgs, told, xport, xports, tids, tidss, hget, hput, Blk.ice, freeze, V.cells, D.cells, V.isAgg, V.one, V.clo, clos, V.toD, loadD, structAt, eqCells, D.scalarEq, sliceOf, partsD, partsV, bound, isPtr, Blk.width, elems, lenOf, splice, D.over, resOf, resV, resVs, ↓reduceIte, reduceCtorEq, ↓reduceDIte, Nat.reduceLT, Nat.reduceEqDiff, Nat.reduceAdd, Nat.reduceSub, Nat.reduceMul, Nat.reduceLeDiff, Nat.reduceBEq, Nat.reduceBNe, Int.reduceNeg, Int.reduceAdd, Int.reduceSub, Int.reduceToNat, nilTest, shiftH, Blk.ren, V.ren, renL, initV, frameH, putL, frρ, dI, dW, dLg, rLg, hLg]
    unfold logMarked at hm ⊢
    cases hr : logR l
    · simp (maxSteps := 2000000) -implicitDefEqProofs only [zz, zE, evop, ev, ofVal, tget, tput, ok, V.isUndef, intBin, guardOf, initT, Ch.on, calleeOf, withArgs, told, xport, xports, tids, tidss, hget, hput, Blk.ice, freeze, V.cells, D.cells, V.isAgg, V.one, V.clo, clos, V.toD, loadD, structAt, eqCells, D.scalarEq, sliceOf, partsD, partsV, bound, isPtr, Blk.width, elems, lenOf, splice, D.over, resOf, resV, resVs, ↓reduceIte, reduceCtorEq, ↓reduceDIte, Nat.reduceLT, Nat.reduceEqDiff, Nat.reduceAdd, Nat.reduceSub, Nat.reduceMul, Nat.reduceLeDiff, Nat.reduceBEq, Nat.reduceBNe, Int.reduceNeg, Int.reduceAdd, Int.reduceSub, Int.reduceToNat, nilTest, shiftH, Blk.ren, V.ren, renL, initV, frameH, putL, frρ, dI, dW, dLg, rLg, hLg, hr]
      simp [dLE, dLg]
    · rw [hr] at hm
      have h0 : l.2.length = 0 := by
        rcases Nat.eq_zero_or_pos l.2.length with h | h
        · exact h
        · exact absurd (by rw [if_pos rfl, if_neg (by omega)]) hm
      have h0' : ((l.2.length : Int) == 0) = true := by simp [h0]
      simp (maxSteps := 2000000) -implicitDefEqProofs only [zz, zE, evop, ev, ofVal, tget, tput, ok, V.isUndef, intBin, guardOf, initT, Ch.on, calleeOf, withArgs, told, xport, xports, tids, tidss, hget, hput, Blk.ice, freeze, V.cells, D.cells, V.isAgg, V.one, V.clo, clos, V.toD, loadD, structAt, eqCells, D.scalarEq, sliceOf, partsD, partsV, bound, isPtr, Blk.width, elems, lenOf, splice, D.over, resOf, resV, resVs, ↓reduceIte, reduceCtorEq, ↓reduceDIte, Nat.reduceLT, Nat.reduceEqDiff, Nat.reduceAdd, Nat.reduceSub, Nat.reduceMul, Nat.reduceLeDiff, Nat.reduceBEq, Nat.reduceBNe, Int.reduceNeg, Int.reduceAdd, Int.reduceSub, Int.reduceToNat, nilTest, shiftH, Blk.ren, V.ren, renL, initV, frameH, putL, frρ, dI, dW, dLg, rLg, hLg, hr, h0', h0]
      simp [dLE, dLg]

end Go.Proofs.Ythpapgbpmkgfeaa.AM

/- Slices, turned and sorted. -/
set_option linter.all false
set_option maxRecDepth 100000
set_option maxHeartbeats 4000000
namespace Go.Proofs.Ythpapgbpmkgfeaa.AM
open Go Go.RowKit

theorem set_dW (l : List (Int × Int)) (i : Nat) (a : Int × Int) : (l.map dW).set i (.agg [.int .i64 a.1, .int .i64 a.2]) = (l.set i a).map dW := by
  rw [List.map_set]; rfl

theorem r_Reverse_W (ws : List (Int × Int)) (hl : ws.length ≤ 1000000) : RSpec Try.prog 55 [.own 0 0 ws.length] [.dat false 2 (ws.map dW)] (.tuple []) [.dat false 2 (ws.reverse.map dW)] := by
  refine RSpec.of_awp envOf_ok hmix Try.func55 rfl (fun args w => Try.call55 args w) (by simp [Try.f55]) ?_
  simp only [Try.f55]
  simp (maxSteps := 2000000) -implicitDefEqProofs only [zz, zE, evop, ev, ofVal, tget, tput, ok, V.isUndef, intBin, guardOf, initT, Ch.on, calleeOf, withArgs, told, xport, xports, tids, tidss, hget, hput, Blk.ice, freeze, V.cells, D.cells, V.isAgg, V.one, V.clo, clos, V.toD, loadD, structAt, eqCells, D.scalarEq, sliceOf, partsD, partsV, bound, isPtr, Blk.width, elems, lenOf, splice, D.over, resOf, resV, resVs, ↓reduceIte, reduceCtorEq, ↓reduceDIte, Nat.reduceLT, Nat.reduceEqDiff, Nat.reduceAdd, Nat.reduceSub, Nat.reduceMul, Nat.reduceLeDiff, Nat.reduceBEq, Nat.reduceBNe, Int.reduceNeg, Int.reduceAdd, Int.reduceSub, Int.reduceToNat, nilTest, shiftH, Blk.ren, V.ren, renL, initV, frameH, putL, frρ, dI, dW]
  have hw0 : IntKind.i64.wrap ((ws.length : Int) - 1) = (ws.length : Int) - 1 := wrap_in (by omega)
  refine wloop_ind (σ := Nat × List (Int × Int)) (fun s => ws.length - s.1) (fun s => [(2, .d (.int .i64 s.1)), (3, .d (.int .i64 ((ws.length : Int) - 1 - s.1))), (0, .own 0 0 ws.length)]) (fun s => [.dat false 2 (s.2.map dW)])
    (fun s => s.1 ≤ ws.length ∧ s.2.length = ws.length ∧ ∀ k, k < ws.length → s.2[k]? = if k < s.1 ∨ ws.length ≤ k + s.1 then ws[ws.length - 1 - k]? else ws[k]?) (0, ws) ⟨Nat.zero_le _, rfl, fun k hk => by rw [if_neg (by simp; omega)]⟩ (Weak.sub (by simp [tget, hw0])) ?_
  rintro ⟨i, cur⟩ ⟨hi, hc, hk⟩
  simp only at hi hc hk
  rcases Int.lt_or_le (i : Int) ((ws.length : Int) - 1 - i) with h | h
  · have hj' : ((ws.length : Int) - 1 - (i : Int)) = ((ws.length - 1 - i : Nat) : Int) := by omega
    have hlt : ((i : Int) < ((ws.length - 1 - i : Nat) : Int)) := by omega
    have hij : i < ws.length - 1 - i := by omega
    have hgi : cur[i]? = some cur[i] := List.getElem?_eq_getElem (by omega)
    have hgj : cur[ws.length - 1 - i]? = some (cur[ws.length - 1 - i]'(by omega)) := List.getElem?_eq_getElem (by omega)
    have hgj2 : (cur.set i (cur[ws.length - 1 - i]'(by omega)))[ws.length - 1 - i]? = some (cur[ws.length - 1 - i]'(by omega)) := by
      rw [List.getElem?_set_ne (by omega)]; exact hgj
    simp (maxSteps := 2000000) -implicitDefEqProofs only [zz, zE, evop, ev, ofVal, tget, tput, ok, V.isUndef, intBin, guardOf, initT, Ch.on, calleeOf, withArgs, told, xport, xports, tids, tidss, hget, hput, Blk.ice, freeze, V.cells, D.cells, V.isAgg, V.one, V.clo, clos, V.toD, loadD, structAt, eqCells, D.scalarEq, sliceOf, partsD, partsV, bound, isPtr, Blk.width, elems, lenOf, splice, D.over, resOf, resV, resVs, ↓reduceIte, reduceCtorEq, ↓reduceDIte, Nat.reduceLT, Nat.reduceEqDiff, Nat.reduceAdd, Nat.reduceSub, Nat.reduceMul, Nat.reduceLeDiff, Nat.reduceBEq, Nat.reduceBNe, Int.reduceNeg, Int.reduceAdd, Int.reduceSub, Int.reduceToNat, nilTest, shiftH, Blk.ren, V.ren, renL, initV, frameH, putL, frρ, dI, dW, hj', hlt]
    refine wdraw_plan [⟨[], false, [15, 16, 17, 18, 19, 20, 21, 22, 23, 24, 25], [], false⟩, ⟨[], false, [14, 16, 17, 18, 19, 20, 21, 22, 23, 24, 25], [0], false⟩, ⟨[], false, [14, 15, 16, 17, 18, 19, 20, 21, 22, 23, 24, 25, 26, 27], [0, 1], true⟩, ⟨[], false, [14, 15, 16, 17, 18, 19, 20, 21, 22, 23, 24, 25, 26, 27], [0, 1, 2], true⟩, ⟨[], false, [14, 15, 16, 17, 19, 22, 23, 24, 25], [0, 1, 2, 3], false⟩, ⟨[], false, [14, 15, 16, 17, 18, 22, 23, 24, 25], [0, 1, 2, 3, 4], false⟩, ⟨[4, 5], false, [14, 15, 16, 17, 22, 23, 24, 25], [0, 1, 2, 3], false⟩, ⟨[4, 5, 6], false, [14, 15, 16, 17, 22, 23, 24, 25], [0, 1, 2, 3], false⟩, ⟨[], false, [14, 15, 16, 17, 18, 19, 20, 21, 23], [0, 1, 2, 3, 4, 5, 6, 7], false⟩, ⟨[], false, [14, 15, 16, 17, 18, 19, 20, 21, 22], [0, 1, 2, 3, 4, 5, 6, 7, 8], false⟩, ⟨[8, 9], false, [14, 15, 16, 17, 18, 19, 20, 21], [0, 1, 2, 3, 4, 5, 6, 7], false⟩, ⟨[8, 9, 10], false, [14, 15, 16, 17, 18, 19, 20, 21], [0, 1, 2, 3, 4, 5, 6, 7], false⟩, ⟨[0, 1, 4, 5, 6, 7, 8, 9, 10, 11], false, [16, 17], [2, 3], false⟩, ⟨[0, 1, 4, 5, 6, 7, 8, 9, 10, 11, 12], true, [16, 17], [], false⟩, ⟨[0, 1, 2, 3, 4, 5, 6, 7, 8, 9, 10, 11, 12, 13], true, [], [], false⟩, ⟨[0, 1, 2, 3, 4, 5, 6, 7, 8, 9, 10, 11, 12, 13, 14], true, [], [], false⟩] (by decide) ?_
    simp (maxSteps := 2000000) -implicitDefEqProofs only [zz, zE, evop, ev, ofVal, tget, tput, ok, V.isUndef, intBin, guardOf, initT, Ch.on, calleeOf, withArgs, told, xport, xports, tids, tidss, hget, hput, Blk.ice, freeze, V.cells, D.cells, V.isAgg, V.one, V.clo, clos, V.toD, loadD, structAt, eqCells, D.scalarEq, sliceOf, partsD, partsV, bound, isPtr, Blk.width, elems, lenOf, splice, D.over, resOf, resV, resVs, ↓reduceIte, reduceCtorEq, ↓reduceDIte, Nat.reduceLT, Nat.reduceEqDiff, Nat.reduceAdd, Nat.reduceSub, Nat.reduceMul, Nat.reduceLeDiff, Nat.reduceBEq, Nat.reduceBNe, Int.reduceNeg, Int.reduceAdd, Int.reduceSub, Int.reduceToNat, nilTest, shiftH, Blk.ren, V.ren, renL, initV, frameH, putL, frρ, dI, dW, hj', hlt, List.getElem?_map, hgi, hgj, hgj2, Option.map_some, Int.natCast_nonneg, set_dW]
    have hwi : IntKind.i64.wrap ((i : Int) + 1) = ((i + 1 : Nat) : Int) := by rw [wrap_in (by omega)]; omega
    have hwj : IntKind.i64.wrap (((ws.length - 1 - i : Nat) : Int) - 1) = (ws.length : Int) - 1 - ((i + 1 : Nat) : Int) := by rw [wrap_in (by omega)]; omega
    refine ⟨by omega, by omega, by omega, by omega, (i + 1, (cur.set i (cur[ws.length - 1 - i]'(by omega))).set (ws.length - 1 - i) cur[i]), ⟨by simp only; omega, by simp [hc], fun k hkl => ?_⟩, by simp only; omega, Weak.trimsM 1 (by simp) rfl (by simp [tget, hwi, hwj, V.lower]) (by simp [Blk.lower])⟩
    by_cases h1 : ws.length - 1 - i = k
    · subst h1
      rw [List.getElem?_set_self (by simp; omega)]
      rw [if_pos (by simp only; omega)]
      have := hk i (by omega)
      rw [if_neg (by omega), hgi] at this
      have e : ws.length - 1 - (ws.length - 1 - i) = i := by omega
      rw [e, this]
    · rw [List.getElem?_set_ne h1]
      by_cases h2 : i = k
      · subst h2
        rw [List.getElem?_set_self (by omega), if_pos (by simp only; omega)]
        have := hk (ws.length - 1 - i) (by omega)
        rw [if_neg (by omega), hgj] at this
        rw [this]
      · rw [List.getElem?_set_ne h2, hk k hkl]
        have : (k < i ∨ ws.length ≤ k + i) ↔ (k < i + 1 ∨ ws.length ≤ k + (i + 1)) := by omega
        simp only [this]
  · have h' : ¬ ((i : Int) < (ws.length : Int) - 1 - (i : Int)) := by omega
    simp (maxSteps := 2000000) -implicitDefEqProofs only [zz, zE, evop, ev, ofVal, tget, tput, ok, V.isUndef, intBin, guardOf, initT, Ch.on, calleeOf, withArgs, told, xport, xports, tids, tidss, hget, hput, Blk.ice, freeze, V.cells, D.cells, V.isAgg, V.one, V.clo, clos, V.toD, loadD, structAt, eqCells, D.scalarEq, sliceOf, partsD, partsV, bound, isPtr, Blk.width, elems, lenOf, splice, D.over, resOf, resV, resVs, ↓reduceIte, reduceCtorEq, ↓reduceDIte, Nat.reduceLT, Nat.reduceEqDiff, Nat.reduceAdd, Nat.reduceSub, Nat.reduceMul, Nat.reduceLeDiff, Nat.reduceBEq, Nat.reduceBNe, Int.reduceNeg, Int.reduceAdd, Int.reduceSub, Int.reduceToNat, nilTest, shiftH, Blk.ren, V.ren, renL, initV, frameH, putL, frρ, dI, dW, h']
    have : cur = ws.reverse := by
      apply List.ext_getElem?
      intro k
      rcases Nat.lt_or_ge k ws.length with hkl | hkl
      · rw [hk k hkl, List.getElem?_reverse (by omega)]
        split
        · rfl
        · rename_i hn
          have : ws.length - 1 - k = k := by omega
          rw [this]
      · rw [List.getElem?_eq_none (by omega), List.getElem?_eq_none (by simp; omega)]
    rw [this]
    exact Weak.sub (by simp [tget])

end Go.Proofs.Ythpapgbpmkgfeaa.AM

/- Sorting by insertion. -/
set_option linter.all false
set_option maxRecDepth 100000
set_option maxHeartbeats 4000000
namespace Go.Proofs.Ythpapgbpmkgfeaa.AM
open Go Go.RowKit

section
variable {α : Type}

/-- Where x belongs: ahead of the last ones that it is less than. -/
def insK (lt : α → α → Bool) (x : α) (A : List α) : Nat := A.length - (A.reverse.takeWhile (lt x)).length
def insR (lt : α → α → Bool) (x : α) (A : List α) : List α := A.take (insK lt x A) ++ x :: A.drop (insK lt x A)
def isort (lt : α → α → Bool) (l : List α) : List α := l.foldl (fun A x => insR lt x A) []

theorem takeWhile_len {p : α → Bool} : ∀ (l : List α) (k : Nat), k ≤ l.length → (∀ i, i < k → ∀ y, l[i]? = some y → p y = true) → (∀ y, l[k]? = some y → p y = false) → (l.takeWhile p).length = k
  | [], k, h, _, _ => by simp at h; simp [h]
  | a :: l, 0, h, _, h2 => by
    have := h2 a rfl
    simp [List.takeWhile_cons, this]
  | a :: l, k + 1, h, h1, h2 => by
    have ha := h1 0 (by omega) a rfl
    rw [List.takeWhile_cons, if_pos ha, List.length_cons, takeWhile_len l k (by simpa using h) (fun i hi y hy => h1 (i + 1) (by omega) y (by simpa using hy)) (fun y hy => h2 y (by simpa using hy))]

theorem insK_eq {lt : α → α → Bool} {x : α} {A : List α} {k : Nat} (hk : k ≤ A.length) (h1 : ∀ i, k ≤ i → ∀ y, A[i]? = some y → lt x y = true) (h2 : k = 0 ∨ ∃ y, A[k - 1]? = some y ∧ lt x y = false) : insK lt x A = k := by
  unfold insK
  rw [takeWhile_len A.reverse (A.length - k) (by simp) (fun i hi y hy => ?_) (fun y hy => ?_)]
  · omega
  · rw [List.getElem?_reverse (by omega)] at hy
    exact h1 _ (by omega) y hy
  · have hlt : A.length - k < A.reverse.length := (List.getElem?_eq_some_iff.1 hy).1
    simp at hlt
    rw [List.getElem?_reverse (by omega)] at hy
    rcases h2 with h2 | ⟨z, hz, hz2⟩
    · omega
    · have e : A.length - 1 - (A.length - k) = k - 1 := by omega
      rw [e, hz] at hy; cases hy; exact hz2

/-- The list while x goes to its place. -/
def insAt (P A R : List α) (x : α) (k : Nat) : List α := P ++ (A.take k ++ x :: A.drop k) ++ R

theorem insAt_length {P A R : List α} {x : α} {k : Nat} (hk : k ≤ A.length) : (insAt P A R x k).length = P.length + A.length + 1 + R.length := by
  simp [insAt]; omega

theorem insAt_get {P A R : List α} {x : α} {k : Nat} (hk : k ≤ A.length) (i : Nat) : (insAt P A R x k)[i]? = if i < P.length then P[i]? else if i < P.length + k then A[i - P.length]? else if i = P.length + k then some x else if i ≤ P.length + A.length then A[i - P.length - 1]? else R[i - P.length - A.length - 1]? := by
  unfold insAt
  rw [List.append_assoc, List.getElem?_append]
  by_cases h1 : i < P.length
  · rw [if_pos h1, if_pos h1]
  · rw [if_neg h1, if_neg h1, List.getElem?_append]
    have hl : (A.take k ++ x :: A.drop k).length = A.length + 1 := by simp; omega
    rw [hl, List.getElem?_append]
    have hl2 : (A.take k).length = k := by simp; omega
    rw [hl2]
    by_cases h2 : i < P.length + k
    · rw [if_pos (by omega), if_pos (by omega), if_pos h2, List.getElem?_take, if_pos (by omega)]
    · rw [if_neg h2]
      by_cases h3 : i = P.length + k
      · rw [if_pos (by omega), if_neg (by omega), if_pos h3]
        have : i - P.length - k = 0 := by omega
        rw [this]; rfl
      · rw [if_neg h3]
        by_cases h4 : i ≤ P.length + A.length
        · rw [if_pos (by omega), if_neg (by omega), if_pos h4]
          obtain ⟨d, hd⟩ : ∃ d, i - P.length - k = d + 1 := ⟨i - P.length - k - 1, by omega⟩
          rw [hd, List.getElem?_cons_succ, List.getElem?_drop]
          congr 1; omega
        · rw [if_neg (by omega), if_neg h4]
          congr 1

theorem insAt_swap {P A R : List α} {x y : α} {k : Nat} (hk : k + 1 ≤ A.length) (hy : A[k]? = some y) : ((insAt P A R x (k + 1)).set (P.length + k + 1) y).set (P.length + k) x = insAt P A R x k := by
  apply List.ext_getElem?
  intro i
  have hlen := insAt_length (P := P) (R := R) (x := x) hk
  by_cases h1 : P.length + k = i
  · subst h1
    rw [List.getElem?_set_self (by simp; omega), insAt_get (by omega), if_neg (by omega), if_neg (by omega), if_pos rfl]
  · rw [List.getElem?_set_ne h1]
    by_cases h2 : P.length + k + 1 = i
    · subst h2
      rw [List.getElem?_set_self (by omega), insAt_get (by omega), if_neg (by omega), if_neg (by omega), if_neg (by omega), if_pos (by omega)]
      have : P.length + k + 1 - P.length - 1 = k := by omega
      rw [this, hy]
    · rw [List.getElem?_set_ne h2, insAt_get hk, insAt_get (by omega)]
      by_cases h3 : i < P.length
      · rw [if_pos h3, if_pos h3]
      · rw [if_neg h3, if_neg h3]
        by_cases h4 : i < P.length + k
        · rw [if_pos (by omega), if_pos h4]
        · have f1 : ¬ i < P.length + (k + 1) := by omega
          have f2 : ¬ i = P.length + (k + 1) := by omega
          have f3 : ¬ i = P.length + k := by omega
          simp only [f1, f2, f3, h4, if_false]

end

theorem isort_snoc {α : Type} (lt : α → α → Bool) (l : List α) (x : α) : isort lt (l ++ [x]) = insR lt x (isort lt l) := by simp [isort]
theorem insR_length {α : Type} (lt : α → α → Bool) (x : α) (A : List α) : (insR lt x A).length = A.length + 1 := by
  simp [insR]; unfold insK; omega
theorem isort_length {α : Type} (lt : α → α → Bool) : ∀ (l : List α), (isort lt l).length = l.length := by
  intro l
  have : ∀ (l A : List α), (l.foldl (fun A x => insR lt x A) A).length = A.length + l.length := by
    intro l
    induction l with
    | nil => intro A; simp
    | cons x l ih => intro A; simp only [List.foldl_cons]; rw [ih, insR_length]; simp; omega
  simpa [isort] using this l []

theorem insR_mem {α : Type} {lt : α → α → Bool} {x y : α} {A : List α} (h : y ∈ insR lt x A) : y = x ∨ y ∈ A := by
  unfold insR at h
  rw [List.mem_append, List.mem_cons] at h
  rcases h with h | h | h
  · exact .inr (List.mem_of_mem_take h)
  · exact .inl h
  · exact .inr (List.mem_of_mem_drop h)

theorem isort_mem {α : Type} {lt : α → α → Bool} {y : α} : ∀ {l : List α}, y ∈ isort lt l → y ∈ l := by
  have : ∀ (l A : List α), y ∈ l.foldl (fun A x => insR lt x A) A → y ∈ A ∨ y ∈ l := by
    intro l
    induction l with
    | nil => intro A h; exact .inl h
    | cons x l ih =>
      intro A h
      rcases ih _ h with h | h
      · rcases insR_mem h with h | h
        · exact .inr (by simp [h])
        · exact .inl h
      · exact .inr (List.mem_cons_of_mem _ h)
  intro l h
  rcases this l [] h with h | h
  · simp at h
  · exact h

/-- A slice's part, sorted. -/
def sortPart (lt : Int × Int → Int × Int → Bool) (ws : List (Int × Int)) (a b : Nat) : List (Int × Int) := ws.take a ++ isort lt ((ws.drop a).take (b - a)) ++ ws.drop b

theorem r_insertion_W (ws : List (Int × Int)) (a b : Nat) (hab : a ≤ b) (hb : b ≤ ws.length) (hl : ws.length ≤ 1000000) (f : Nat) (c : Int × Int → Int × Int → Int)
    (hc : ∀ x y, CSpec Try.prog f [dW x, dW y] (.int .i64 (c x y))) : RSpec Try.prog 81 [.own 0 0 ws.length, .d (.int .i64 a), .d (.int .i64 b), .func (f, 0) []] [.dat false 2 (ws.map dW)] (.tuple [])
      [.dat false 2 ((sortPart (fun x y => decide (c x y < 0)) ws a b).map dW)] := by
  refine RSpec.of_awp envOf_ok hmix Try.func81 rfl (fun args w => Try.call81 args w) (by simp [Try.f81]) ?_
  simp only [Try.f81]
  simp (maxSteps := 2000000) -implicitDefEqProofs only [zz, zE, evop, ev, ofVal, tget, tput, ok, V.isUndef, intBin, guardOf, initT, Ch.on, calleeOf, withArgs, told, xport, xports, tids, tidss, hget, hput, Blk.ice, freeze, V.cells, D.cells, V.isAgg, V.one, V.clo, clos, V.toD, loadD, structAt, eqCells, D.scalarEq, sliceOf, partsD, partsV, bound, isPtr, Blk.width, elems, lenOf, splice, D.over, resOf, resV, resVs, ↓reduceIte, reduceCtorEq, ↓reduceDIte, Nat.reduceLT, Nat.reduceEqDiff, Nat.reduceAdd, Nat.reduceSub, Nat.reduceMul, Nat.reduceLeDiff, Nat.reduceBEq, Nat.reduceBNe, Int.reduceNeg, Int.reduceAdd, Int.reduceSub, Int.reduceToNat, nilTest, shiftH, Blk.ren, V.ren, renL, initV, frameH, putL, frρ, dI, dW]
  have hw0 : IntKind.i64.wrap ((a : Int) + 1) = ((a + 1 : Nat) : Int) := by rw [wrap_in (by omega)]; omega
  let lt : Int × Int → Int × Int → Bool := fun x y => decide (c x y < 0)
  rcases Nat.eq_or_lt_of_le hab with hab' | hab'
  · subst hab'
    have e0 : sortPart (fun x y => decide (c x y < 0)) ws a a = ws := by simp [sortPart, isort]
    refine wloop_count 0 (fun i => [(8, .d (.int .i64 ((a + 1 : Nat) : Int))), (0, .own 0 0 ws.length), (1, .d (.int .i64 a)), (2, .d (.int .i64 a)), (3, .func (f, 0) [])]) (fun i => [.dat false 2 (ws.map dW)]) (fun i => True) trivial (Weak.sub (by simp [tget, hw0])) (fun i hi _ => by omega) (fun _ => ?_)
    have h' : ¬ (((a + 1 : Nat) : Int) < (a : Int)) := by omega
    simp (maxSteps := 2000000) -implicitDefEqProofs only [zz, zE, evop, ev, ofVal, tget, tput, ok, V.isUndef, intBin, guardOf, initT, Ch.on, calleeOf, withArgs, told, xport, xports, tids, tidss, hget, hput, Blk.ice, freeze, V.cells, D.cells, V.isAgg, V.one, V.clo, clos, V.toD, loadD, structAt, eqCells, D.scalarEq, sliceOf, partsD, partsV, bound, isPtr, Blk.width, elems, lenOf, splice, D.over, resOf, resV, resVs, ↓reduceIte, reduceCtorEq, ↓reduceDIte, Nat.reduceLT, Nat.reduceEqDiff, Nat.reduceAdd, Nat.reduceSub, Nat.reduceMul, Nat.reduceLeDiff, Nat.reduceBEq, Nat.reduceBNe, Int.reduceNeg, Int.reduceAdd, Int.reduceSub, Int.reduceToNat, nilTest, shiftH, Blk.ren, V.ren, renL, initV, frameH, putL, frρ, dI, dW, h', e0]
    exact Weak.sub (by simp [tget])
  refine wloop_count (b - (a + 1)) (fun i => [(8, .d (.int .i64 ((a + 1 + i : Nat) : Int))), (0, .own 0 0 ws.length), (1, .d (.int .i64 a)), (2, .d (.int .i64 b)), (3, .func (f, 0) [])]) (fun i => [.dat false 2 ((sortPart lt ws a (a + 1 + i)).map dW)]) (fun i => True) trivial ?_ (fun i hi _ => ?_) (fun _ => ?_)
  · have e1 : sortPart lt ws a (a + 1 + 0) = ws := by
      have h1 : (ws.drop a).take (a + 1 + 0 - a) = [ws[a]] := by
        have : a + 1 + 0 - a = 1 := by omega
        rw [this, List.drop_eq_getElem_cons (by omega)]; rfl
      unfold sortPart
      rw [h1]
      have h2 : isort lt [ws[a]] = [ws[a]] := rfl
      rw [h2, List.append_assoc, List.singleton_append, ← List.drop_eq_getElem_cons (by omega), List.take_append_drop]
    rw [e1]
    exact Weak.sub (by simp [tget, hw0])
  · have h' : (((a + 1 + i : Nat) : Int) < (b : Int)) := by omega
    have hlt : a + 1 + i < ws.length := by omega
    obtain ⟨x, hx⟩ : ∃ x, x = ws[a + 1 + i] := ⟨_, rfl⟩
    obtain ⟨A, hA⟩ : ∃ A, A = isort lt ((ws.drop a).take (a + 1 + i - a)) := ⟨_, rfl⟩
    have hAl : A.length = 1 + i := by rw [hA, isort_length]; simp; omega
    have hPl : (ws.take a).length = a := by simp; omega
    have e1 : sortPart lt ws a (a + 1 + i) = insAt (ws.take a) A (ws.drop (a + 1 + i + 1)) x A.length := by
      unfold sortPart insAt
      rw [← hA, List.take_of_length_le (Nat.le_refl _), List.drop_of_length_le (Nat.le_refl _), List.drop_eq_getElem_cons hlt, hx]
      simp
    have e2 : ∀ k, insK lt x A = k → sortPart lt ws a (a + 1 + (i + 1)) = insAt (ws.take a) A (ws.drop (a + 1 + i + 1)) x k := fun k hk => by
      unfold sortPart insAt
      have h1 : (ws.drop a).take (a + 1 + (i + 1) - a) = (ws.drop a).take (a + 1 + i - a) ++ [x] := by
        have h2 : a + 1 + (i + 1) - a = (a + 1 + i - a) + 1 := by omega
        rw [h2, List.take_add_one, List.getElem?_drop]
        have h3 : a + (a + 1 + i - a) = a + 1 + i := by omega
        rw [h3, List.getElem?_eq_getElem hlt, hx]; rfl
      rw [h1, isort_snoc, ← hA, insR, hk]
      have h4 : a + 1 + (i + 1) = a + 1 + i + 1 := by omega
      rw [h4]
    have hIl : ∀ k, k ≤ A.length → (insAt (ws.take a) A (ws.drop (a + 1 + i + 1)) x k).length = ws.length := fun k hk => by
      rw [insAt_length hk, hPl, hAl]; simp; omega
    have hwi : IntKind.i64.wrap (((a + 1 + i : Nat) : Int) + 1) = ((a + 1 + (i + 1) : Nat) : Int) := by rw [wrap_in (by omega)]; omega
    simp (maxSteps := 2000000) -implicitDefEqProofs only [zz, zE, evop, ev, ofVal, tget, tput, ok, V.isUndef, intBin, guardOf, initT, Ch.on, calleeOf, withArgs, told, xport, xports, tids, tidss, hget, hput, Blk.ice, freeze, V.cells, D.cells, V.isAgg, V.one, V.clo, clos, V.toD, loadD, structAt, eqCells, D.scalarEq, sliceOf, partsD, partsV, bound, isPtr, Blk.width, elems, lenOf, splice, D.over, resOf, resV, resVs, ↓reduceIte, reduceCtorEq, ↓reduceDIte, Nat.reduceLT, Nat.reduceEqDiff, Nat.reduceAdd, Nat.reduceSub, Nat.reduceMul, Nat.reduceLeDiff, Nat.reduceBEq, Nat.reduceBNe, Int.reduceNeg, Int.reduceAdd, Int.reduceSub, Int.reduceToNat, nilTest, shiftH, Blk.ren, V.ren, renL, initV, frameH, putL, frρ, dI, dW, h', e1]
    refine wloop_ind (σ := Nat) (fun k => k) (fun k => [(9, .d (.int .i64 ((a + k : Nat) : Int))), (8, .d (.int .i64 ((a + 1 + i : Nat) : Int))), (0, .own 0 0 ws.length), (1, .d (.int .i64 a)), (2, .d (.int .i64 b)), (3, .func (f, 0) [])])
      (fun k => [.dat false 2 ((insAt (ws.take a) A (ws.drop (a + 1 + i + 1)) x k).map dW)]) (fun k => k ≤ A.length ∧ ∀ i, k ≤ i → ∀ y, A[i]? = some y → lt x y = true) A.length ⟨Nat.le_refl _, fun i hi y hy => by have := (List.getElem?_eq_some_iff.1 hy).1; omega⟩ (Weak.sub ?_) ?_
    · have : ((a + A.length : Nat) : Int) = ((a + 1 + i : Nat) : Int) := by omega
      simp [tget, this]
    rintro k ⟨hk, hgt⟩
    rcases Nat.eq_zero_or_pos k with hk0 | hk0
    · subst hk0
      have hf' : ¬ ((a : Int) < (a : Int)) := by omega
      have e3 := e2 0 (insK_eq (Nat.zero_le _) hgt (.inl rfl))
      simp (maxSteps := 2000000) -implicitDefEqProofs only [zz, zE, evop, ev, ofVal, tget, tput, ok, V.isUndef, intBin, guardOf, initT, Ch.on, calleeOf, withArgs, told, xport, xports, tids, tidss, hget, hput, Blk.ice, freeze, V.cells, D.cells, V.isAgg, V.one, V.clo, clos, V.toD, loadD, structAt, eqCells, D.scalarEq, sliceOf, partsD, partsV, bound, isPtr, Blk.width, elems, lenOf, splice, D.over, resOf, resV, resVs, ↓reduceIte, reduceCtorEq, ↓reduceDIte, Nat.reduceLT, Nat.reduceEqDiff, Nat.reduceAdd, Nat.reduceSub, Nat.reduceMul, Nat.reduceLeDiff, Nat.reduceBEq, Nat.reduceBNe, Int.reduceNeg, Int.reduceAdd, Int.reduceSub, Int.reduceToNat, nilTest, shiftH, Blk.ren, V.ren, renL, initV, frameH, putL, frρ, dI, dW, hf']
      refine wdraw_plan [⟨[], false, [19], [], false⟩, ⟨[], false, [18], [0], false⟩, ⟨[0, 1], true, [], [], false⟩, ⟨[0, 1, 2], true, [], [], false⟩, ⟨[0, 1, 2, 3], false, [23, 24, 25, 26, 27, 28, 29, 30, 31], [], false⟩, ⟨[0, 1, 2, 3], false, [22, 24, 27, 28, 29, 30, 31], [4], false⟩, ⟨[0, 1, 2, 3], false, [22, 23, 27, 28, 29, 30, 31], [4, 5], false⟩, ⟨[0, 1, 2, 3, 5, 6], false, [22, 27, 28, 29, 30, 31], [4], false⟩, ⟨[0, 1, 2, 3, 5, 6, 7], false, [22, 27, 28, 29, 30, 31], [4], false⟩, ⟨[0, 1, 2, 3], false, [22, 23, 24, 25, 26, 28, 29], [4, 5, 6, 7, 8], false⟩, ⟨[0, 1, 2, 3], false, [22, 23, 24, 25, 26, 27], [4, 5, 6, 7, 8, 9], false⟩, ⟨[0, 1, 2, 3, 10], false, [22, 23, 24, 25, 26, 27], [4, 5, 6, 7, 8, 9], false⟩, ⟨[0, 1, 2, 3, 9, 10, 11], false, [22, 23, 24, 25, 26], [4, 5, 6, 7, 8], false⟩, ⟨[0, 1, 2, 3, 9, 10, 11, 12], false, [22, 23, 24, 25, 26], [4, 5, 6, 7, 8], false⟩, ⟨[0, 1, 2, 3, 4, 5, 6, 7, 8, 9, 10, 11, 12, 13], false, [], [], false⟩, ⟨[0, 1, 2, 3, 4, 5, 6, 7, 8, 9, 10, 11, 12, 13, 14], false, [], [], false⟩, ⟨[0, 1, 2, 3, 4, 5, 6, 7, 8, 9, 10, 11, 12, 13, 14, 15], true, [], [], false⟩] (by decide) ?_
      simp (maxSteps := 2000000) -implicitDefEqProofs only [zz, zE, evop, ev, ofVal, tget, tput, ok, V.isUndef, intBin, guardOf, initT, Ch.on, calleeOf, withArgs, told, xport, xports, tids, tidss, hget, hput, Blk.ice, freeze, V.cells, D.cells, V.isAgg, V.one, V.clo, clos, V.toD, loadD, structAt, eqCells, D.scalarEq, sliceOf, partsD, partsV, bound, isPtr, Blk.width, elems, lenOf, splice, D.over, resOf, resV, resVs, ↓reduceIte, reduceCtorEq, ↓reduceDIte, Nat.reduceLT, Nat.reduceEqDiff, Nat.reduceAdd, Nat.reduceSub, Nat.reduceMul, Nat.reduceLeDiff, Nat.reduceBEq, Nat.reduceBNe, Int.reduceNeg, Int.reduceAdd, Int.reduceSub, Int.reduceToNat, nilTest, shiftH, Blk.ren, V.ren, renL, initV, frameH, putL, frρ, dI, dW, hf']
      rw [e3]
      exact Weak.trimsM 1 (by simp) rfl (by simp [tget, V.lower, lowerL]; rw [wrap_in (by omega)]; omega) (by simp [Blk.lower])
    · obtain ⟨k, rfl⟩ : ∃ k', k = k' + 1 := ⟨k - 1, by omega⟩
      have hgy : A[k]? = some A[k] := List.getElem?_eq_getElem (by omega)
      obtain ⟨y, hy⟩ : ∃ y, y = A[k] := ⟨_, rfl⟩
      rw [← hy] at hgy
      have hg1 : (insAt (ws.take a) A (ws.drop (a + 1 + i + 1)) x (k + 1))[a + (k + 1)]? = some x := by
        rw [insAt_get hk, hPl, if_neg (by omega), if_neg (by omega), if_pos rfl]
      have hg0 : (insAt (ws.take a) A (ws.drop (a + 1 + i + 1)) x (k + 1))[a + k]? = some y := by
        rw [insAt_get hk, hPl, if_neg (by omega), if_pos (by omega)]
        have : a + k - a = k := by omega
        rw [this]; exact hgy
      have hg2 : ((insAt (ws.take a) A (ws.drop (a + 1 + i + 1)) x (k + 1)).set (a + (k + 1)) y)[a + k]? = some y := by
        rw [List.getElem?_set_ne (by omega)]; exact hg0
      have hsw : ((insAt (ws.take a) A (ws.drop (a + 1 + i + 1)) x (k + 1)).set (a + (k + 1)) y).set (a + k) x = insAt (ws.take a) A (ws.drop (a + 1 + i + 1)) x k := by
        have := insAt_swap (P := ws.take a) (R := ws.drop (a + 1 + i + 1)) (x := x) hk hgy
        rw [hPl] at this; exact this
      have hf' : ((a : Int) < ((a + (k + 1) : Nat) : Int)) := by omega
      have hw1 : IntKind.i64.wrap (((a + (k + 1) : Nat) : Int) - 1) = ((a + k : Nat) : Int) := by rw [wrap_in (by omega)]; omega
      simp (maxSteps := 2000000) -implicitDefEqProofs only [zz, zE, evop, ev, ofVal, tget, tput, ok, V.isUndef, intBin, guardOf, initT, Ch.on, calleeOf, withArgs, told, xport, xports, tids, tidss, hget, hput, Blk.ice, freeze, V.cells, D.cells, V.isAgg, V.one, V.clo, clos, V.toD, loadD, structAt, eqCells, D.scalarEq, sliceOf, partsD, partsV, bound, isPtr, Blk.width, elems, lenOf, splice, D.over, resOf, resV, resVs, ↓reduceIte, reduceCtorEq, ↓reduceDIte, Nat.reduceLT, Nat.reduceEqDiff, Nat.reduceAdd, Nat.reduceSub, Nat.reduceMul, Nat.reduceLeDiff, Nat.reduceBEq, Nat.reduceBNe, Int.reduceNeg, Int.reduceAdd, Int.reduceSub, Int.reduceToNat, nilTest, shiftH, Blk.ren, V.ren, renL, initV, frameH, putL, frρ, dI, dW, hf']
      refine wdraw_plan [⟨[], false, [19], [], false⟩, ⟨[], false, [18], [0], false⟩, ⟨[0, 1], true, [], [], false⟩, ⟨[0, 1, 2], true, [], [], false⟩, ⟨[0, 1, 2, 3], false, [23, 24, 25, 26, 27, 28, 29, 30, 31], [], false⟩, ⟨[0, 1, 2, 3], false, [22, 24, 27, 28, 29, 30, 31], [4], false⟩, ⟨[0, 1, 2, 3], false, [22, 23, 27, 28, 29, 30, 31], [4, 5], false⟩, ⟨[0, 1, 2, 3, 5, 6], false, [22, 27, 28, 29, 30, 31], [4], false⟩, ⟨[0, 1, 2, 3, 5, 6, 7], false, [22, 27, 28, 29, 30, 31], [4], false⟩, ⟨[0, 1, 2, 3], false, [22, 23, 24, 25, 26, 28, 29], [4, 5, 6, 7, 8], false⟩, ⟨[0, 1, 2, 3], false, [22, 23, 24, 25, 26, 27], [4, 5, 6, 7, 8, 9], false⟩, ⟨[0, 1, 2, 3, 10], false, [22, 23, 24, 25, 26, 27], [4, 5, 6, 7, 8, 9], false⟩, ⟨[0, 1, 2, 3, 9, 10, 11], false, [22, 23, 24, 25, 26], [4, 5, 6, 7, 8], false⟩, ⟨[0, 1, 2, 3, 9, 10, 11, 12], false, [22, 23, 24, 25, 26], [4, 5, 6, 7, 8], false⟩, ⟨[0, 1, 2, 3, 4, 5, 6, 7, 8, 9, 10, 11, 12, 13], false, [], [], false⟩, ⟨[0, 1, 2, 3, 4, 5, 6, 7, 8, 9, 10, 11, 12, 13, 14], false, [], [], false⟩, ⟨[0, 1, 2, 3, 4, 5, 6, 7, 8, 9, 10, 11, 12, 13, 14, 15], true, [], [], false⟩] (by decide) ?_
      simp (maxSteps := 2000000) -implicitDefEqProofs only [zz, zE, evop, ev, ofVal, tget, tput, ok, V.isUndef, intBin, guardOf, initT, Ch.on, calleeOf, withArgs, told, xport, xports, tids, tidss, hget, hput, Blk.ice, freeze, V.cells, D.cells, V.isAgg, V.one, V.clo, clos, V.toD, loadD, structAt, eqCells, D.scalarEq, sliceOf, partsD, partsV, bound, isPtr, Blk.width, elems, lenOf, splice, D.over, resOf, resV, resVs, ↓reduceIte, reduceCtorEq, ↓reduceDIte, Nat.reduceLT, Nat.reduceEqDiff, Nat.reduceAdd, Nat.reduceSub, Nat.reduceMul, Nat.reduceLeDiff, Nat.reduceBEq, Nat.reduceBNe, Int.reduceNeg, Int.reduceAdd, Int.reduceSub, Int.reduceToNat, nilTest, shiftH, Blk.ren, V.ren, renL, initV, frameH, putL, frρ, dI, dW, hf', hw1, List.getElem?_map, hg1, hg0, Option.map_some, Int.natCast_nonneg]
      refine ⟨by omega, by omega, ?_⟩
      refine dcall_flat (ds := [dW x, dW y]) (by simp only [xports, xport, dW]) (hc x y) rfl ?_
      simp (maxSteps := 2000000) -implicitDefEqProofs only [zz, zE, evop, ev, ofVal, tget, tput, ok, V.isUndef, intBin, guardOf, initT, Ch.on, calleeOf, withArgs, told, xport, xports, tids, tidss, hget, hput, Blk.ice, freeze, V.cells, D.cells, V.isAgg, V.one, V.clo, clos, V.toD, loadD, structAt, eqCells, D.scalarEq, sliceOf, partsD, partsV, bound, isPtr, Blk.width, elems, lenOf, splice, D.over, resOf, resV, resVs, ↓reduceIte, reduceCtorEq, ↓reduceDIte, Nat.reduceLT, Nat.reduceEqDiff, Nat.reduceAdd, Nat.reduceSub, Nat.reduceMul, Nat.reduceLeDiff, Nat.reduceBEq, Nat.reduceBNe, Int.reduceNeg, Int.reduceAdd, Int.reduceSub, Int.reduceToNat, nilTest, shiftH, Blk.ren, V.ren, renL, initV, frameH, putL, frρ, dI, dW]
      split
      · rename_i hlt'
        refine wdraw_plan [⟨[], false, [38, 39, 40, 41, 42, 43, 44, 45, 46, 47, 48, 49, 50], [], false⟩, ⟨[], false, [37, 39, 40, 41, 42, 43, 44, 45, 46, 47, 48, 49, 50], [0], false⟩, ⟨[], false, [37, 38, 39, 40, 41, 42, 43, 44, 45, 46, 47, 48, 49, 50, 51, 52], [0, 1], true⟩, ⟨[], false, [37, 38, 39, 40, 41, 42, 43, 44, 45, 46, 47, 48, 49, 50, 51, 52], [0, 1, 2], true⟩, ⟨[3], false, [37, 38, 39, 41, 42, 43, 44, 45, 46, 47, 48, 49, 50, 51, 52], [0, 1, 2], true⟩, ⟨[], false, [37, 38, 39, 40, 41, 43, 44, 47, 48, 49, 50], [0, 1, 2, 3, 4], false⟩, ⟨[], false, [37, 38, 39, 40, 41, 42, 47, 48, 49, 50], [0, 1, 2, 3, 4, 5], false⟩, ⟨[6], false, [37, 38, 39, 40, 41, 42, 47, 48, 49, 50], [0, 1, 2, 3, 4, 5], false⟩, ⟨[5, 6, 7], false, [37, 38, 39, 40, 41, 47, 48, 49, 50], [0, 1, 2, 3, 4], false⟩, ⟨[5, 6, 7, 8], false, [37, 38, 39, 40, 41, 47, 48, 49, 50], [0, 1, 2, 3, 4], false⟩, ⟨[], false, [37, 38, 39, 40, 41, 42, 43, 44, 45, 46, 48], [0, 1, 2, 3, 4, 5, 6, 7, 8, 9], false⟩, ⟨[], false, [37, 38, 39, 40, 41, 42, 43, 44, 45, 46, 47], [0, 1, 2, 3, 4, 5, 6, 7, 8, 9, 10], false⟩, ⟨[10, 11], false, [37, 38, 39, 40, 41, 42, 43, 44, 45, 46], [0, 1, 2, 3, 4, 5, 6, 7, 8, 9], false⟩, ⟨[10, 11, 12], false, [37, 38, 39, 40, 41, 42, 43, 44, 45, 46], [0, 1, 2, 3, 4, 5, 6, 7, 8, 9], false⟩, ⟨[0, 1, 5, 6, 7, 8, 9, 10, 11, 12, 13], false, [39, 40, 41], [2, 3, 4], false⟩, ⟨[0, 1, 5, 6, 7, 8, 9, 10, 11, 12, 13, 14], true, [39, 40, 41], [], false⟩, ⟨[0, 1, 2, 3, 4, 5, 6, 7, 8, 9, 10, 11, 12, 13, 14, 15], true, [], [], false⟩, ⟨[0, 1, 2, 3, 4, 5, 6, 7, 8, 9, 10, 11, 12, 13, 14, 15, 16], true, [], [], false⟩] (by decide) ?_
        simp (maxSteps := 2000000) -implicitDefEqProofs only [zz, zE, evop, ev, ofVal, tget, tput, ok, V.isUndef, intBin, guardOf, initT, Ch.on, calleeOf, withArgs, told, xport, xports, tids, tidss, hget, hput, Blk.ice, freeze, V.cells, D.cells, V.isAgg, V.one, V.clo, clos, V.toD, loadD, structAt, eqCells, D.scalarEq, sliceOf, partsD, partsV, bound, isPtr, Blk.width, elems, lenOf, splice, D.over, resOf, resV, resVs, ↓reduceIte, reduceCtorEq, ↓reduceDIte, Nat.reduceLT, Nat.reduceEqDiff, Nat.reduceAdd, Nat.reduceSub, Nat.reduceMul, Nat.reduceLeDiff, Nat.reduceBEq, Nat.reduceBNe, Int.reduceNeg, Int.reduceAdd, Int.reduceSub, Int.reduceToNat, nilTest, shiftH, Blk.ren, V.ren, renL, initV, frameH, putL, frρ, dI, dW, hw1, List.getElem?_map, hg1, hg0, hg2, Option.map_some, Int.natCast_nonneg, set_dW, hsw]
        refine ⟨by omega, by omega, by omega, by omega, k, ⟨by omega, fun i hi z hz => ?_⟩, by omega, Weak.trimsM 1 (by simp) rfl (by simp [tget, hw1, V.lower, lowerL]) (by simp [Blk.lower])⟩
        by_cases e : i = k
        · subst e; rw [hgy] at hz; cases hz; simpa [lt] using hlt'
        · exact hgt i (by omega) z hz
      · rename_i hlt'
        have e3 := e2 (k + 1) (insK_eq hk hgt (.inr ⟨y, by simpa using hgy, by simpa [lt] using hlt'⟩))
        rw [e3]
        exact Weak.trimsM 1 (by simp) rfl (by simp [tget, V.lower, lowerL]; rw [wrap_in (by omega)]; omega) (by simp [Blk.lower])
  · have h' : ¬ (((a + 1 + (b - (a + 1)) : Nat) : Int) < (b : Int)) := by omega
    have e1 : a + 1 + (b - (a + 1)) = b := by omega
    have h'' : ¬ ((b : Int) < (b : Int)) := by omega
    simp (maxSteps := 2000000) -implicitDefEqProofs only [zz, zE, evop, ev, ofVal, tget, tput, ok, V.isUndef, intBin, guardOf, initT, Ch.on, calleeOf, withArgs, told, xport, xports, tids, tidss, hget, hput, Blk.ice, freeze, V.cells, D.cells, V.isAgg, V.one, V.clo, clos, V.toD, loadD, structAt, eqCells, D.scalarEq, sliceOf, partsD, partsV, bound, isPtr, Blk.width, elems, lenOf, splice, D.over, resOf, resV, resVs, ↓reduceIte, reduceCtorEq, ↓reduceDIte, Nat.reduceLT, Nat.reduceEqDiff, Nat.reduceAdd, Nat.reduceSub, Nat.reduceMul, Nat.reduceLeDiff, Nat.reduceBEq, Nat.reduceBNe, Int.reduceNeg, Int.reduceAdd, Int.reduceSub, Int.reduceToNat, nilTest, shiftH, Blk.ren, V.ren, renL, initV, frameH, putL, frρ, dI, dW, h'', e1]
    refine Weak.sub (T := [(0, V.tuple [])]) (H := [.dat false 2 ((sortPart lt ws a b).map dW)]) ?_
    simp [tget]

end Go.Proofs.Ythpapgbpmkgfeaa.AM

/- Sorting: numbers; small slices. -/
set_option linter.all false
set_option maxRecDepth 100000
set_option maxHeartbeats 4000000
namespace Go.Proofs.Ythpapgbpmkgfeaa.AM
open Go Go.RowKit

theorem xports_two {H : Heap} (cap : List D) (k : Nat) (a b : D) (h : cap.length ≤ 8) : xports H 12 (List.take k (List.map V.d cap) ++ (V.d a :: V.d b :: List.drop k (List.map V.d cap))) = some (cap.take k ++ (a :: b :: cap.drop k)) := by
  have := xports_ds (H := H) (cap.take k ++ (a :: b :: cap.drop k)) 12 (by simp; omega)
  rw [← this]
  congr 1
  simp [List.map_take, List.map_drop]

theorem set_dI (l : List Int) (i : Nat) (a : Int) : (l.map dI).set i (.int .i64 a) = (l.set i a).map dI := by
  rw [List.map_set]; rfl

/-- A slice's part, sorted: numbers. -/
def sortPartI (lt : Int → Int → Bool) (ws : List Int) (a b : Nat) : List Int := ws.take a ++ isort lt ((ws.drop a).take (b - a)) ++ ws.drop b

theorem r_insertion_int (ws : List Int) (a b : Nat) (hab : a ≤ b) (hb : b ≤ ws.length) (hl : ws.length ≤ 1000000) (f : Nat × Nat) (cap : List D) (hcap : cap.length ≤ 8) (c : Int → Int → Int)
    (hc : ∀ x ∈ ws, ∀ y ∈ ws, CSpec Try.prog f.1 (cap.take f.2 ++ (dI x :: dI y :: cap.drop f.2)) (.int .i64 (c x y))) : RSpec Try.prog 84 [.own 0 0 ws.length, .d (.int .i64 a), .d (.int .i64 b), .func f (cap.map V.d)] [.dat false 1 (ws.map dI)] (.tuple [])
      [.dat false 1 ((sortPartI (fun x y => decide (c x y < 0)) ws a b).map dI)] := by
  refine RSpec.of_awp envOf_ok hmix Try.func84 rfl (fun args w => Try.call84 args w) (by simp [Try.f84]) ?_
  simp only [Try.f84]
  simp (maxSteps := 2000000) -implicitDefEqProofs only [zz, zE, evop, ev, ofVal, tget, tput, ok, V.isUndef, intBin, guardOf, initT, Ch.on, calleeOf, withArgs, told, xport, xports, tids, tidss, hget, hput, Blk.ice, freeze, V.cells, D.cells, V.isAgg, V.one, V.clo, clos, V.toD, loadD, structAt, eqCells, D.scalarEq, sliceOf, partsD, partsV, bound, isPtr, Blk.width, elems, lenOf, splice, D.over, resOf, resV, resVs, ↓reduceIte, reduceCtorEq, ↓reduceDIte, Nat.reduceLT, Nat.reduceEqDiff, Nat.reduceAdd, Nat.reduceSub, Nat.reduceMul, Nat.reduceLeDiff, Nat.reduceBEq, Nat.reduceBNe, Int.reduceNeg, Int.reduceAdd, Int.reduceSub, Int.reduceToNat, nilTest, shiftH, Blk.ren, V.ren, renL, initV, frameH, putL, frρ, dI, dW]
  have hw0 : IntKind.i64.wrap ((a : Int) + 1) = ((a + 1 : Nat) : Int) := by rw [wrap_in (by omega)]; omega
  let lt : Int → Int → Bool := fun x y => decide (c x y < 0)
  rcases Nat.eq_or_lt_of_le hab with hab' | hab'
  · subst hab'
    have e0 : sortPartI (fun x y => decide (c x y < 0)) ws a a = ws := by simp [sortPartI, isort]
    refine wloop_count 0 (fun i => [(8, .d (.int .i64 ((a + 1 : Nat) : Int))), (0, .own 0 0 ws.length), (1, .d (.int .i64 a)), (2, .d (.int .i64 a)), (3, .func f (cap.map V.d))]) (fun i => [.dat false 1 (ws.map dI)]) (fun i => True) trivial (Weak.sub (by simp [tget, hw0])) (fun i hi _ => by omega) (fun _ => ?_)
    have h' : ¬ (((a + 1 : Nat) : Int) < (a : Int)) := by omega
    simp (maxSteps := 2000000) -implicitDefEqProofs only [zz, zE, evop, ev, ofVal, tget, tput, ok, V.isUndef, intBin, guardOf, initT, Ch.on, calleeOf, withArgs, told, xport, xports, tids, tidss, hget, hput, Blk.ice, freeze, V.cells, D.cells, V.isAgg, V.one, V.clo, clos, V.toD, loadD, structAt, eqCells, D.scalarEq, sliceOf, partsD, partsV, bound, isPtr, Blk.width, elems, lenOf, splice, D.over, resOf, resV, resVs, ↓reduceIte, reduceCtorEq, ↓reduceDIte, Nat.reduceLT, Nat.reduceEqDiff, Nat.reduceAdd, Nat.reduceSub, Nat.reduceMul, Nat.reduceLeDiff, Nat.reduceBEq, Nat.reduceBNe, Int.reduceNeg, Int.reduceAdd, Int.reduceSub, Int.reduceToNat, nilTest, shiftH, Blk.ren, V.ren, renL, initV, frameH, putL, frρ, dI, dW, h', e0]
    exact Weak.sub (by simp [tget])
  refine wloop_count (b - (a + 1)) (fun i => [(8, .d (.int .i64 ((a + 1 + i : Nat) : Int))), (0, .own 0 0 ws.length), (1, .d (.int .i64 a)), (2, .d (.int .i64 b)), (3, .func f (cap.map V.d))]) (fun i => [.dat false 1 ((sortPartI lt ws a (a + 1 + i)).map dI)]) (fun i => True) trivial ?_ (fun i hi _ => ?_) (fun _ => ?_)
  · have e1 : sortPartI lt ws a (a + 1 + 0) = ws := by
      have h1 : (ws.drop a).take (a + 1 + 0 - a) = [ws[a]] := by
        have : a + 1 + 0 - a = 1 := by omega
        rw [this, List.drop_eq_getElem_cons (by omega)]; rfl
      unfold sortPartI
      rw [h1]
      have h2 : isort lt [ws[a]] = [ws[a]] := rfl
      rw [h2, List.append_assoc, List.singleton_append, ← List.drop_eq_getElem_cons (by omega), List.take_append_drop]
    rw [e1]
    exact Weak.sub (by simp [tget, hw0])
  · have h' : (((a + 1 + i : Nat) : Int) < (b : Int)) := by omega
    have hlt : a + 1 + i < ws.length := by omega
    obtain ⟨x, hx⟩ : ∃ x, x = ws[a + 1 + i] := ⟨_, rfl⟩
    obtain ⟨A, hA⟩ : ∃ A, A = isort lt ((ws.drop a).take (a + 1 + i - a)) := ⟨_, rfl⟩
    have hAl : A.length = 1 + i := by rw [hA, isort_length]; simp; omega
    have hPl : (ws.take a).length = a := by simp; omega
    have e1 : sortPartI lt ws a (a + 1 + i) = insAt (ws.take a) A (ws.drop (a + 1 + i + 1)) x A.length := by
      unfold sortPartI insAt
      rw [← hA, List.take_of_length_le (Nat.le_refl _), List.drop_of_length_le (Nat.le_refl _), List.drop_eq_getElem_cons hlt, hx]
      simp
    have e2 : ∀ k, insK lt x A = k → sortPartI lt ws a (a + 1 + (i + 1)) = insAt (ws.take a) A (ws.drop (a + 1 + i + 1)) x k := fun k hk => by
      unfold sortPartI insAt
      have h1 : (ws.drop a).take (a + 1 + (i + 1) - a) = (ws.drop a).take (a + 1 + i - a) ++ [x] := by
        have h2 : a + 1 + (i + 1) - a = (a + 1 + i - a) + 1 := by omega
        rw [h2, List.take_add_one, List.getElem?_drop]
        have h3 : a + (a + 1 + i - a) = a + 1 + i := by omega
        rw [h3, List.getElem?_eq_getElem hlt, hx]; rfl
      rw [h1, isort_snoc, ← hA, insR, hk]
      have h4 : a + 1 + (i + 1) = a + 1 + i + 1 := by omega
      rw [h4]
    have hIl : ∀ k, k ≤ A.length → (insAt (ws.take a) A (ws.drop (a + 1 + i + 1)) x k).length = ws.length := fun k hk => by
      rw [insAt_length hk, hPl, hAl]; simp; omega
    have hwi : IntKind.i64.wrap (((a + 1 + i : Nat) : Int) + 1) = ((a + 1 + (i + 1) : Nat) : Int) := by rw [wrap_in (by omega)]; omega
    simp (maxSteps := 2000000) -implicitDefEqProofs only [zz, zE, evop, ev, ofVal, tget, tput, ok, V.isUndef, intBin, guardOf, initT, Ch.on, calleeOf, withArgs, told, xport, xports, tids, tidss, hget, hput, Blk.ice, freeze, V.cells, D.cells, V.isAgg, V.one, V.clo, clos, V.toD, loadD, structAt, eqCells, D.scalarEq, sliceOf, partsD, partsV, bound, isPtr, Blk.width, elems, lenOf, splice, D.over, resOf, resV, resVs, ↓reduceIte, reduceCtorEq, ↓reduceDIte, Nat.reduceLT, Nat.reduceEqDiff, Nat.reduceAdd, Nat.reduceSub, Nat.reduceMul, Nat.reduceLeDiff, Nat.reduceBEq, Nat.reduceBNe, Int.reduceNeg, Int.reduceAdd, Int.reduceSub, Int.reduceToNat, nilTest, shiftH, Blk.ren, V.ren, renL, initV, frameH, putL, frρ, dI, dW, h', e1]
    refine wloop_ind (σ := Nat) (fun k => k) (fun k => [(9, .d (.int .i64 ((a + k : Nat) : Int))), (8, .d (.int .i64 ((a + 1 + i : Nat) : Int))), (0, .own 0 0 ws.length), (1, .d (.int .i64 a)), (2, .d (.int .i64 b)), (3, .func f (cap.map V.d))])
      (fun k => [.dat false 1 ((insAt (ws.take a) A (ws.drop (a + 1 + i + 1)) x k).map dI)]) (fun k => k ≤ A.length ∧ ∀ i, k ≤ i → ∀ y, A[i]? = some y → lt x y = true) A.length ⟨Nat.le_refl _, fun i hi y hy => by have := (List.getElem?_eq_some_iff.1 hy).1; omega⟩ (Weak.sub ?_) ?_
    · have : ((a + A.length : Nat) : Int) = ((a + 1 + i : Nat) : Int) := by omega
      simp [tget, this]
    rintro k ⟨hk, hgt⟩
    rcases Nat.eq_zero_or_pos k with hk0 | hk0
    · subst hk0
      have hf' : ¬ ((a : Int) < (a : Int)) := by omega
      have e3 := e2 0 (insK_eq (Nat.zero_le _) hgt (.inl rfl))
      simp (maxSteps := 2000000) -implicitDefEqProofs only [zz, zE, evop, ev, ofVal, tget, tput, ok, V.isUndef, intBin, guardOf, initT, Ch.on, calleeOf, withArgs, told, xport, xports, tids, tidss, hget, hput, Blk.ice, freeze, V.cells, D.cells, V.isAgg, V.one, V.clo, clos, V.toD, loadD, structAt, eqCells, D.scalarEq, sliceOf, partsD, partsV, bound, isPtr, Blk.width, elems, lenOf, splice, D.over, resOf, resV, resVs, ↓reduceIte, reduceCtorEq, ↓reduceDIte, Nat.reduceLT, Nat.reduceEqDiff, Nat.reduceAdd, Nat.reduceSub, Nat.reduceMul, Nat.reduceLeDiff, Nat.reduceBEq, Nat.reduceBNe, Int.reduceNeg, Int.reduceAdd, Int.reduceSub, Int.reduceToNat, nilTest, shiftH, Blk.ren, V.ren, renL, initV, frameH, putL, frρ, dI, dW, hf']
      refine wdraw_plan [⟨[], false, [19], [], false⟩, ⟨[], false, [18], [0], false⟩, ⟨[0, 1], true, [], [], false⟩, ⟨[0, 1, 2], true, [], [], false⟩, ⟨[0, 1, 2, 3], false, [23, 24, 25, 26, 27, 28, 29, 30, 31], [], false⟩, ⟨[0, 1, 2, 3], false, [22, 24, 27, 28, 29, 30, 31], [4], false⟩, ⟨[0, 1, 2, 3], false, [22, 23, 27, 28, 29, 30, 31], [4, 5], false⟩, ⟨[0, 1, 2, 3, 5, 6], false, [22, 27, 28, 29, 30, 31], [4], false⟩, ⟨[0, 1, 2, 3, 5, 6, 7], false, [22, 27, 28, 29, 30, 31], [4], false⟩, ⟨[0, 1, 2, 3], false, [22, 23, 24, 25, 26, 28, 29], [4, 5, 6, 7, 8], false⟩, ⟨[0, 1, 2, 3], false, [22, 23, 24, 25, 26, 27], [4, 5, 6, 7, 8, 9], false⟩, ⟨[0, 1, 2, 3, 10], false, [22, 23, 24, 25, 26, 27], [4, 5, 6, 7, 8, 9], false⟩, ⟨[0, 1, 2, 3, 9, 10, 11], false, [22, 23, 24, 25, 26], [4, 5, 6, 7, 8], false⟩, ⟨[0, 1, 2, 3, 9, 10, 11, 12], false, [22, 23, 24, 25, 26], [4, 5, 6, 7, 8], false⟩, ⟨[0, 1, 2, 3, 4, 5, 6, 7, 8, 9, 10, 11, 12, 13], false, [], [], false⟩, ⟨[0, 1, 2, 3, 4, 5, 6, 7, 8, 9, 10, 11, 12, 13, 14], false, [], [], false⟩, ⟨[0, 1, 2, 3, 4, 5, 6, 7, 8, 9, 10, 11, 12, 13, 14, 15], true, [], [], false⟩] (by decide) ?_
      simp (maxSteps := 2000000) -implicitDefEqProofs only [zz, zE, evop, ev, ofVal, tget, tput, ok, V.isUndef, intBin, guardOf, initT, Ch.on, calleeOf, withArgs, told, xport, xports, tids, tidss, hget, hput, Blk.ice, freeze, V.cells, D.cells, V.isAgg, V.one, V.clo, clos, V.toD, loadD, structAt, eqCells, D.scalarEq, sliceOf, partsD, partsV, bound, isPtr, Blk.width, elems, lenOf, splice, D.over, resOf, resV, resVs, ↓reduceIte, reduceCtorEq, ↓reduceDIte, Nat.reduceLT, Nat.reduceEqDiff, Nat.reduceAdd, Nat.reduceSub, Nat.reduceMul, Nat.reduceLeDiff, Nat.reduceBEq, Nat.reduceBNe, Int.reduceNeg, Int.reduceAdd, Int.reduceSub, Int.reduceToNat, nilTest, shiftH, Blk.ren, V.ren, renL, initV, frameH, putL, frρ, dI, dW, hf']
      rw [e3]
      exact Weak.trimsM 1 (by simp) rfl (by simp [tget, V.lower, lowerL_ds]; rw [wrap_in (by omega)]; omega) (by simp [Blk.lower])
    · obtain ⟨k, rfl⟩ : ∃ k', k = k' + 1 := ⟨k - 1, by omega⟩
      have hgy : A[k]? = some A[k] := List.getElem?_eq_getElem (by omega)
      obtain ⟨y, hy⟩ : ∃ y, y = A[k] := ⟨_, rfl⟩
      rw [← hy] at hgy
      have hxm : x ∈ ws := by rw [hx]; exact List.getElem_mem _
      have hym : y ∈ ws := by
        have h1 : y ∈ A := List.mem_of_getElem? hgy
        rw [hA] at h1
        exact List.mem_of_mem_drop (List.mem_of_mem_take (isort_mem h1))
      have hg1 : (insAt (ws.take a) A (ws.drop (a + 1 + i + 1)) x (k + 1))[a + (k + 1)]? = some x := by
        rw [insAt_get hk, hPl, if_neg (by omega), if_neg (by omega), if_pos rfl]
      have hg0 : (insAt (ws.take a) A (ws.drop (a + 1 + i + 1)) x (k + 1))[a + k]? = some y := by
        rw [insAt_get hk, hPl, if_neg (by omega), if_pos (by omega)]
        have : a + k - a = k := by omega
        rw [this]; exact hgy
      have hg2 : ((insAt (ws.take a) A (ws.drop (a + 1 + i + 1)) x (k + 1)).set (a + (k + 1)) y)[a + k]? = some y := by
        rw [List.getElem?_set_ne (by omega)]; exact hg0
      have hsw : ((insAt (ws.take a) A (ws.drop (a + 1 + i + 1)) x (k + 1)).set (a + (k + 1)) y).set (a + k) x = insAt (ws.take a) A (ws.drop (a + 1 + i + 1)) x k := by
        have := insAt_swap (P := ws.take a) (R := ws.drop (a + 1 + i + 1)) (x := x) hk hgy
        rw [hPl] at this; exact this
      have hf' : ((a : Int) < ((a + (k + 1) : Nat) : Int)) := by omega
      have hw1 : IntKind.i64.wrap (((a + (k + 1) : Nat) : Int) - 1) = ((a + k : Nat) : Int) := by rw [wrap_in (by omega)]; omega
      simp (maxSteps := 2000000) -implicitDefEqProofs only [zz, zE, evop, ev, ofVal, tget, tput, ok, V.isUndef, intBin, guardOf, initT, Ch.on, calleeOf, withArgs, told, xport, xports, tids, tidss, hget, hput, Blk.ice, freeze, V.cells, D.cells, V.isAgg, V.one, V.clo, clos, V.toD, loadD, structAt, eqCells, D.scalarEq, sliceOf, partsD, partsV, bound, isPtr, Blk.width, elems, lenOf, splice, D.over, resOf, resV, resVs, ↓reduceIte, reduceCtorEq, ↓reduceDIte, Nat.reduceLT, Nat.reduceEqDiff, Nat.reduceAdd, Nat.reduceSub, Nat.reduceMul, Nat.reduceLeDiff, Nat.reduceBEq, Nat.reduceBNe, Int.reduceNeg, Int.reduceAdd, Int.reduceSub, Int.reduceToNat, nilTest, shiftH, Blk.ren, V.ren, renL, initV, frameH, putL, frρ, dI, dW, hf']
      refine wdraw_plan [⟨[], false, [19], [], false⟩, ⟨[], false, [18], [0], false⟩, ⟨[0, 1], true, [], [], false⟩, ⟨[0, 1, 2], true, [], [], false⟩, ⟨[0, 1, 2, 3], false, [23, 24, 25, 26, 27, 28, 29, 30, 31], [], false⟩, ⟨[0, 1, 2, 3], false, [22, 24, 27, 28, 29, 30, 31], [4], false⟩, ⟨[0, 1, 2, 3], false, [22, 23, 27, 28, 29, 30, 31], [4, 5], false⟩, ⟨[0, 1, 2, 3, 5, 6], false, [22, 27, 28, 29, 30, 31], [4], false⟩, ⟨[0, 1, 2, 3, 5, 6, 7], false, [22, 27, 28, 29, 30, 31], [4], false⟩, ⟨[0, 1, 2, 3], false, [22, 23, 24, 25, 26, 28, 29], [4, 5, 6, 7, 8], false⟩, ⟨[0, 1, 2, 3], false, [22, 23, 24, 25, 26, 27], [4, 5, 6, 7, 8, 9], false⟩, ⟨[0, 1, 2, 3, 10], false, [22, 23, 24, 25, 26, 27], [4, 5, 6, 7, 8, 9], false⟩, ⟨[0, 1, 2, 3, 9, 10, 11], false, [22, 23, 24, 25, 26], [4, 5, 6, 7, 8], false⟩, ⟨[0, 1, 2, 3, 9, 10, 11, 12], false, [22, 23, 24, 25, 26], [4, 5, 6, 7, 8], false⟩, ⟨[0, 1, 2, 3, 4, 5, 6, 7, 8, 9, 10, 11, 12, 13], false, [], [], false⟩, ⟨[0, 1, 2, 3, 4, 5, 6, 7, 8, 9, 10, 11, 12, 13, 14], false, [], [], false⟩, ⟨[0, 1, 2, 3, 4, 5, 6, 7, 8, 9, 10, 11, 12, 13, 14, 15], true, [], [], false⟩] (by decide) ?_
      simp (maxSteps := 2000000) -implicitDefEqProofs only [zz, zE, evop, ev, ofVal, tget, tput, ok, V.isUndef, intBin, guardOf, initT, Ch.on, calleeOf, withArgs, told, xport, xports, tids, tidss, hget, hput, Blk.ice, freeze, V.cells, D.cells, V.isAgg, V.one, V.clo, clos, V.toD, loadD, structAt, eqCells, D.scalarEq, sliceOf, partsD, partsV, bound, isPtr, Blk.width, elems, lenOf, splice, D.over, resOf, resV, resVs, ↓reduceIte, reduceCtorEq, ↓reduceDIte, Nat.reduceLT, Nat.reduceEqDiff, Nat.reduceAdd, Nat.reduceSub, Nat.reduceMul, Nat.reduceLeDiff, Nat.reduceBEq, Nat.reduceBNe, Int.reduceNeg, Int.reduceAdd, Int.reduceSub, Int.reduceToNat, nilTest, shiftH, Blk.ren, V.ren, renL, initV, frameH, putL, frρ, dI, dW, hf', hw1, List.getElem?_map, hg1, hg0, Option.map_some, Int.natCast_nonneg]
      refine ⟨by omega, by omega, ?_⟩
      refine dcall_flat (ds := cap.take f.2 ++ (dI x :: dI y :: cap.drop f.2)) (xports_two cap f.2 _ _ hcap) (hc x hxm y hym) rfl ?_
      simp (maxSteps := 2000000) -implicitDefEqProofs only [zz, zE, evop, ev, ofVal, tget, tput, ok, V.isUndef, intBin, guardOf, initT, Ch.on, calleeOf, withArgs, told, xport, xports, tids, tidss, hget, hput, Blk.ice, freeze, V.cells, D.cells, V.isAgg, V.one, V.clo, clos, V.toD, loadD, structAt, eqCells, D.scalarEq, sliceOf, partsD, partsV, bound, isPtr, Blk.width, elems, lenOf, splice, D.over, resOf, resV, resVs, ↓reduceIte, reduceCtorEq, ↓reduceDIte, Nat.reduceLT, Nat.reduceEqDiff, Nat.reduceAdd, Nat.reduceSub, Nat.reduceMul, Nat.reduceLeDiff, Nat.reduceBEq, Nat.reduceBNe, Int.reduceNeg, Int.reduceAdd, Int.reduceSub, Int.reduceToNat, nilTest, shiftH, Blk.ren, V.ren, renL, initV, frameH, putL, frρ, dI, dW]
      split
      · rename_i hlt'
        refine wdraw_plan [⟨[], false, [38, 39, 40, 41, 42, 43, 44, 45, 46, 47, 48, 49, 50], [], false⟩, ⟨[], false, [37, 39, 40, 41, 42, 43, 44, 45, 46, 47, 48, 49, 50], [0], false⟩, ⟨[], false, [37, 38, 39, 40, 41, 42, 43, 44, 45, 46, 47, 48, 49, 50, 51, 52], [0, 1], true⟩, ⟨[], false, [37, 38, 39, 40, 41, 42, 43, 44, 45, 46, 47, 48, 49, 50, 51, 52], [0, 1, 2], true⟩, ⟨[3], false, [37, 38, 39, 41, 42, 43, 44, 45, 46, 47, 48, 49, 50, 51, 52], [0, 1, 2], true⟩, ⟨[], false, [37, 38, 39, 40, 41, 43, 44, 47, 48, 49, 50], [0, 1, 2, 3, 4], false⟩, ⟨[], false, [37, 38, 39, 40, 41, 42, 47, 48, 49, 50], [0, 1, 2, 3, 4, 5], false⟩, ⟨[6], false, [37, 38, 39, 40, 41, 42, 47, 48, 49, 50], [0, 1, 2, 3, 4, 5], false⟩, ⟨[5, 6, 7], false, [37, 38, 39, 40, 41, 47, 48, 49, 50], [0, 1, 2, 3, 4], false⟩, ⟨[5, 6, 7, 8], false, [37, 38, 39, 40, 41, 47, 48, 49, 50], [0, 1, 2, 3, 4], false⟩, ⟨[], false, [37, 38, 39, 40, 41, 42, 43, 44, 45, 46, 48], [0, 1, 2, 3, 4, 5, 6, 7, 8, 9], false⟩, ⟨[], false, [37, 38, 39, 40, 41, 42, 43, 44, 45, 46, 47], [0, 1, 2, 3, 4, 5, 6, 7, 8, 9, 10], false⟩, ⟨[10, 11], false, [37, 38, 39, 40, 41, 42, 43, 44, 45, 46], [0, 1, 2, 3, 4, 5, 6, 7, 8, 9], false⟩, ⟨[10, 11, 12], false, [37, 38, 39, 40, 41, 42, 43, 44, 45, 46], [0, 1, 2, 3, 4, 5, 6, 7, 8, 9], false⟩, ⟨[0, 1, 5, 6, 7, 8, 9, 10, 11, 12, 13], false, [39, 40, 41], [2, 3, 4], false⟩, ⟨[0, 1, 5, 6, 7, 8, 9, 10, 11, 12, 13, 14], true, [39, 40, 41], [], false⟩, ⟨[0, 1, 2, 3, 4, 5, 6, 7, 8, 9, 10, 11, 12, 13, 14, 15], true, [], [], false⟩, ⟨[0, 1, 2, 3, 4, 5, 6, 7, 8, 9, 10, 11, 12, 13, 14, 15, 16], true, [], [], false⟩] (by decide) ?_
        simp (maxSteps := 2000000) -implicitDefEqProofs only [zz, zE, evop, ev, ofVal, tget, tput, ok, V.isUndef, intBin, guardOf, initT, Ch.on, calleeOf, withArgs, told, xport, xports, tids, tidss, hget, hput, Blk.ice, freeze, V.cells, D.cells, V.isAgg, V.one, V.clo, clos, V.toD, loadD, structAt, eqCells, D.scalarEq, sliceOf, partsD, partsV, bound, isPtr, Blk.width, elems, lenOf, splice, D.over, resOf, resV, resVs, ↓reduceIte, reduceCtorEq, ↓reduceDIte, Nat.reduceLT, Nat.reduceEqDiff, Nat.reduceAdd, Nat.reduceSub, Nat.reduceMul, Nat.reduceLeDiff, Nat.reduceBEq, Nat.reduceBNe, Int.reduceNeg, Int.reduceAdd, Int.reduceSub, Int.reduceToNat, nilTest, shiftH, Blk.ren, V.ren, renL, initV, frameH, putL, frρ, dI, dW, hw1, List.getElem?_map, hg1, hg0, hg2, Option.map_some, Int.natCast_nonneg, set_dI, hsw]
        refine ⟨by omega, by omega, by omega, by omega, k, ⟨by omega, fun i hi z hz => ?_⟩, by omega, Weak.trimsM 1 (by simp) rfl (by simp [tget, hw1, V.lower, lowerL_ds]) (by simp [Blk.lower])⟩
        by_cases e : i = k
        · subst e; rw [hgy] at hz; cases hz; simpa [lt] using hlt'
        · exact hgt i (by omega) z hz
      · rename_i hlt'
        have e3 := e2 (k + 1) (insK_eq hk hgt (.inr ⟨y, by simpa using hgy, by simpa [lt] using hlt'⟩))
        rw [e3]
        exact Weak.trimsM 1 (by simp) rfl (by simp [tget, V.lower, lowerL_ds]; rw [wrap_in (by omega)]; omega) (by simp [Blk.lower])
  · have h' : ¬ (((a + 1 + (b - (a + 1)) : Nat) : Int) < (b : Int)) := by omega
    have e1 : a + 1 + (b - (a + 1)) = b := by omega
    have h'' : ¬ ((b : Int) < (b : Int)) := by omega
    simp (maxSteps := 2000000) -implicitDefEqProofs only [zz, zE, evop, ev, ofVal, tget, tput, ok, V.isUndef, intBin, guardOf, initT, Ch.on, calleeOf, withArgs, told, xport, xports, tids, tidss, hget, hput, Blk.ice, freeze, V.cells, D.cells, V.isAgg, V.one, V.clo, clos, V.toD, loadD, structAt, eqCells, D.scalarEq, sliceOf, partsD, partsV, bound, isPtr, Blk.width, elems, lenOf, splice, D.over, resOf, resV, resVs, ↓reduceIte, reduceCtorEq, ↓reduceDIte, Nat.reduceLT, Nat.reduceEqDiff, Nat.reduceAdd, Nat.reduceSub, Nat.reduceMul, Nat.reduceLeDiff, Nat.reduceBEq, Nat.reduceBNe, Int.reduceNeg, Int.reduceAdd, Int.reduceSub, Int.reduceToNat, nilTest, shiftH, Blk.ren, V.ren, renL, initV, frameH, putL, frρ, dI, dW, h'', e1]
    refine Weak.sub (T := [(0, V.tuple [])]) (H := [.dat false 1 ((sortPartI lt ws a b).map dI)]) ?_
    simp [tget]


/-- A contract that leaves the world as it was. -/
theorem CSpec.of_same {P : Program} {f : Nat} {k k' : IntKind} {n m : Int} (hc : Callable P f) (h : ∀ w, Calls P f #[.int k n] w fun e w' => e = .returned (.int k' m) ∧ w' = w) : CSpec P f [.int k n] (.int k' m) := by
  refine ⟨hc, fun S0 w cs hS0 hlen hrel => ?_⟩
  match cs, hlen with
  | [c], _ =>
    have := hrel 0 _ c rfl rfl
    cases this
    refine (h w).mono ?_
    rintro e w' ⟨rfl, rfl⟩
    exact ⟨_, S0, rfl, .int _ _, fun B hB => ⟨.inl hB, hS0 B hB⟩, .refl⟩

theorem c_bitsLen (x : Int) (h0 : 0 ≤ x) (h1 : x ≤ 18446744073709551615) : CSpec Try.prog 79 [.int .u64 x] (.int .i64 (Lib.bitLen x.toNat)) :=
  CSpec.of_same (fun args w => Try.call79 args w) (fun w => Try.bits_Len x w h0 h1)

theorem r_pdq_small (ns : List Int) (lim : Int) (hl : ns.length ≤ 12) (f : Nat × Nat) (cap : List D) (hcap : cap.length ≤ 8) (c : Int → Int → Int) (hc : ∀ x ∈ ns, ∀ y ∈ ns, CSpec Try.prog f.1 (cap.take f.2 ++ (dI x :: dI y :: cap.drop f.2)) (.int .i64 (c x y))) :
    RSpec Try.prog 78 [.own 0 0 ns.length, .d (.int .i64 0), .d (.int .i64 ns.length), .d (.int .i64 lim), .func f (cap.map V.d)] [.dat false 1 (ns.map dI)] (.tuple []) [.dat false 1 ((isort (fun x y => decide (c x y < 0)) ns).map dI)] := by
  refine RSpec.of_awp envOf_ok hmix Try.func78 rfl (fun args w => Try.call78 args w) (by simp [Try.f78]) ?_
  simp only [Try.f78]
  simp (maxSteps := 2000000) -implicitDefEqProofs only [zz, zE, evop, ev, ofVal, tget, tput, ok, V.isUndef, intBin, guardOf, initT, Ch.on, calleeOf, withArgs, told, xport, xports, tids, tidss, hget, hput, Blk.ice, freeze, V.cells, D.cells, V.isAgg, V.one, V.clo, clos, V.toD, loadD, structAt, eqCells, D.scalarEq, sliceOf, partsD, partsV, bound, isPtr, Blk.width, elems, lenOf, splice, D.over, resOf, resV, resVs, ↓reduceIte, reduceCtorEq, ↓reduceDIte, Nat.reduceLT, Nat.reduceEqDiff, Nat.reduceAdd, Nat.reduceSub, Nat.reduceMul, Nat.reduceLeDiff, Nat.reduceBEq, Nat.reduceBNe, Int.reduceNeg, Int.reduceAdd, Int.reduceSub, Int.reduceToNat, nilTest, shiftH, Blk.ren, V.ren, renL, initV, frameH, putL, frρ, dI, dW]
  have hle : ((ns.length : Int) ≤ 12) := by omega
  have hw : IntKind.i64.wrap ((ns.length : Int) - 0) = (ns.length : Int) := by rw [wrap_in (by omega)]; omega
  have hS : sortPartI (fun x y => decide (c x y < 0)) ns 0 ns.length = isort (fun x y => decide (c x y < 0)) ns := by simp [sortPartI]
  have hR := r_insertion_int ns 0 ns.length (Nat.zero_le _) (Nat.le_refl _) (by omega) f cap hcap c hc
  rw [hS] at hR
  refine wloop_ind (σ := Unit) (fun _ => 0) (fun _ => [(0, .own 0 0 ns.length), (1, .d (.int .i64 0)), (2, .d (.int .i64 ns.length)), (3, .d (.int .i64 lim)), (4, .func f (cap.map V.d))]) (fun _ => [.dat false 1 (ns.map dI)]) (fun _ => True) () trivial (Weak.sub (by simp [tget])) (fun _ _ => ?_)
  simp (maxSteps := 2000000) -implicitDefEqProofs only [zz, zE, evop, ev, ofVal, tget, tput, ok, V.isUndef, intBin, guardOf, initT, Ch.on, calleeOf, withArgs, told, xport, xports, tids, tidss, hget, hput, Blk.ice, freeze, V.cells, D.cells, V.isAgg, V.one, V.clo, clos, V.toD, loadD, structAt, eqCells, D.scalarEq, sliceOf, partsD, partsV, bound, isPtr, Blk.width, elems, lenOf, splice, D.over, resOf, resV, resVs, ↓reduceIte, reduceCtorEq, ↓reduceDIte, Nat.reduceLT, Nat.reduceEqDiff, Nat.reduceAdd, Nat.reduceSub, Nat.reduceMul, Nat.reduceLeDiff, Nat.reduceBEq, Nat.reduceBNe, Int.reduceNeg, Int.reduceAdd, Int.reduceSub, Int.reduceToNat, nilTest, shiftH, Blk.ren, V.ren, renL, initV, frameH, putL, frρ, dI, dW, hw, hle]
  refine acall_ref [0] (hR) (by first | rfl | simp [renL, V.ren, frρ, renL_ds]) (by simp) rfl (by simp) (by simp) (by intro j hj; match j, hj with | 0, _ => exact ⟨by simp [hget], rfl⟩) ?_
  try simp (maxSteps := 2000000) -implicitDefEqProofs only [zz, zE, evop, ev, ofVal, tget, tput, ok, V.isUndef, intBin, guardOf, initT, Ch.on, calleeOf, withArgs, told, xport, xports, tids, tidss, hget, hput, Blk.ice, freeze, V.cells, D.cells, V.isAgg, V.one, V.clo, clos, V.toD, loadD, structAt, eqCells, D.scalarEq, sliceOf, partsD, partsV, bound, isPtr, Blk.width, elems, lenOf, splice, D.over, resOf, resV, resVs, ↓reduceIte, reduceCtorEq, ↓reduceDIte, Nat.reduceLT, Nat.reduceEqDiff, Nat.reduceAdd, Nat.reduceSub, Nat.reduceMul, Nat.reduceLeDiff, Nat.reduceBEq, Nat.reduceBNe, Int.reduceNeg, Int.reduceAdd, Int.reduceSub, Int.reduceToNat, nilTest, shiftH, Blk.ren, V.ren, renL, initV, frameH, putL, frρ, dI, dW]
  exact Weak.sub (by simp [tget])

theorem r_SortFunc_small (ns : List Int) (hl : ns.length ≤ 12) (f : Nat × Nat) (cap : List D) (hcap : cap.length ≤ 8) (c : Int → Int → Int) (hc : ∀ x ∈ ns, ∀ y ∈ ns, CSpec Try.prog f.1 (cap.take f.2 ++ (dI x :: dI y :: cap.drop f.2)) (.int .i64 (c x y))) :
    RSpec Try.prog 66 [.own 0 0 ns.length, .func f (cap.map V.d)] [.dat false 1 (ns.map dI)] (.tuple []) [.dat false 1 ((isort (fun x y => decide (c x y < 0)) ns).map dI)] := by
  refine RSpec.of_awp envOf_ok hmix Try.func66 rfl (fun args w => Try.call66 args w) (by simp [Try.f66]) ?_
  simp only [Try.f66]
  simp (maxSteps := 2000000) -implicitDefEqProofs only [zz, zE, evop, ev, ofVal, tget, tput, ok, V.isUndef, intBin, guardOf, initT, Ch.on, calleeOf, withArgs, told, xport, xports, tids, tidss, hget, hput, Blk.ice, freeze, V.cells, D.cells, V.isAgg, V.one, V.clo, clos, V.toD, loadD, structAt, eqCells, D.scalarEq, sliceOf, partsD, partsV, bound, isPtr, Blk.width, elems, lenOf, splice, D.over, resOf, resV, resVs, ↓reduceIte, reduceCtorEq, ↓reduceDIte, Nat.reduceLT, Nat.reduceEqDiff, Nat.reduceAdd, Nat.reduceSub, Nat.reduceMul, Nat.reduceLeDiff, Nat.reduceBEq, Nat.reduceBNe, Int.reduceNeg, Int.reduceAdd, Int.reduceSub, Int.reduceToNat, nilTest, shiftH, Blk.ren, V.ren, renL, initV, frameH, putL, frρ, dI, dW]
  have hwu : IntKind.u64.wrap (ns.length : Int) = (ns.length : Int) := by rw [IntKind.wrap_u64]; omega
  have hB : CSpec Try.prog 79 [.int .u64 (IntKind.u64.wrap (ns.length : Int))] (.int .i64 (Lib.bitLen ((ns.length : Int)).toNat)) := by rw [hwu]; exact c_bitsLen _ (by omega) (by omega)
  refine acall_flat (by first | rfl | (simp only [xports, xport, hget]; rfl)) (hB) rfl ?_
  try simp (maxSteps := 2000000) -implicitDefEqProofs only [zz, zE, evop, ev, ofVal, tget, tput, ok, V.isUndef, intBin, guardOf, initT, Ch.on, calleeOf, withArgs, told, xport, xports, tids, tidss, hget, hput, Blk.ice, freeze, V.cells, D.cells, V.isAgg, V.one, V.clo, clos, V.toD, loadD, structAt, eqCells, D.scalarEq, sliceOf, partsD, partsV, bound, isPtr, Blk.width, elems, lenOf, splice, D.over, resOf, resV, resVs, ↓reduceIte, reduceCtorEq, ↓reduceDIte, Nat.reduceLT, Nat.reduceEqDiff, Nat.reduceAdd, Nat.reduceSub, Nat.reduceMul, Nat.reduceLeDiff, Nat.reduceBEq, Nat.reduceBNe, Int.reduceNeg, Int.reduceAdd, Int.reduceSub, Int.reduceToNat, nilTest, shiftH, Blk.ren, V.ren, renL, initV, frameH, putL, frρ, dI, dW]
  refine acall_ref [0] (r_pdq_small ns ((Lib.bitLen ns.length : Nat) : Int) hl f cap hcap c hc) (by first | rfl | simp [renL, V.ren, frρ, renL_ds]) (by simp) rfl (by simp) (by simp) (by intro j hj; match j, hj with | 0, _ => exact ⟨by simp [hget], rfl⟩) ?_
  try simp (maxSteps := 2000000) -implicitDefEqProofs only [zz, zE, evop, ev, ofVal, tget, tput, ok, V.isUndef, intBin, guardOf, initT, Ch.on, calleeOf, withArgs, told, xport, xports, tids, tidss, hget, hput, Blk.ice, freeze, V.cells, D.cells, V.isAgg, V.one, V.clo, clos, V.toD, loadD, structAt, eqCells, D.scalarEq, sliceOf, partsD, partsV, bound, isPtr, Blk.width, elems, lenOf, splice, D.over, resOf, resV, resVs, ↓reduceIte, reduceCtorEq, ↓reduceDIte, Nat.reduceLT, Nat.reduceEqDiff, Nat.reduceAdd, Nat.reduceSub, Nat.reduceMul, Nat.reduceLeDiff, Nat.reduceBEq, Nat.reduceBNe, Int.reduceNeg, Int.reduceAdd, Int.reduceSub, Int.reduceToNat, nilTest, shiftH, Blk.ren, V.ren, renL, initV, frameH, putL, frρ, dI, dW]
  exact Weak.sub (by simp [tget])

end Go.Proofs.Ythpapgbpmkgfeaa.AM

/- A part of a list, in another order. -/
set_option linter.all false
namespace Go.Proofs.Ythpapgbpmkgfeaa.AM
open Go

def sw (l : List Int) (i j : Nat) : List Int := (l.set i (l.getD j 0)).set j (l.getD i 0)
theorem sw_len (l : List Int) (i j : Nat) : (sw l i j).length = l.length := by simp [sw]

theorem sw_perm (l : List Int) {i j : Nat} (hi : i < l.length) (hj : j < l.length) : (sw l i j).Perm l := by
  have h := Array.swap_perm (xs := l.toArray) (i := i) (j := j) (by simpa using hi) (by simpa using hj)
  have e : (l.toArray.swap i j (by simpa using hi) (by simpa using hj)).toList = sw l i j := by
    simp [Array.swap, sw, List.getD_eq_getElem?_getD, hi, hj]
  have := h.toList
  rw [e] at this
  simpa using this

/-- The same list, but for the order of its part a..b. -/
def PS (a b : Nat) (zs zs' : List Int) : Prop := ∃ L X X' R, zs = L ++ X ++ R ∧ zs' = L ++ X' ++ R ∧ L.length = a ∧ a + X.length = b ∧ X'.Perm X

theorem PS.refl {a b : Nat} {zs : List Int} (hab : a ≤ b) (hb : b ≤ zs.length) : PS a b zs zs :=
  ⟨zs.take a, (zs.drop a).take (b - a), (zs.drop a).take (b - a), zs.drop b, by
    rw [List.append_assoc]
    have : zs.drop b = (zs.drop a).drop (b - a) := by rw [List.drop_drop]; congr 1; omega
    rw [this, List.take_append_drop, List.take_append_drop], by
    rw [List.append_assoc]
    have : zs.drop b = (zs.drop a).drop (b - a) := by rw [List.drop_drop]; congr 1; omega
    rw [this, List.take_append_drop, List.take_append_drop], by simp; omega, by simp; omega, List.Perm.refl _⟩

theorem PS.trans {a b : Nat} {x y z : List Int} (h1 : PS a b x y) (h2 : PS a b y z) : PS a b x z := by
  obtain ⟨L, X, X', R, rfl, rfl, l1, l2, p⟩ := h1
  obtain ⟨L2, Y, Y', R2, e, rfl, k1, k2, q⟩ := h2
  have hl : X'.length = Y.length := by have := p.length_eq; omega
  rw [List.append_assoc, List.append_assoc] at e
  obtain ⟨e1, e2⟩ := List.append_inj e (by omega)
  obtain ⟨e3, e4⟩ := List.append_inj e2 hl
  subst e1; subst e3; subst e4
  exact ⟨L, X, Y', R, rfl, rfl, l1, l2, q.trans p⟩

theorem PS.len {a b : Nat} {x y : List Int} (h : PS a b x y) : y.length = x.length := by
  obtain ⟨L, X, X', R, rfl, rfl, l1, l2, p⟩ := h
  have := p.length_eq
  simp [this]
theorem PS.perm {a b : Nat} {x y : List Int} (h : PS a b x y) : y.Perm x := by
  obtain ⟨L, X, X', R, rfl, rfl, l1, l2, p⟩ := h
  exact (p.append_left L).append_right R
theorem PS.out {a b : Nat} {x y : List Int} (h : PS a b x y) {i : Nat} (hi : i < a ∨ b ≤ i) : y[i]? = x[i]? := by
  obtain ⟨L, X, X', R, rfl, rfl, l1, l2, p⟩ := h
  have := p.length_eq
  rcases hi with hi | hi
  · rw [List.append_assoc, List.append_assoc, List.getElem?_append_left (by omega), List.getElem?_append_left (by omega)]
  · rw [List.getElem?_append_right (by simp; omega), List.getElem?_append_right (by simp; omega)]
    simp [this]
theorem PS.seg {a b : Nat} {x y : List Int} (h : PS a b x y) {P : Int → Prop} (hP : ∀ i, a ≤ i → i < b → ∀ v, x[i]? = some v → P v) : ∀ i, a ≤ i → i < b → ∀ v, y[i]? = some v → P v := by
  obtain ⟨L, X, X', R, rfl, rfl, l1, l2, p⟩ := h
  intro i h1 h2 v hv
  have hl := p.length_eq
  rw [List.append_assoc, List.getElem?_append_right (by omega), List.getElem?_append_left (by omega)] at hv
  obtain ⟨k, hk, e⟩ := List.getElem_of_mem (p.mem_iff.1 (List.mem_of_getElem? hv))
  refine hP (a + k) (by omega) (by omega) v ?_
  rw [List.append_assoc, List.getElem?_append_right (by omega), List.getElem?_append_left (by omega), l1, Nat.add_sub_cancel_left, List.getElem?_eq_getElem hk, e]

theorem PS.mono {a b a' b' : Nat} {x y : List Int} (h : PS a b x y) (ha : a' ≤ a) (hb : b ≤ b') (hb' : b' ≤ x.length) : PS a' b' x y := by
  obtain ⟨L, X, X', R, rfl, rfl, l1, l2, p⟩ := h
  simp only [List.length_append] at hb'
  refine ⟨L.take a', L.drop a' ++ X ++ R.take (b' - b), L.drop a' ++ X' ++ R.take (b' - b), R.drop (b' - b), ?_, ?_, by simp; omega, by simp; omega, (p.append_left _).append_right _⟩
  · have e1 := List.take_append_drop a' L
    have e2 := List.take_append_drop (b' - b) R
    conv => lhs; rw [← e1, ← e2]
    simp only [List.append_assoc]
  · have e1 := List.take_append_drop a' L
    have e2 := List.take_append_drop (b' - b) R
    conv => lhs; rw [← e1, ← e2]
    simp only [List.append_assoc]

theorem PS.sw {a b : Nat} {zs : List Int} {i j : Nat} (hb : b ≤ zs.length) (hi : a ≤ i ∧ i < b) (hj : a ≤ j ∧ j < b) : PS a b zs (sw zs i j) := by
  obtain ⟨L, X, X', R, e, _, l1, l2, _⟩ := PS.refl (zs := zs) (show a ≤ b by omega) hb
  subst e
  have hX : X.length = b - a := by omega
  have g : ∀ k, a ≤ k ∧ k < b → (L ++ X ++ R).getD k 0 = X.getD (k - a) 0 := fun k hk => by
    rw [List.getD_eq_getElem?_getD, List.getD_eq_getElem?_getD, List.append_assoc, List.getElem?_append_right (by omega), List.getElem?_append_left (by omega), l1]
  have s : ∀ (Y : List Int) k v, Y.length = X.length → a ≤ k ∧ k < b → (L ++ Y ++ R).set k v = L ++ Y.set (k - a) v ++ R := fun Y k v hY hk => by
    rw [List.append_assoc, List.set_append_right _ _ (by omega), List.set_append_left _ _ (by omega), l1, List.append_assoc]
  refine ⟨L, X, AM.sw X (i - a) (j - a), R, rfl, ?_, l1, l2, sw_perm X (by omega) (by omega)⟩
  unfold AM.sw
  rw [g i hi, g j hj, s X i _ rfl hi, s _ j _ (by simp) hj]

end Go.Proofs.Ythpapgbpmkgfeaa.AM

/- Sorting parts: what only swaps. -/
set_option linter.all false
set_option maxRecDepth 100000
set_option maxHeartbeats 4000000
namespace Go.Proofs.Ythpapgbpmkgfeaa.AM
open Go Go.RowKit

theorem finN_ret {E : Env} {m : Nat} {rs : List ResultVar} {Qf : V → Heap → Prop} {T : Tmps} {H : Heap} : FinN E m rs Qf .ret T H = (∃ r H1, Qf r H1 ∧ match resOf E T H rs with | some v => Weak m [(0, v)] H [(0, r)] H1 | none => False) := by
  unfold FinN
  simp only [z3a, z3c]
  rfl
theorem finN_normal {E : Env} {m : Nat} {rs : List ResultVar} {Qf : V → Heap → Prop} {T : Tmps} {H : Heap} : FinN E m rs Qf .normal T H = (∃ r H1, Qf r H1 ∧ match resOf E T H rs with | some v => Weak m [(0, v)] H [(0, r)] H1 | none => False) := by
  unfold FinN
  simp only [z3b, z3c]
  rfl

/-- What comes out of a function that only moves the part a..b about, so that the list is then of Q. -/
def OutL (Q : List Int → Prop) : V → Heap → Prop := fun r H => ∃ zs', r = .tuple [] ∧ H = [.dat false 1 (zs'.map dI)] ∧ Q zs'

theorem getD_some {l : List Int} {i : Nat} (h : i < l.length) : l[i]? = some (l.getD i 0) := by
  rw [List.getD_eq_getElem?_getD, List.getElem?_eq_getElem h]; rfl

theorem n_reverse (zs : List Int) (a b : Nat) (hab : a ≤ b) (hb : b ≤ zs.length) (hl : zs.length ≤ 1000000) (f : Nat × Nat) (cap : List D) :
    NSpec Try.prog 88 [.own 0 0 zs.length, .d (.int .i64 a), .d (.int .i64 b), .func f (cap.map V.d)] [.dat false 1 (zs.map dI)] (OutL (PS a b zs)) := by
  refine NSpec.of_awp envOf_ok hmix Try.func88 rfl (fun args w => Try.call88 args w) (by simp [Try.f88]) ?_
  simp only [Try.f88]
  simp (maxSteps := 2000000) -implicitDefEqProofs only [zz, zE, evop, ev, ofVal, tget, tput, ok, V.isUndef, intBin, guardOf, initT, Ch.on, calleeOf, withArgs, told, xport, xports, tids, tidss, hget, hput, Blk.ice, freeze, V.cells, D.cells, V.isAgg, V.one, V.clo, clos, V.toD, loadD, structAt, eqCells, D.scalarEq, sliceOf, partsD, partsV, bound, isPtr, Blk.width, elems, lenOf, splice, D.over, resOf, resV, resVs, ↓reduceIte, reduceCtorEq, ↓reduceDIte, Nat.reduceLT, Nat.reduceEqDiff, Nat.reduceAdd, Nat.reduceSub, Nat.reduceMul, Nat.reduceLeDiff, Nat.reduceBEq, Nat.reduceBNe, Int.reduceNeg, Int.reduceAdd, Int.reduceSub, Int.reduceToNat, nilTest, shiftH, Blk.ren, V.ren, renL, initV, frameH, putL, frρ, dI, finN_ret, finN_normal]
  have hw : IntKind.i64.wrap ((b : Int) - 1) = (b : Int) - 1 - ((0 : Nat) : Int) := by rw [wrap_in (by omega)]; omega
  refine wloop_ind (σ := Nat × List Int) (fun s => b - s.1) (fun s => [(8, .d (.int .i64 ((a + s.1 : Nat) : Int))), (9, .d (.int .i64 ((b : Int) - 1 - (s.1 : Int)))), (0, .own 0 0 zs.length)]) (fun s => [.dat false 1 (s.2.map dI)]) (fun s => PS a b zs s.2) (0, zs) (PS.refl hab hb) (Weak.sub (by simp [tget, hw])) ?_
  rintro ⟨k, ys⟩ hP
  simp only at hP
  have hyl := hP.len
  by_cases hk : ((a + k : Nat) : Int) < (b : Int) - 1 - (k : Int)
  · obtain ⟨j, hj⟩ : ∃ j : Nat, (b : Int) - 1 - (k : Int) = (j : Int) := ⟨b - 1 - k, by omega⟩
    have g1 := getD_some (l := ys) (i := a + k) (by omega)
    have g2 := getD_some (l := ys) (i := j) (by omega)
    have g3 : (ys.set (a + k) (ys.getD j 0))[j]? = some (ys.getD j 0) := by rw [List.getElem?_set_ne (by omega)]; exact g2
    have hw1 : IntKind.i64.wrap (((a + k : Nat) : Int) + 1) = ((a + (k + 1) : Nat) : Int) := by rw [wrap_in (by omega)]; omega
    have hw2 : IntKind.i64.wrap ((j : Int) - 1) = (b : Int) - 1 - ((k + 1 : Nat) : Int) := by rw [wrap_in (by omega)]; omega
    have hk' := hk
    rw [hj] at hk'
    simp only [hj]
    simp (maxSteps := 2000000) -implicitDefEqProofs only [zz, zE, evop, ev, ofVal, tget, tput, ok, V.isUndef, intBin, guardOf, initT, Ch.on, calleeOf, withArgs, told, xport, xports, tids, tidss, hget, hput, Blk.ice, freeze, V.cells, D.cells, V.isAgg, V.one, V.clo, clos, V.toD, loadD, structAt, eqCells, D.scalarEq, sliceOf, partsD, partsV, bound, isPtr, Blk.width, elems, lenOf, splice, D.over, resOf, resV, resVs, ↓reduceIte, reduceCtorEq, ↓reduceDIte, Nat.reduceLT, Nat.reduceEqDiff, Nat.reduceAdd, Nat.reduceSub, Nat.reduceMul, Nat.reduceLeDiff, Nat.reduceBEq, Nat.reduceBNe, Int.reduceNeg, Int.reduceAdd, Int.reduceSub, Int.reduceToNat, nilTest, shiftH, Blk.ren, V.ren, renL, initV, frameH, putL, frρ, dI, finN_ret, finN_normal, hk']
    refine wdraw_plan [⟨[], false, [17, 18, 19, 20, 21, 22, 23, 24, 25, 26, 27], [], false⟩, ⟨[], false, [16, 18, 19, 20, 21, 22, 23, 24, 25, 26, 27], [0], false⟩, ⟨[], false, [16, 17, 18, 19, 20, 21, 22, 23, 24, 25, 26, 27, 28, 29], [0, 1], true⟩, ⟨[], false, [16, 17, 18, 19, 20, 21, 22, 23, 24, 25, 26, 27, 28, 29], [0, 1, 2], true⟩, ⟨[], false, [16, 17, 18, 19, 21, 24, 25, 26, 27], [0, 1, 2, 3], false⟩, ⟨[], false, [16, 17, 18, 19, 20, 24, 25, 26, 27], [0, 1, 2, 3, 4], false⟩, ⟨[4, 5], false, [16, 17, 18, 19, 24, 25, 26, 27], [0, 1, 2, 3], false⟩, ⟨[4, 5, 6], false, [16, 17, 18, 19, 24, 25, 26, 27], [0, 1, 2, 3], false⟩, ⟨[], false, [16, 17, 18, 19, 20, 21, 22, 23, 25], [0, 1, 2, 3, 4, 5, 6, 7], false⟩, ⟨[], false, [16, 17, 18, 19, 20, 21, 22, 23, 24], [0, 1, 2, 3, 4, 5, 6, 7, 8], false⟩, ⟨[8, 9], false, [16, 17, 18, 19, 20, 21, 22, 23], [0, 1, 2, 3, 4, 5, 6, 7], false⟩, ⟨[8, 9, 10], false, [16, 17, 18, 19, 20, 21, 22, 23], [0, 1, 2, 3, 4, 5, 6, 7], false⟩, ⟨[0, 1, 4, 5, 6, 7, 8, 9, 10, 11], false, [18, 19], [2, 3], false⟩, ⟨[0, 1, 4, 5, 6, 7, 8, 9, 10, 11, 12], true, [18, 19], [], false⟩, ⟨[0, 1, 2, 3, 4, 5, 6, 7, 8, 9, 10, 11, 12, 13], true, [], [], false⟩, ⟨[0, 1, 2, 3, 4, 5, 6, 7, 8, 9, 10, 11, 12, 13, 14], true, [], [], false⟩] (by decide) ?_
    simp (maxSteps := 2000000) -implicitDefEqProofs only [zz, zE, evop, ev, ofVal, tget, tput, ok, V.isUndef, intBin, guardOf, initT, Ch.on, calleeOf, withArgs, told, xport, xports, tids, tidss, hget, hput, Blk.ice, freeze, V.cells, D.cells, V.isAgg, V.one, V.clo, clos, V.toD, loadD, structAt, eqCells, D.scalarEq, sliceOf, partsD, partsV, bound, isPtr, Blk.width, elems, lenOf, splice, D.over, resOf, resV, resVs, ↓reduceIte, reduceCtorEq, ↓reduceDIte, Nat.reduceLT, Nat.reduceEqDiff, Nat.reduceAdd, Nat.reduceSub, Nat.reduceMul, Nat.reduceLeDiff, Nat.reduceBEq, Nat.reduceBNe, Int.reduceNeg, Int.reduceAdd, Int.reduceSub, Int.reduceToNat, nilTest, shiftH, Blk.ren, V.ren, renL, initV, frameH, putL, frρ, dI, finN_ret, finN_normal, List.getElem?_map, g1, g2, g3, Option.map_some, Int.natCast_nonneg, set_dI]
    have hS : PS a b ys (sw ys (a + k) j) := PS.sw (by omega) ⟨by omega, by omega⟩ ⟨by omega, by omega⟩
    refine ⟨by omega, by omega, by omega, by omega, (k + 1, sw ys (a + k) j), hP.trans hS, ?_, Weak.trimsM 1 (by simp) rfl ?_ (by simp [Blk.lower])⟩
    · simp only; omega
    · simp only [hw1, hw2]; simp [tget, V.lower]
  · simp (maxSteps := 2000000) -implicitDefEqProofs only [zz, zE, evop, ev, ofVal, tget, tput, ok, V.isUndef, intBin, guardOf, initT, Ch.on, calleeOf, withArgs, told, xport, xports, tids, tidss, hget, hput, Blk.ice, freeze, V.cells, D.cells, V.isAgg, V.one, V.clo, clos, V.toD, loadD, structAt, eqCells, D.scalarEq, sliceOf, partsD, partsV, bound, isPtr, Blk.width, elems, lenOf, splice, D.over, resOf, resV, resVs, ↓reduceIte, reduceCtorEq, ↓reduceDIte, Nat.reduceLT, Nat.reduceEqDiff, Nat.reduceAdd, Nat.reduceSub, Nat.reduceMul, Nat.reduceLeDiff, Nat.reduceBEq, Nat.reduceBNe, Int.reduceNeg, Int.reduceAdd, Int.reduceSub, Int.reduceToNat, nilTest, shiftH, Blk.ren, V.ren, renL, initV, frameH, putL, frρ, dI, finN_ret, finN_normal, hk]
    exact ⟨_, _, ⟨ys, rfl, rfl, hP⟩, Weak.sub (by simp [tget])⟩

end Go.Proofs.Ythpapgbpmkgfeaa.AM

/- Sorting parts: the pivot. -/
set_option linter.all false
set_option maxRecDepth 100000
set_option maxHeartbeats 4000000
namespace Go.Proofs.Ythpapgbpmkgfeaa.AM
open Go Go.RowKit

/-- What compares. -/
def CmpC (f : Nat × Nat) (cap : List D) (c : Int → Int → Int) (M : Int → Prop) : Prop :=
  cap.length ≤ 8 ∧ ∀ x y, M x → M y → CSpec Try.prog f.1 (cap.take f.2 ++ (dI x :: dI y :: cap.drop f.2)) (.int .i64 (c x y))

def OutP (zs : List Int) (Q : Nat → Nat → Prop) : V → Heap → Prop := fun r H => ∃ (x y : Nat) (s : Int), r = .tuple [.d (.int .i64 x), .d (.int .i64 y)] ∧ H = [.dat false 1 (zs.map dI), .box false [.d (.int .i64 s)]] ∧ Q x y
def OutI (zs : List Int) (Q : Nat → Prop) : V → Heap → Prop := fun r H => ∃ (x : Nat) (s : Int), r = .d (.int .i64 x) ∧ H = [.dat false 1 (zs.map dI), .box false [.d (.int .i64 s)]] ∧ Q x

section
variable {f : Nat × Nat} {cap : List D} {c : Int → Int → Int} {M : Int → Prop} (hC : CmpC f cap c M) (zs : List Int) (hM : ∀ z ∈ zs, M z) (hl : zs.length ≤ 1000000)
include hC hM hl

theorem n_order2 (i j : Nat) (s : Int) (hi : i < zs.length) (hj : j < zs.length) :
    NSpec Try.prog 101 [.own 0 0 zs.length, .d (.int .i64 i), .d (.int .i64 j), .ptr 1 0 0, .func f (cap.map V.d)] [.dat false 1 (zs.map dI), .box false [.d (.int .i64 s)]] (OutP zs (fun x y => (x = i ∧ y = j) ∨ (x = j ∧ y = i))) := by
  refine NSpec.of_awp envOf_ok hmix Try.func101 rfl (fun args w => Try.call101 args w) (by simp [Try.f101]) ?_
  simp only [Try.f101]
  simp (maxSteps := 2000000) -implicitDefEqProofs only [zz, zE, evop, ev, ofVal, tget, tput, ok, V.isUndef, intBin, guardOf, initT, Ch.on, calleeOf, withArgs, told, xport, xports, tids, tidss, hget, hput, Blk.ice, freeze, V.cells, D.cells, V.isAgg, V.one, V.clo, clos, V.toD, loadD, structAt, eqCells, D.scalarEq, sliceOf, partsD, partsV, bound, isPtr, Blk.width, elems, lenOf, splice, D.over, resOf, resV, resVs, ↓reduceIte, reduceCtorEq, ↓reduceDIte, Nat.reduceLT, Nat.reduceEqDiff, Nat.reduceAdd, Nat.reduceSub, Nat.reduceMul, Nat.reduceLeDiff, Nat.reduceBEq, Nat.reduceBNe, Int.reduceNeg, Int.reduceAdd, Int.reduceSub, Int.reduceToNat, nilTest, shiftH, Blk.ren, V.ren, renL, initV, frameH, putL, frρ, dI, finN_ret, finN_normal]
  refine wdraw_plan [⟨[], false, [13, 14, 15, 16, 17, 18, 19, 20], [], false⟩, ⟨[], false, [12, 14, 17, 18, 19, 20], [0], false⟩, ⟨[], false, [12, 13, 17, 18, 19, 20], [0, 1], false⟩, ⟨[1, 2], false, [12, 17, 18, 19, 20], [0], false⟩, ⟨[1, 2, 3], false, [12, 17, 18, 19, 20], [0], false⟩, ⟨[], false, [12, 13, 14, 15, 16, 18], [0, 1, 2, 3, 4], false⟩, ⟨[], false, [12, 13, 14, 15, 16, 17], [0, 1, 2, 3, 4, 5], false⟩, ⟨[5, 6], false, [12, 13, 14, 15, 16], [0, 1, 2, 3, 4], false⟩, ⟨[5, 6, 7], false, [12, 13, 14, 15, 16], [0, 1, 2, 3, 4], false⟩, ⟨[0, 1, 2, 3, 4, 5, 6, 7, 8], true, [], [], false⟩, ⟨[0, 1, 2, 3, 4, 5, 6, 7, 8, 9], true, [], [], false⟩] (by decide) ?_
  have g1 := getD_some hi
  have g2 := getD_some hj
  simp (maxSteps := 2000000) -implicitDefEqProofs only [zz, zE, evop, ev, ofVal, tget, tput, ok, V.isUndef, intBin, guardOf, initT, Ch.on, calleeOf, withArgs, told, xport, xports, tids, tidss, hget, hput, Blk.ice, freeze, V.cells, D.cells, V.isAgg, V.one, V.clo, clos, V.toD, loadD, structAt, eqCells, D.scalarEq, sliceOf, partsD, partsV, bound, isPtr, Blk.width, elems, lenOf, splice, D.over, resOf, resV, resVs, ↓reduceIte, reduceCtorEq, ↓reduceDIte, Nat.reduceLT, Nat.reduceEqDiff, Nat.reduceAdd, Nat.reduceSub, Nat.reduceMul, Nat.reduceLeDiff, Nat.reduceBEq, Nat.reduceBNe, Int.reduceNeg, Int.reduceAdd, Int.reduceSub, Int.reduceToNat, nilTest, shiftH, Blk.ren, V.ren, renL, initV, frameH, putL, frρ, dI, finN_ret, finN_normal, List.getElem?_map, g1, g2, Option.map_some, Int.natCast_nonneg]
  refine ⟨by omega, by omega, ?_⟩
  refine acall_flat (ds := cap.take f.2 ++ (dI (zs.getD j 0) :: dI (zs.getD i 0) :: cap.drop f.2)) (xports_two cap f.2 _ _ hC.1) (hC.2 _ _ (hM _ (List.mem_of_getElem? g2)) (hM _ (List.mem_of_getElem? g1))) rfl ?_
  simp (maxSteps := 2000000) -implicitDefEqProofs only [zz, zE, evop, ev, ofVal, tget, tput, ok, V.isUndef, intBin, guardOf, initT, Ch.on, calleeOf, withArgs, told, xport, xports, tids, tidss, hget, hput, Blk.ice, freeze, V.cells, D.cells, V.isAgg, V.one, V.clo, clos, V.toD, loadD, structAt, eqCells, D.scalarEq, sliceOf, partsD, partsV, bound, isPtr, Blk.width, elems, lenOf, splice, D.over, resOf, resV, resVs, ↓reduceIte, reduceCtorEq, ↓reduceDIte, Nat.reduceLT, Nat.reduceEqDiff, Nat.reduceAdd, Nat.reduceSub, Nat.reduceMul, Nat.reduceLeDiff, Nat.reduceBEq, Nat.reduceBNe, Int.reduceNeg, Int.reduceAdd, Int.reduceSub, Int.reduceToNat, nilTest, shiftH, Blk.ren, V.ren, renL, initV, frameH, putL, frρ, dI, finN_ret, finN_normal]
  split
  · exact ⟨_, _, ⟨j, i, _, rfl, rfl, .inr ⟨rfl, rfl⟩⟩, Weak.trimsM 2 (by simp) rfl (by simp [tget, V.lower, lowerL]) (by simp [Blk.lower, V.lower, lowerL])⟩
  · exact ⟨_, _, ⟨i, j, _, rfl, rfl, .inl ⟨rfl, rfl⟩⟩, Weak.trimsM 2 (by simp) rfl (by simp [tget, V.lower, lowerL]) (by simp [Blk.lower, V.lower, lowerL])⟩

theorem n_median (i j k : Nat) (s : Int) (hi : i < zs.length) (hj : j < zs.length) (hk : k < zs.length) :
    NSpec Try.prog 99 [.own 0 0 zs.length, .d (.int .i64 i), .d (.int .i64 j), .d (.int .i64 k), .ptr 1 0 0, .func f (cap.map V.d)] [.dat false 1 (zs.map dI), .box false [.d (.int .i64 s)]] (OutI zs (fun x => x = i ∨ x = j ∨ x = k)) := by
  refine NSpec.of_awp envOf_ok hmix Try.func99 rfl (fun args w => Try.call99 args w) (by simp [Try.f99]) ?_
  simp only [Try.f99]
  simp (maxSteps := 2000000) -implicitDefEqProofs only [zz, zE, evop, ev, ofVal, tget, tput, ok, V.isUndef, intBin, guardOf, initT, Ch.on, calleeOf, withArgs, told, xport, xports, tids, tidss, hget, hput, Blk.ice, freeze, V.cells, D.cells, V.isAgg, V.one, V.clo, clos, V.toD, loadD, structAt, eqCells, D.scalarEq, sliceOf, partsD, partsV, bound, isPtr, Blk.width, elems, lenOf, splice, D.over, resOf, resV, resVs, ↓reduceIte, reduceCtorEq, ↓reduceDIte, Nat.reduceLT, Nat.reduceEqDiff, Nat.reduceAdd, Nat.reduceSub, Nat.reduceMul, Nat.reduceLeDiff, Nat.reduceBEq, Nat.reduceBNe, Int.reduceNeg, Int.reduceAdd, Int.reduceSub, Int.reduceToNat, nilTest, shiftH, Blk.ren, V.ren, renL, initV, frameH, putL, frρ, dI, finN_ret, finN_normal]
  refine acall_refN [0, 1] (n_order2 hC zs hM hl i j s hi hj) (by first | rfl | simp [renL, V.ren, frρ, renL_ds]) (by simp) rfl (by rintro _ _ ⟨_, _, _, rfl, rfl, _⟩; simp) (by simp) (by intro j hj; match j, hj with | 0, _ => exact ⟨by simp [hget], rfl⟩ | 1, _ => exact ⟨by simp [hget], rfl⟩) ?_
  rintro _ _ ⟨x, y, s1, rfl, rfl, h1⟩
  simp (maxSteps := 2000000) -implicitDefEqProofs only [zz, zE, evop, ev, ofVal, tget, tput, ok, V.isUndef, intBin, guardOf, initT, Ch.on, calleeOf, withArgs, told, xport, xports, tids, tidss, hget, hput, Blk.ice, freeze, V.cells, D.cells, V.isAgg, V.one, V.clo, clos, V.toD, loadD, structAt, eqCells, D.scalarEq, sliceOf, partsD, partsV, bound, isPtr, Blk.width, elems, lenOf, splice, D.over, resOf, resV, resVs, ↓reduceIte, reduceCtorEq, ↓reduceDIte, Nat.reduceLT, Nat.reduceEqDiff, Nat.reduceAdd, Nat.reduceSub, Nat.reduceMul, Nat.reduceLeDiff, Nat.reduceBEq, Nat.reduceBNe, Int.reduceNeg, Int.reduceAdd, Int.reduceSub, Int.reduceToNat, nilTest, shiftH, Blk.ren, V.ren, renL, initV, frameH, putL, frρ, dI, finN_ret, finN_normal]
  refine acall_refN [0, 1] (n_order2 hC zs hM hl y k s1 (by omega) hk) (by first | rfl | simp [renL, V.ren, frρ, renL_ds]) (by simp) rfl (by rintro _ _ ⟨_, _, _, rfl, rfl, _⟩; simp) (by simp) (by intro j hj; match j, hj with | 0, _ => exact ⟨by simp [hget], rfl⟩ | 1, _ => exact ⟨by simp [hget], rfl⟩) ?_
  rintro _ _ ⟨x2, y2, s2, rfl, rfl, h2⟩
  simp (maxSteps := 2000000) -implicitDefEqProofs only [zz, zE, evop, ev, ofVal, tget, tput, ok, V.isUndef, intBin, guardOf, initT, Ch.on, calleeOf, withArgs, told, xport, xports, tids, tidss, hget, hput, Blk.ice, freeze, V.cells, D.cells, V.isAgg, V.one, V.clo, clos, V.toD, loadD, structAt, eqCells, D.scalarEq, sliceOf, partsD, partsV, bound, isPtr, Blk.width, elems, lenOf, splice, D.over, resOf, resV, resVs, ↓reduceIte, reduceCtorEq, ↓reduceDIte, Nat.reduceLT, Nat.reduceEqDiff, Nat.reduceAdd, Nat.reduceSub, Nat.reduceMul, Nat.reduceLeDiff, Nat.reduceBEq, Nat.reduceBNe, Int.reduceNeg, Int.reduceAdd, Int.reduceSub, Int.reduceToNat, nilTest, shiftH, Blk.ren, V.ren, renL, initV, frameH, putL, frρ, dI, finN_ret, finN_normal]
  refine acall_refN [0, 1] (n_order2 hC zs hM hl x x2 s2 (by omega) (by omega)) (by first | rfl | simp [renL, V.ren, frρ, renL_ds]) (by simp) rfl (by rintro _ _ ⟨_, _, _, rfl, rfl, _⟩; simp) (by simp) (by intro j hj; match j, hj with | 0, _ => exact ⟨by simp [hget], rfl⟩ | 1, _ => exact ⟨by simp [hget], rfl⟩) ?_
  rintro _ _ ⟨x3, y3, s3, rfl, rfl, h3⟩
  simp (maxSteps := 2000000) -implicitDefEqProofs only [zz, zE, evop, ev, ofVal, tget, tput, ok, V.isUndef, intBin, guardOf, initT, Ch.on, calleeOf, withArgs, told, xport, xports, tids, tidss, hget, hput, Blk.ice, freeze, V.cells, D.cells, V.isAgg, V.one, V.clo, clos, V.toD, loadD, structAt, eqCells, D.scalarEq, sliceOf, partsD, partsV, bound, isPtr, Blk.width, elems, lenOf, splice, D.over, resOf, resV, resVs, ↓reduceIte, reduceCtorEq, ↓reduceDIte, Nat.reduceLT, Nat.reduceEqDiff, Nat.reduceAdd, Nat.reduceSub, Nat.reduceMul, Nat.reduceLeDiff, Nat.reduceBEq, Nat.reduceBNe, Int.reduceNeg, Int.reduceAdd, Int.reduceSub, Int.reduceToNat, nilTest, shiftH, Blk.ren, V.ren, renL, initV, frameH, putL, frρ, dI, finN_ret, finN_normal]
  exact ⟨_, _, ⟨y3, s3, rfl, rfl, by omega⟩, Weak.trimsM 2 (by simp) rfl (by simp [tget, V.lower, lowerL]) (by simp [Blk.lower, V.lower, lowerL])⟩

theorem n_medianAdj (i : Nat) (s : Int) (h1 : 1 ≤ i) (hi : i + 1 < zs.length) :
    NSpec Try.prog 98 [.own 0 0 zs.length, .d (.int .i64 i), .ptr 1 0 0, .func f (cap.map V.d)] [.dat false 1 (zs.map dI), .box false [.d (.int .i64 s)]] (OutI zs (fun x => i - 1 ≤ x ∧ x ≤ i + 1)) := by
  refine NSpec.of_awp envOf_ok hmix Try.func98 rfl (fun args w => Try.call98 args w) (by simp [Try.f98]) ?_
  simp only [Try.f98]
  simp (maxSteps := 2000000) -implicitDefEqProofs only [zz, zE, evop, ev, ofVal, tget, tput, ok, V.isUndef, intBin, guardOf, initT, Ch.on, calleeOf, withArgs, told, xport, xports, tids, tidss, hget, hput, Blk.ice, freeze, V.cells, D.cells, V.isAgg, V.one, V.clo, clos, V.toD, loadD, structAt, eqCells, D.scalarEq, sliceOf, partsD, partsV, bound, isPtr, Blk.width, elems, lenOf, splice, D.over, resOf, resV, resVs, ↓reduceIte, reduceCtorEq, ↓reduceDIte, Nat.reduceLT, Nat.reduceEqDiff, Nat.reduceAdd, Nat.reduceSub, Nat.reduceMul, Nat.reduceLeDiff, Nat.reduceBEq, Nat.reduceBNe, Int.reduceNeg, Int.reduceAdd, Int.reduceSub, Int.reduceToNat, nilTest, shiftH, Blk.ren, V.ren, renL, initV, frameH, putL, frρ, dI, finN_ret, finN_normal]
  have w1 : IntKind.i64.wrap ((i : Int) - 1) = ((i - 1 : Nat) : Int) := by rw [wrap_in (by omega)]; omega
  have w2 : IntKind.i64.wrap ((i : Int) + 1) = ((i + 1 : Nat) : Int) := by rw [wrap_in (by omega)]; omega
  simp only [w1, w2]
  refine acall_refN [0, 1] (n_median hC zs hM hl (i - 1) i (i + 1) s (by omega) (by omega) (by omega)) (by first | rfl | simp [renL, V.ren, frρ, renL_ds]) (by simp) rfl (by rintro _ _ ⟨_, _, rfl, rfl, _⟩; simp) (by simp) (by intro j hj; match j, hj with | 0, _ => exact ⟨by simp [hget], rfl⟩ | 1, _ => exact ⟨by simp [hget], rfl⟩) ?_
  rintro _ _ ⟨x, s1, rfl, rfl, h1⟩
  simp (maxSteps := 2000000) -implicitDefEqProofs only [zz, zE, evop, ev, ofVal, tget, tput, ok, V.isUndef, intBin, guardOf, initT, Ch.on, calleeOf, withArgs, told, xport, xports, tids, tidss, hget, hput, Blk.ice, freeze, V.cells, D.cells, V.isAgg, V.one, V.clo, clos, V.toD, loadD, structAt, eqCells, D.scalarEq, sliceOf, partsD, partsV, bound, isPtr, Blk.width, elems, lenOf, splice, D.over, resOf, resV, resVs, ↓reduceIte, reduceCtorEq, ↓reduceDIte, Nat.reduceLT, Nat.reduceEqDiff, Nat.reduceAdd, Nat.reduceSub, Nat.reduceMul, Nat.reduceLeDiff, Nat.reduceBEq, Nat.reduceBNe, Int.reduceNeg, Int.reduceAdd, Int.reduceSub, Int.reduceToNat, nilTest, shiftH, Blk.ren, V.ren, renL, initV, frameH, putL, frρ, dI, finN_ret, finN_normal]
  exact ⟨_, _, ⟨x, s1, rfl, rfl, by omega⟩, Weak.trimsM 2 (by simp) rfl (by simp [tget, V.lower, lowerL]) (by simp [Blk.lower, V.lower, lowerL])⟩

def OutC (zs : List Int) (Q : Nat → Prop) : V → Heap → Prop := fun r H => ∃ (x : Nat) (h : Int), r = .tuple [.d (.int .i64 x), .d (.int .i64 h)] ∧ H = [.dat false 1 (zs.map dI)] ∧ Q x

theorem n_choose (a b : Nat) (hab : a + 8 ≤ b) (hb : b ≤ zs.length) :
    NSpec Try.prog 87 [.own 0 0 zs.length, .d (.int .i64 a), .d (.int .i64 b), .func f (cap.map V.d)] [.dat false 1 (zs.map dI)] (OutC zs (fun x => a ≤ x ∧ x < b)) := by
  refine NSpec.of_awp envOf_ok hmix Try.func87 rfl (fun args w => Try.call87 args w) (by simp [Try.f87]) ?_
  simp only [Try.f87]
  simp (maxSteps := 2000000) -implicitDefEqProofs only [zz, zE, evop, ev, ofVal, tget, tput, ok, V.isUndef, intBin, guardOf, initT, Ch.on, calleeOf, withArgs, told, xport, xports, tids, tidss, hget, hput, Blk.ice, freeze, V.cells, D.cells, V.isAgg, V.one, V.clo, clos, V.toD, loadD, structAt, eqCells, D.scalarEq, sliceOf, partsD, partsV, bound, isPtr, Blk.width, elems, lenOf, splice, D.over, resOf, resV, resVs, ↓reduceIte, reduceCtorEq, ↓reduceDIte, Nat.reduceLT, Nat.reduceEqDiff, Nat.reduceAdd, Nat.reduceSub, Nat.reduceMul, Nat.reduceLeDiff, Nat.reduceBEq, Nat.reduceBNe, Int.reduceNeg, Int.reduceAdd, Int.reduceSub, Int.reduceToNat, nilTest, shiftH, Blk.ren, V.ren, renL, initV, frameH, putL, frρ, dI, finN_ret, finN_normal]
  obtain ⟨n, hn⟩ : ∃ n : Nat, n = b - a := ⟨_, rfl⟩
  obtain ⟨q, hq⟩ : ∃ q : Nat, q = n / 4 := ⟨_, rfl⟩
  have e0 : IntKind.i64.wrap ((b : Int) - (a : Int)) = (n : Int) := by rw [wrap_in (by omega)]; omega
  have e1 : ((n : Int)).tdiv 4 = (q : Int) := by rw [Int.tdiv_eq_ediv_of_nonneg (by omega)]; omega
  have e2 : IntKind.i64.wrap (q : Int) = (q : Int) := by rw [wrap_in (by omega)]
  have e3 : IntKind.i64.wrap ((q : Int) * 1) = (q : Int) := by rw [wrap_in (by omega)]; omega
  have e4 : IntKind.i64.wrap ((q : Int) * 2) = ((2 * q : Nat) : Int) := by rw [wrap_in (by omega)]; omega
  have e5 : IntKind.i64.wrap ((q : Int) * 3) = ((3 * q : Nat) : Int) := by rw [wrap_in (by omega)]; omega
  have e6 : IntKind.i64.wrap ((a : Int) + (q : Int)) = ((a + q : Nat) : Int) := by rw [wrap_in (by omega)]; omega
  have e7 : IntKind.i64.wrap ((a : Int) + ((2 * q : Nat) : Int)) = ((a + 2 * q : Nat) : Int) := by rw [wrap_in (by omega)]; omega
  have e8 : IntKind.i64.wrap ((a : Int) + ((3 * q : Nat) : Int)) = ((a + 3 * q : Nat) : Int) := by rw [wrap_in (by omega)]; omega
  have h8 : (8 : Int) ≤ (n : Int) := by omega
  simp only [e0, e1, e2, e3, e4, e5, e6, e7, e8]
  refine ⟨by omega, by omega, by omega, ?_⟩
  by_cases h50 : (50 : Int) ≤ (n : Int)
  case' pos =>
    simp (maxSteps := 2000000) -implicitDefEqProofs only [zz, zE, evop, ev, ofVal, tget, tput, ok, V.isUndef, intBin, guardOf, initT, Ch.on, calleeOf, withArgs, told, xport, xports, tids, tidss, hget, hput, Blk.ice, freeze, V.cells, D.cells, V.isAgg, V.one, V.clo, clos, V.toD, loadD, structAt, eqCells, D.scalarEq, sliceOf, partsD, partsV, bound, isPtr, Blk.width, elems, lenOf, splice, D.over, resOf, resV, resVs, ↓reduceIte, reduceCtorEq, ↓reduceDIte, Nat.reduceLT, Nat.reduceEqDiff, Nat.reduceAdd, Nat.reduceSub, Nat.reduceMul, Nat.reduceLeDiff, Nat.reduceBEq, Nat.reduceBNe, Int.reduceNeg, Int.reduceAdd, Int.reduceSub, Int.reduceToNat, nilTest, shiftH, Blk.ren, V.ren, renL, initV, frameH, putL, frρ, dI, finN_ret, finN_normal, h8, h50]
    refine acall_refN [0, 1] (n_medianAdj hC zs hM hl (a + q) 0 (by omega) (by omega)) (by first | rfl | simp [renL, V.ren, frρ, renL_ds]) (by simp) rfl (by rintro _ _ ⟨_, _, rfl, rfl, _⟩; simp) (by simp) (by intro j hj; match j, hj with | 0, _ => exact ⟨by simp [hget], rfl⟩ | 1, _ => exact ⟨by simp [hget], rfl⟩) ?_
    rintro _ _ ⟨x, s1, rfl, rfl, h1⟩
    simp (maxSteps := 2000000) -implicitDefEqProofs only [zz, zE, evop, ev, ofVal, tget, tput, ok, V.isUndef, intBin, guardOf, initT, Ch.on, calleeOf, withArgs, told, xport, xports, tids, tidss, hget, hput, Blk.ice, freeze, V.cells, D.cells, V.isAgg, V.one, V.clo, clos, V.toD, loadD, structAt, eqCells, D.scalarEq, sliceOf, partsD, partsV, bound, isPtr, Blk.width, elems, lenOf, splice, D.over, resOf, resV, resVs, ↓reduceIte, reduceCtorEq, ↓reduceDIte, Nat.reduceLT, Nat.reduceEqDiff, Nat.reduceAdd, Nat.reduceSub, Nat.reduceMul, Nat.reduceLeDiff, Nat.reduceBEq, Nat.reduceBNe, Int.reduceNeg, Int.reduceAdd, Int.reduceSub, Int.reduceToNat, nilTest, shiftH, Blk.ren, V.ren, renL, initV, frameH, putL, frρ, dI, finN_ret, finN_normal]
    refine acall_refN [0, 1] (n_medianAdj hC zs hM hl (a + 2 * q) s1 (by omega) (by omega)) (by first | rfl | simp [renL, V.ren, frρ, renL_ds]) (by simp) rfl (by rintro _ _ ⟨_, _, rfl, rfl, _⟩; simp) (by simp) (by intro j hj; match j, hj with | 0, _ => exact ⟨by simp [hget], rfl⟩ | 1, _ => exact ⟨by simp [hget], rfl⟩) ?_
    rintro _ _ ⟨y, s2, rfl, rfl, h2⟩
    simp (maxSteps := 2000000) -implicitDefEqProofs only [zz, zE, evop, ev, ofVal, tget, tput, ok, V.isUndef, intBin, guardOf, initT, Ch.on, calleeOf, withArgs, told, xport, xports, tids, tidss, hget, hput, Blk.ice, freeze, V.cells, D.cells, V.isAgg, V.one, V.clo, clos, V.toD, loadD, structAt, eqCells, D.scalarEq, sliceOf, partsD, partsV, bound, isPtr, Blk.width, elems, lenOf, splice, D.over, resOf, resV, resVs, ↓reduceIte, reduceCtorEq, ↓reduceDIte, Nat.reduceLT, Nat.reduceEqDiff, Nat.reduceAdd, Nat.reduceSub, Nat.reduceMul, Nat.reduceLeDiff, Nat.reduceBEq, Nat.reduceBNe, Int.reduceNeg, Int.reduceAdd, Int.reduceSub, Int.reduceToNat, nilTest, shiftH, Blk.ren, V.ren, renL, initV, frameH, putL, frρ, dI, finN_ret, finN_normal]
    refine acall_refN [0, 1] (n_medianAdj hC zs hM hl (a + 3 * q) s2 (by omega) (by omega)) (by first | rfl | simp [renL, V.ren, frρ, renL_ds]) (by simp) rfl (by rintro _ _ ⟨_, _, rfl, rfl, _⟩; simp) (by simp) (by intro j hj; match j, hj with | 0, _ => exact ⟨by simp [hget], rfl⟩ | 1, _ => exact ⟨by simp [hget], rfl⟩) ?_
    rintro _ _ ⟨z, s3, rfl, rfl, h3⟩
    simp (maxSteps := 2000000) -implicitDefEqProofs only [zz, zE, evop, ev, ofVal, tget, tput, ok, V.isUndef, intBin, guardOf, initT, Ch.on, calleeOf, withArgs, told, xport, xports, tids, tidss, hget, hput, Blk.ice, freeze, V.cells, D.cells, V.isAgg, V.one, V.clo, clos, V.toD, loadD, structAt, eqCells, D.scalarEq, sliceOf, partsD, partsV, bound, isPtr, Blk.width, elems, lenOf, splice, D.over, resOf, resV, resVs, ↓reduceIte, reduceCtorEq, ↓reduceDIte, Nat.reduceLT, Nat.reduceEqDiff, Nat.reduceAdd, Nat.reduceSub, Nat.reduceMul, Nat.reduceLeDiff, Nat.reduceBEq, Nat.reduceBNe, Int.reduceNeg, Int.reduceAdd, Int.reduceSub, Int.reduceToNat, nilTest, shiftH, Blk.ren, V.ren, renL, initV, frameH, putL, frρ, dI, finN_ret, finN_normal]
    refine acall_refN [0, 1] (n_median hC zs hM hl x y z s3 (by omega) (by omega) (by omega)) (by first | rfl | simp [renL, V.ren, frρ, renL_ds]) (by simp) rfl (by rintro _ _ ⟨_, _, rfl, rfl, _⟩; simp) (by simp) (by intro j hj; match j, hj with | 0, _ => exact ⟨by simp [hget], rfl⟩ | 1, _ => exact ⟨by simp [hget], rfl⟩) ?_
  case' neg =>
    simp (maxSteps := 2000000) -implicitDefEqProofs only [zz, zE, evop, ev, ofVal, tget, tput, ok, V.isUndef, intBin, guardOf, initT, Ch.on, calleeOf, withArgs, told, xport, xports, tids, tidss, hget, hput, Blk.ice, freeze, V.cells, D.cells, V.isAgg, V.one, V.clo, clos, V.toD, loadD, structAt, eqCells, D.scalarEq, sliceOf, partsD, partsV, bound, isPtr, Blk.width, elems, lenOf, splice, D.over, resOf, resV, resVs, ↓reduceIte, reduceCtorEq, ↓reduceDIte, Nat.reduceLT, Nat.reduceEqDiff, Nat.reduceAdd, Nat.reduceSub, Nat.reduceMul, Nat.reduceLeDiff, Nat.reduceBEq, Nat.reduceBNe, Int.reduceNeg, Int.reduceAdd, Int.reduceSub, Int.reduceToNat, nilTest, shiftH, Blk.ren, V.ren, renL, initV, frameH, putL, frρ, dI, finN_ret, finN_normal, h8, h50]
    refine acall_refN [0, 1] (n_median hC zs hM hl (a + q) (a + 2 * q) (a + 3 * q) 0 (by omega) (by omega) (by omega)) (by first | rfl | simp [renL, V.ren, frρ, renL_ds]) (by simp) rfl (by rintro _ _ ⟨_, _, rfl, rfl, _⟩; simp) (by simp) (by intro j hj; match j, hj with | 0, _ => exact ⟨by simp [hget], rfl⟩ | 1, _ => exact ⟨by simp [hget], rfl⟩) ?_
  all_goals
    rintro _ _ ⟨p, s4, rfl, rfl, h4⟩
    simp (maxSteps := 2000000) -implicitDefEqProofs only [zz, zE, evop, ev, ofVal, tget, tput, ok, V.isUndef, intBin, guardOf, initT, Ch.on, calleeOf, withArgs, told, xport, xports, tids, tidss, hget, hput, Blk.ice, freeze, V.cells, D.cells, V.isAgg, V.one, V.clo, clos, V.toD, loadD, structAt, eqCells, D.scalarEq, sliceOf, partsD, partsV, bound, isPtr, Blk.width, elems, lenOf, splice, D.over, resOf, resV, resVs, ↓reduceIte, reduceCtorEq, ↓reduceDIte, Nat.reduceLT, Nat.reduceEqDiff, Nat.reduceAdd, Nat.reduceSub, Nat.reduceMul, Nat.reduceLeDiff, Nat.reduceBEq, Nat.reduceBNe, Int.reduceNeg, Int.reduceAdd, Int.reduceSub, Int.reduceToNat, nilTest, shiftH, Blk.ren, V.ren, renL, initV, frameH, putL, frρ, dI, finN_ret, finN_normal]
    split
    · exact ⟨_, _, ⟨p, 1, rfl, rfl, by omega⟩, Weak.trimsM 1 (by simp) rfl (by simp [tget, V.lower, lowerL]) (by simp [Blk.lower, V.lower, lowerL])⟩
    · split
      · exact ⟨_, _, ⟨p, 2, rfl, rfl, by omega⟩, Weak.trimsM 1 (by simp) rfl (by simp [tget, V.lower, lowerL]) (by simp [Blk.lower, V.lower, lowerL])⟩
      · exact ⟨_, _, ⟨p, 0, rfl, rfl, by omega⟩, Weak.trimsM 1 (by simp) rfl (by simp [tget, V.lower, lowerL]) (by simp [Blk.lower, V.lower, lowerL])⟩

end

end Go.Proofs.Ythpapgbpmkgfeaa.AM

/- A result in own blocks, as closed data. -/
set_option linter.all false
namespace Go.Proofs.Ythpapgbpmkgfeaa.AM
open Go Go.RowKit

theorem FSpec.cspec {P : Program} {f : Nat} {args : List D} {r : V} {H1 : Heap} {d : D} (h : FSpec P f args r H1) (hx : xport H1 12 r = some d) : CSpec P f args d := by
  refine ⟨h.1, fun S0 w cs hS0 hlen hrel => (h.2 S0 w cs hS0 hlen hrel).mono ?_⟩
  rintro e w' ⟨c, φ1, S1, rfl, hr, hH1, hk⟩
  refine ⟨c, fun B => (S0 B ∨ w.heap.size ≤ B) ∧ B < w'.heap.size, rfl, ?_, fun B hB => hB, hk⟩
  have hv1 : ∀ B, S1 B → S0 B ∨ w.heap.size ≤ B := fun B hB => by
    rcases hH1.vis B hB with h | h | h
    · exact .inl h
    · exact h.elim
    · exact .inr h
  have hv2 : ∀ i L, φ1 i = some L → S0 L.blk ∨ w.heap.size ≤ L.blk := fun i L hL => by
    rcases hH1.own i L hL with h | h
    · exact h.elim
    · exact .inr h
  exact xport_rel hH1 (fun B hB => ⟨hv1 B hB, hH1.low B hB⟩) 12 r c d (fun i _ L hL => ⟨hv2 i L hL, hH1.lt hL⟩) hr hx


end Go.Proofs.Ythpapgbpmkgfeaa.AM

/- Cutting a body: what a part of the code comes to, said of states that are the same but for what is no longer asked. -/
set_option linter.all false
namespace Go.Proofs.Ythpapgbpmkgfeaa.AM
open Go Go.RowKit

section
variable {P : Program} {E : Env} {n m : Nat}

/-- Whoever stands here comes, by this code, to where Q holds. -/
def Snd (P : Program) (E : Env) (n m : Nat) (c : Code) (T : Tmps) (H : Heap) (Q : Ex → Tmps → Heap → Prop) : Prop :=
  ∀ (C : Ctx) (φ : Nat → Option Loc) (S : Nat → Prop) (a : Act) (w : World), Stands C n T H φ S a w → c.wp P (PostQ C n m φ S H w Q) a w

theorem Snd.of_awp (hE : EOk P E) (hmix : P.follows .mixedOrders = true) {c : Code} {T : Tmps} {H : Heap} {Q : Ex → Tmps → Heap → Prop} (h : awp P E n m c T H Q) : Snd P E n m c T H Q :=
  fun C φ S a w hst => awp_sound hE hmix c hst h

theorem Snd.weak {c : Code} {T T' : Tmps} {H H' : Heap} {Q : Ex → Tmps → Heap → Prop} (hw : Weak m T H T' H') (h : Snd P E n m c T' H' Q) : Snd P E n m c T H Q := fun C φ S a w hst => by
  obtain ⟨φ', S', h1, h2, h3⟩ := hw C φ S w a hst.heap hst.tmps
  exact wp_mono (h C φ' S' a w ⟨h1, h2, hst.size, hst.defers⟩) (fun e a' w' hp => hp.from h3 .refl)

/-- Behind the first part. -/
def cutK (P : Program) (E : Env) (n m : Nat) (y : Code) (Q : Ex → Tmps → Heap → Prop) : Ex → Tmps → Heap → Prop := fun e T H => match e with
  | .normal => Snd P E n m y T H Q
  | e => Q e T H
theorem cutK_normal {y : Code} {Q : Ex → Tmps → Heap → Prop} {T : Tmps} {H : Heap} : cutK P E n m y Q .normal T H = Snd P E n m y T H Q := rfl
theorem cutK_ret {y : Code} {Q : Ex → Tmps → Heap → Prop} {T : Tmps} {H : Heap} : cutK P E n m y Q .ret T H = Q .ret T H := rfl
theorem cutK_exit {y : Code} {Q : Ex → Tmps → Heap → Prop} {T : Tmps} {H : Heap} {i : Nat} : cutK P E n m y Q (.exit i) T H = Q (.exit i) T H := rfl

theorem Snd.seq (hE : EOk P E) (hmix : P.follows .mixedOrders = true) {x y : Code} {T : Tmps} {H : Heap} {Q : Ex → Tmps → Heap → Prop} (h : awp P E n m x T H (cutK P E n m y Q)) : Snd P E n m (.seq x y) T H Q := fun C φ S a w hst => by
  refine wp_seq (wp_mono (awp_sound hE hmix x hst h) ?_)
  rintro e a1 w1 ⟨e', T', H', φ', S', hq, rfl, hst', hs', hk'⟩
  cases e' with
  | normal => exact wp_mono (hq C φ' S' a1 w1 hst') (fun e a2 w2 hp => hp.from hs' hk')
  | exit id => exact ⟨.exit id, T', H', φ', S', hq, rfl, hst', hs', hk'⟩
  | ret => exact ⟨.ret, T', H', φ', S', hq, rfl, hst', hs', hk'⟩

/-- The first k parts; the rest. -/
def hdN : Nat → Code → Code
  | k + 1, .seq x y => .seq x (hdN k y)
  | _, _ => .skip
def tlN : Nat → Code → Code
  | k + 1, .seq _ y => tlN k y
  | _, c => c

theorem Snd.upto (hE : EOk P E) (hmix : P.follows .mixedOrders = true) {Q : Ex → Tmps → Heap → Prop} : ∀ (k : Nat) (c : Code) {T : Tmps} {H : Heap}, awp P E n m (hdN k c) T H (cutK P E n m (tlN k c) Q) → Snd P E n m c T H Q
  | 0, c, T, H, h => h
  | k + 1, c, T, H, h => by
    cases c with
    | seq x y =>
      refine Snd.seq hE hmix (awp_mono x (fun e T' H' he => ?_) h)
      cases e with
      | normal => exact Snd.upto hE hmix k y he
      | exit i => exact he
      | ret => exact he
    | _ => exact h

theorem RSpec.of_snd {f : Nat} {fn : Func} {body : Code} {vs : List V} {H0 H1 : Heap} {r : V} (hE : EOk P E) (hmix : P.follows .mixedOrders = true) (hf : P.funcs[f]? = some fn) (hb : fn.body = some body) (hcall : Callable P f) (hn : vs.length ≤ fn.ntmps)
    (h : Snd P E fn.ntmps H0.length body (initV 0 vs) H0 (FinR E H0.length fn.results.toList r H1)) : RSpec P f vs H0 r H1 := by
  refine ⟨hcall, fun C φ S w cs hH hv => ?_⟩
  have hlen := hv.len
  have hsz : (cs.toArray ++ Array.replicate (fn.ntmps - cs.toArray.size) undef).size = fn.ntmps := by simp; omega
  have hst : Stands C fn.ntmps (initV 0 vs) H0 φ S { tmps := cs.toArray ++ Array.replicate (fn.ntmps - cs.toArray.size) undef, defers := [] } w := by
    refine ⟨hH, fun t => ?_, hsz, rfl⟩
    rw [initV_get]
    simp only [Nat.zero_le, if_true, Nat.sub_zero]
    by_cases ht : t < vs.length
    · have hc : t < cs.length := by omega
      rw [List.getElem?_eq_getElem ht]
      have : (cs.toArray ++ Array.replicate (fn.ntmps - cs.toArray.size) undef).getD t undef = cs[t] := by
        simp [Array.getElem?_append, hc]
      rw [this]
      exact hv.at_ t _ _ (List.getElem?_eq_getElem ht) (List.getElem?_eq_getElem hc)
    · rw [List.getElem?_eq_none (by omega)]
      exact .d _ _ (.undef _)
  refine calls_of_wp hf hb (wp_mono (h _ _ _ _ _ hst) ?_)
  rintro e a' w' ⟨e', T', H', φ', S', hq, rfl, hst', hs', hk'⟩
  have fin : (∃ v, resOf E T' H' fn.results.toList = some v ∧ Weak H0.length [(0, v)] H' [(0, r)] H1) → a'.defers = [] ∧ ∃ v, (results fn a'.tmps).run P w' = .ok v w' ∧
      ∃ c φ1 S1, Ending.returned v = .returned c ∧ RV φ1 S1 H1 w' r c ∧ HRel C φ1 S1 H1 w' ∧ Step φ S H0 w φ1 S1 H1 w' ∧ Kp C w w' := by
    rintro ⟨v, hv, hx⟩
    obtain ⟨c, hrun, hc⟩ := resOf_sound hE hst' hv
    obtain ⟨φ1, S1, g1, g2, g3⟩ := hx _ φ' S' w' { tmps := #[c], defers := [] } hst'.heap (fun t => by
      simp only [tget]
      split
      · rename_i e; subst e; exact hc
      · exact .d _ _ (.undef _))
    have hall := hs'.trans g3
    refine ⟨hst'.defers, c, hrun, c, φ1, S1, rfl, ?_, g1, ⟨hall.keepS, fun id hu => hall.keepH id (Classical.byContradiction fun hn => hu (hget_length H0 id (by omega))) hu⟩, hk'⟩
    have := g2 0
    simpa [tget] using this
  cases e' with
  | normal => exact fin hq
  | ret => exact fin hq
  | exit id => exact hq.elim
theorem NSpec.of_snd {f : Nat} {fn : Func} {body : Code} {vs : List V} {H0 : Heap} {Qf : V → Heap → Prop} (hE : EOk P E) (hmix : P.follows .mixedOrders = true) (hf : P.funcs[f]? = some fn) (hb : fn.body = some body) (hcall : Callable P f) (hn : vs.length ≤ fn.ntmps)
    (h : Snd P E fn.ntmps H0.length body (initV 0 vs) H0 (FinN E H0.length fn.results.toList Qf)) : NSpec P f vs H0 Qf := by
  refine ⟨hcall, fun C φ S w cs hH hv => ?_⟩
  have hlen := hv.len
  have hsz : (cs.toArray ++ Array.replicate (fn.ntmps - cs.toArray.size) undef).size = fn.ntmps := by simp; omega
  have hst : Stands C fn.ntmps (initV 0 vs) H0 φ S { tmps := cs.toArray ++ Array.replicate (fn.ntmps - cs.toArray.size) undef, defers := [] } w := by
    refine ⟨hH, fun t => ?_, hsz, rfl⟩
    rw [initV_get]
    simp only [Nat.zero_le, if_true, Nat.sub_zero]
    by_cases ht : t < vs.length
    · have hc : t < cs.length := by omega
      rw [List.getElem?_eq_getElem ht]
      have : (cs.toArray ++ Array.replicate (fn.ntmps - cs.toArray.size) undef).getD t undef = cs[t] := by
        simp [Array.getElem?_append, hc]
      rw [this]
      exact hv.at_ t _ _ (List.getElem?_eq_getElem ht) (List.getElem?_eq_getElem hc)
    · rw [List.getElem?_eq_none (by omega)]
      exact .d _ _ (.undef _)
  refine calls_of_wp hf hb (wp_mono (h _ _ _ _ _ hst) ?_)
  rintro e a' w' ⟨e', T', H', φ', S', hq, rfl, hst', hs', hk'⟩
  obtain ⟨r, H1, hQ, hq⟩ := hq
  have fin : (∃ v, resOf E T' H' fn.results.toList = some v ∧ Weak H0.length [(0, v)] H' [(0, r)] H1) → a'.defers = [] ∧ ∃ v, (results fn a'.tmps).run P w' = .ok v w' ∧
      ∃ r H1, Qf r H1 ∧ ∃ c φ1 S1, Ending.returned v = .returned c ∧ RV φ1 S1 H1 w' r c ∧ HRel C φ1 S1 H1 w' ∧ Step φ S H0 w φ1 S1 H1 w' ∧ Kp C w w' := by
    rintro ⟨v, hv, hx⟩
    obtain ⟨c, hrun, hc⟩ := resOf_sound hE hst' hv
    obtain ⟨φ1, S1, g1, g2, g3⟩ := hx _ φ' S' w' { tmps := #[c], defers := [] } hst'.heap (fun t => by
      simp only [tget]
      split
      · rename_i e; subst e; exact hc
      · exact .d _ _ (.undef _))
    have hall := hs'.trans g3
    refine ⟨hst'.defers, c, hrun, r, H1, hQ, c, φ1, S1, rfl, ?_, g1, ⟨hall.keepS, fun id hu => hall.keepH id (Classical.byContradiction fun hn => hu (hget_length H0 id (by omega))) hu⟩, hk'⟩
    have := g2 0
    simpa [tget] using this
  cases e' with
  | normal => exact fin hq
  | ret => exact fin hq
  | exit id => exact hq.elim
end

end Go.Proofs.Ythpapgbpmkgfeaa.AM
