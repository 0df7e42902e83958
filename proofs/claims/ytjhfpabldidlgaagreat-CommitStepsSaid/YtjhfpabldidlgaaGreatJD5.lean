/- The texts Cg, An, Da, Db, Dc, Gj, Gl, As, Fu, Ah, Aj, At, De, Fv, Go, Df, Ai, Ag, Ak, Al, Au, Av, Aw, Tl, Ap, Aq, Ar, Ax, Dg, Dh, Ba, Di, Am35, Dj, Dk, Dl, Dm, Dn, Do, Rm, Rp, joined. -/
import Derived.Test.YtjhfpabldidlgaaGreatJD4

set_option linter.all false
set_option maxRecDepth 100000
set_option maxHeartbeats 8000000
namespace Go.Proofs.YtjhfpabldidlgaaGreat.AM
open Go Go.RowKit

def dropC (c : Cm) (w : Wl) : Cm × Wl := if (!mayW w || decide (5 ≤ c.phase)) = true then (c, w) else if c.phase ≤ 2 then goneC c w 8 else (allC c w).1

theorem c_commit_Drop (c : Cm) (w : Wl) (ho : CmOk c) : CSpec Tryz.prog 39 [dCm c, dWl w] (.tuple [dCm (dropC c w).1, dWl (dropC c w).2]) := by
  have hr := c_commit_Right w
  have hY : dropC c w = if (!mayW w || decide (5 ≤ c.phase)) = true then (c, w) else if c.phase ≤ 2 then goneC c w 8 else (allC c w).1 := rfl
  generalize dropC c w = y at hY ⊢
  refine CSpec.of_awp envOf_ok hmix Tryz.func39 rfl (fun args w => Tryz.call39 args w) (by simp [Tryz.f39]) ?_
  simp only [Tryz.f39]
  simp (maxSteps := 2000000) -implicitDefEqProofs only [zz, zE, evop, ev, tget, V.isUndef, initT, V.cells, ↓reduceIte]
  unfold dCm cmC dWl
  unfold dWl at hr
  simp (maxSteps := 2000000) -implicitDefEqProofs only [zz, zE, evop, ev, tget, tput, ok, V.isUndef, Ch.on, calleeOf, withArgs, hget, hput, V.cells, ↓reduceIte, reduceCtorEq, Nat.reduceLT, Nat.reduceEqDiff, Nat.reduceAdd, Nat.reduceLeDiff]
  refine acall_flat' (hr) rfl ?_
  try simp (maxSteps := 2000000) -implicitDefEqProofs only [zz, zE, evop, ev, ofVal, tget, tput, ok, V.isUndef, intBin, guardOf, Ch.on, calleeOf, withArgs, told, hget, structAt, Blk.width, ↓reduceIte, reduceCtorEq, Nat.reduceLT, Nat.reduceEqDiff, Nat.reduceAdd, Nat.reduceLeDiff, nilTest]
  have fin : (!mayW w || decide (5 ≤ c.phase)) = true → y = (c, w) := fun h => by rw [hY, if_pos h]
  cases h0 : mayW w with
  | false =>
    obtain rfl := fin (by simp [h0])
    simp (maxSteps := 2000000) -implicitDefEqProofs only [zz, ↓reduceIte]
    refine wdraw_weak (Weak.sealed (T' := [(2, .d (.imm (dCm c) 0)), (3, .d (.imm (dWl w) 0)), (4, .ptr 2 0 0), (5, .ptr 3 0 0)]) [0, 1] (by simp [tget, sealF, xport, xports, tids, tidss, hget, dCm, cmC, dWl])) [⟨[], false, [19], [], false⟩, ⟨[], false, [18, 19], [0], true⟩, ⟨[0], true, [19], [], false⟩, ⟨[0, 1, 2], true, [], [], false⟩] (by decide) ?_
    simp only [sealH, AM.freeze, hput, hget, Blk.ice, List.map_cons, List.map_nil, sealB, sealF, List.mem_cons, dCm, cmC, dWl]
    simp (maxSteps := 2000000) -implicitDefEqProofs only [zz, zE, evop, ev, tget, tput, ok, Ch.on, xport, xports, hget, hput, V.cells, D.cells, V.one, loadD, splice, resOf, resV, resVs, ↓reduceIte, Nat.reduceLT, Nat.reduceEqDiff, Nat.reduceAdd, Nat.reduceLeDiff]
  | true =>
  have hm2 := h0
  simp only [mayW, Bool.and_eq_true, decide_eq_true_eq] at hm2
  have htl := tableR_len hm2.1.1.2
  by_cases p5 : c.phase ≥ 5
  · obtain rfl := fin (by simp [p5])
    simp (maxSteps := 2000000) -implicitDefEqProofs only [zz, ↓reduceIte, p5]
    refine wdraw_weak (Weak.sealed (T' := [(2, .d (.imm (dCm c) 0)), (3, .d (.imm (dWl w) 0)), (4, .ptr 2 0 0), (5, .ptr 3 0 0)]) [0, 1] (by simp [tget, sealF, xport, xports, tids, tidss, hget, dCm, cmC, dWl])) [⟨[], false, [19], [], false⟩, ⟨[], false, [18, 19], [0], true⟩, ⟨[0], true, [19], [], false⟩, ⟨[0, 1, 2], true, [], [], false⟩] (by decide) ?_
    simp only [sealH, AM.freeze, hput, hget, Blk.ice, List.map_cons, List.map_nil, sealB, sealF, List.mem_cons, dCm, cmC, dWl]
    simp (maxSteps := 2000000) -implicitDefEqProofs only [zz, zE, evop, ev, tget, tput, ok, Ch.on, xport, xports, hget, hput, V.cells, D.cells, V.one, loadD, splice, resOf, resV, resVs, ↓reduceIte, Nat.reduceLT, Nat.reduceEqDiff, Nat.reduceAdd, Nat.reduceLeDiff]
  rw [if_neg (by simp [h0]; omega)] at hY
  by_cases p2 : c.phase ≤ 2
  · rw [if_pos p2] at hY
    have hg := c_gone c w 8 (by omega)
    rw [← hY] at hg
    unfold dCm cmC dWl at hg
    simp (maxSteps := 2000000) -implicitDefEqProofs only [zz, ↓reduceIte, p5, p2]
    refine acall_ice' (hg) ?_
    try simp (maxSteps := 2000000) -implicitDefEqProofs only [zz, zE, evop, ev, tget, tput, ok, Ch.on, xport, xports, tids, tidss, hget, hput, freeze, V.cells, V.one, splice, resOf, resV, resVs, ↓reduceIte, Nat.reduceLT, Nat.reduceEqDiff, Nat.reduceAdd, Nat.reduceLeDiff]
  · rw [if_neg p2] at hY
    have hg := c_commit_All c w ho
    rw [← hY] at hg
    generalize (allC c w).2 = er at hg
    unfold dCm cmC dWl at hg
    simp (maxSteps := 2000000) -implicitDefEqProofs only [zz, ↓reduceIte, p5, p2]
    refine acall_ice' (hg) ?_
    try simp (maxSteps := 2000000) -implicitDefEqProofs only [zz, zE, evop, ev, tget, tput, ok, V.isUndef, Ch.on, tids, tidss, hget, hput, freeze, V.cells, V.one, splice, ↓reduceIte, Nat.reduceLT, Nat.reduceEqDiff, Nat.reduceAdd, Nat.reduceLeDiff]
    trace_state
    refine wdraw_weak (Weak.sealed (T' := [(6, .d (.imm (dCm y.1) 0)), (7, .d (.imm (dWl y.2) 0)), (4, .ptr 2 0 0), (5, .ptr 3 0 0)]) [4, 5] (by simp [tget, sealF, xport, xports, tids, tidss, hget, dCm, cmC, dWl])) [⟨[], false, [37], [], false⟩, ⟨[], false, [36, 37], [0], true⟩, ⟨[0], true, [37], [], false⟩, ⟨[0, 1, 2], true, [], [], false⟩] (by decide) ?_
    simp only [sealH, AM.freeze, hput, hget, Blk.ice, List.map_cons, List.map_nil, sealB, sealF, List.mem_cons, dCm, cmC, dWl]
    simp (maxSteps := 2000000) -implicitDefEqProofs only [zz, zE, evop, ev, tget, tput, ok, Ch.on, xport, xports, hget, hput, V.cells, D.cells, V.one, loadD, splice, resOf, resV, resVs, ↓reduceIte, Nat.reduceLT, Nat.reduceEqDiff, Nat.reduceAdd, Nat.reduceLeDiff]
end Go.Proofs.YtjhfpabldidlgaaGreat.AM

set_option linter.all false
set_option maxRecDepth 100000
set_option maxHeartbeats 4000000
namespace Go.Proofs.YtjhfpabldidlgaaGreat.AM
open Go Go.RowKit

theorem c_r03_Numbers (a b : List Int) (ha : a.length ≤ 1000000) (hb : b.length ≤ 1000000) : CSpec Tryz.prog 49 [.vec (a.map dI), .vec (b.map dI)] (.bool (decide (a = b))) := by
  refine CSpec.of_awp envOf_ok hmix Tryz.func49 rfl (fun args w => Tryz.call49 args w) (by simp [Tryz.f49]) ?_
  simp only [Tryz.f49]
  simp (maxSteps := 2000000) -implicitDefEqProofs only [zz, zE, evop, ev, ofVal, tget, tput, ok, V.isUndef, intBin, initT, Ch.on, told, xport, sliceOf, lenOf, resOf, resV, resVs, ↓reduceIte, reduceCtorEq, Nat.reduceLT, Nat.reduceEqDiff, nilTest]
  by_cases hlen : a.length = b.length
  case neg =>
    have e : ((a.length : Int) != (b.length : Int)) = true := by simp; omega
    have : a ≠ b := fun e => hlen (by rw [e])
    simp (maxSteps := 2000000) -implicitDefEqProofs only [↓reduceIte, e]
    simp [this]
  have e : ((a.length : Int) != (b.length : Int)) = false := by simp; omega
  simp (maxSteps := 2000000) -implicitDefEqProofs only [zz, ↓reduceIte, e]
  refine wloop_ind (σ := Nat) (fun i => a.length - i) (fun i => [(5, .d (.int .i64 i)), (0, .d (.vec (a.map dI))), (1, .d (.vec (b.map dI)))]) (fun _ => []) (fun i => i ≤ a.length ∧ ∀ j < i, a[j]? = b[j]?) 0 ⟨Nat.zero_le _, fun j hj => by omega⟩ (Weak.sub (by simp [tget])) ?_
  rintro i ⟨hi, hI⟩
  rcases Nat.lt_or_ge i a.length with hlt | hge
  · have hx : a[i]? = some a[i] := List.getElem?_eq_getElem hlt
    have hy : b[i]? = some b[i] := List.getElem?_eq_getElem (by omega)
    have h' : ((i : Int) < (a.length : Int)) := by omega
    have hw : IntKind.i64.wrap ((i : Int) + 1) = ((i + 1 : Nat) : Int) := by rw [wrap_in (by omega)]; omega
    simp (maxSteps := 2000000) -implicitDefEqProofs only [zz, zE, evop, ev, tget, tput, ok, V.isUndef, intBin, Ch.on, told, sliceOf, lenOf, ↓reduceIte, reduceCtorEq, Nat.reduceLT, Nat.reduceEqDiff, nilTest, h']
    refine wdraw_plan [⟨[], false, [18, 21, 22, 23, 24], [], false⟩, ⟨[], false, [17, 21, 22, 23, 24], [0], false⟩, ⟨[0, 1], false, [21, 22, 23, 24], [], false⟩, ⟨[0, 1, 2], false, [21, 22, 23, 24], [], false⟩, ⟨[], false, [17, 18, 19, 20, 22], [0, 1, 2, 3], false⟩, ⟨[], false, [17, 18, 19, 20, 21], [0, 1, 2, 3, 4], false⟩, ⟨[4, 5], false, [17, 18, 19, 20], [0, 1, 2, 3], false⟩, ⟨[4, 5, 6], false, [17, 18, 19, 20], [0, 1, 2, 3], false⟩, ⟨[0, 1, 2, 3, 4, 5, 6, 7], true, [], [], false⟩] (by decide) ?_
    simp (maxSteps := 2000000) -implicitDefEqProofs only [zz, zE, evop, ev, ofVal, tget, tput, ok, V.isUndef, intBin, Ch.on, told, xport, hput, V.cells, D.cells, V.isAgg, loadD, Blk.width, resOf, resV, resVs, ↓reduceIte, reduceCtorEq, Nat.reduceLT, Nat.reduceEqDiff, Nat.reduceAdd, Nat.reduceLeDiff, nilTest, dI, List.getElem?_map, hx, hy, Option.map_some, Int.natCast_nonneg]
    split
    · rename_i hne
      have : a ≠ b := fun e => by subst e; simp at hne
      simp [this]
    · rename_i heq
      have heq' : a[i] = b[i] := by
        simp at heq
        exact heq
      refine ⟨i + 1, ⟨hlt, fun j hj => ?_⟩, by omega, Weak.trims 0 rfl (by simp [tget, hw, V.lower]) (by simp)⟩
      by_cases e : j = i
      · subst e; rw [hx, hy, heq']
      · exact hI j (by omega)
  · have h' : ¬ ((i : Int) < (a.length : Int)) := by omega
    simp (maxSteps := 2000000) -implicitDefEqProofs only [zz, zE, evop, ev, ofVal, tget, tput, ok, V.isUndef, intBin, Ch.on, told, xport, sliceOf, lenOf, resOf, resV, resVs, ↓reduceIte, reduceCtorEq, Nat.reduceLT, Nat.reduceEqDiff, nilTest, h']
    have : a = b := List.ext_getElem? (fun j => by
      rcases Nat.lt_or_ge j a.length with h | h
      · exact hI j (by omega)
      · rw [List.getElem?_eq_none h, List.getElem?_eq_none (by omega)])
    simp [this]
theorem c_r05_Same (a b : List Rd) (ha : a.length ≤ 1000000) (hb : b.length ≤ 1000000) : CSpec Tryz.prog 59 [.vec (a.map dRd), .vec (b.map dRd)] (.bool (decide (a = b))) := by
  refine CSpec.of_awp envOf_ok hmix Tryz.func59 rfl (fun args w => Tryz.call59 args w) (by simp [Tryz.f59]) ?_
  simp only [Tryz.f59]
  simp (maxSteps := 2000000) -implicitDefEqProofs only [zz, zE, evop, ev, ofVal, tget, tput, ok, V.isUndef, intBin, initT, Ch.on, told, xport, sliceOf, lenOf, resOf, resV, resVs, ↓reduceIte, reduceCtorEq, Nat.reduceLT, Nat.reduceEqDiff, nilTest]
  by_cases hlen : a.length = b.length
  case neg =>
    have e : ((a.length : Int) != (b.length : Int)) = true := by simp; omega
    have : a ≠ b := fun e => hlen (by rw [e])
    simp (maxSteps := 2000000) -implicitDefEqProofs only [↓reduceIte, e]
    simp [this]
  have e : ((a.length : Int) != (b.length : Int)) = false := by simp; omega
  simp (maxSteps := 2000000) -implicitDefEqProofs only [zz, ↓reduceIte, e]
  refine wloop_ind (σ := Nat) (fun i => a.length - i) (fun i => [(5, .d (.int .i64 i)), (0, .d (.vec (a.map dRd))), (1, .d (.vec (b.map dRd)))]) (fun _ => []) (fun i => i ≤ a.length ∧ ∀ j < i, a[j]? = b[j]?) 0 ⟨Nat.zero_le _, fun j hj => by omega⟩ (Weak.sub (by simp [tget])) ?_
  rintro i ⟨hi, hI⟩
  rcases Nat.lt_or_ge i a.length with hlt | hge
  · have hx : a[i]? = some a[i] := List.getElem?_eq_getElem hlt
    have hy : b[i]? = some b[i] := List.getElem?_eq_getElem (by omega)
    have h' : ((i : Int) < (a.length : Int)) := by omega
    have hw : IntKind.i64.wrap ((i : Int) + 1) = ((i + 1 : Nat) : Int) := by rw [wrap_in (by omega)]; omega
    simp (maxSteps := 2000000) -implicitDefEqProofs only [zz, zE, evop, ev, tget, tput, ok, V.isUndef, intBin, Ch.on, told, sliceOf, lenOf, ↓reduceIte, reduceCtorEq, Nat.reduceLT, Nat.reduceEqDiff, nilTest, h']
    refine wdraw_plan [⟨[], false, [18, 21, 22, 23, 24], [], false⟩, ⟨[], false, [17, 21, 22, 23, 24], [0], false⟩, ⟨[0, 1], false, [21, 22, 23, 24], [], false⟩, ⟨[0, 1, 2], false, [21, 22, 23, 24], [], false⟩, ⟨[], false, [17, 18, 19, 20, 22], [0, 1, 2, 3], false⟩, ⟨[], false, [17, 18, 19, 20, 21], [0, 1, 2, 3, 4], false⟩, ⟨[4, 5], false, [17, 18, 19, 20], [0, 1, 2, 3], false⟩, ⟨[4, 5, 6], false, [17, 18, 19, 20], [0, 1, 2, 3], false⟩, ⟨[0, 1, 2, 3, 4, 5, 6, 7], true, [], [], false⟩] (by decide) ?_
    simp (maxSteps := 2000000) -implicitDefEqProofs only [zz, zE, evop, ev, ofVal, tget, tput, ok, V.isUndef, intBin, Ch.on, told, xport, hput, V.cells, D.cells, V.isAgg, V.clo, clos, loadD, eqCells, D.scalarEq, Blk.width, resOf, resV, resVs, ↓reduceIte, reduceCtorEq, Nat.reduceLT, Nat.reduceEqDiff, Nat.reduceAdd, Nat.reduceLeDiff, nilTest, dRd, List.getElem?_map, hx, hy, Option.map_some, Int.natCast_nonneg]
    split
    · rename_i hne
      have : a ≠ b := fun e => by subst e; simp at hne
      simp [this]
    · rename_i heq
      have heq' : a[i] = b[i] := by
        simp at heq
        exact Prod.ext heq.1 (Prod.ext heq.2.1 heq.2.2)
      refine ⟨i + 1, ⟨hlt, fun j hj => ?_⟩, by omega, Weak.trims 0 rfl (by simp [tget, hw, V.lower]) (by simp)⟩
      by_cases e : j = i
      · subst e; rw [hx, hy, heq']
      · exact hI j (by omega)
  · have h' : ¬ ((i : Int) < (a.length : Int)) := by omega
    simp (maxSteps := 2000000) -implicitDefEqProofs only [zz, zE, evop, ev, ofVal, tget, tput, ok, V.isUndef, intBin, Ch.on, told, xport, sliceOf, lenOf, resOf, resV, resVs, ↓reduceIte, reduceCtorEq, Nat.reduceLT, Nat.reduceEqDiff, nilTest, h']
    have : a = b := List.ext_getElem? (fun j => by
      rcases Nat.lt_or_ge j a.length with h | h
      · exact hI j (by omega)
      · rw [List.getElem?_eq_none h, List.getElem?_eq_none (by omega)])
    simp [this]

end Go.Proofs.YtjhfpabldidlgaaGreat.AM

set_option linter.all false
set_option maxRecDepth 100000
set_option maxHeartbeats 8000000
namespace Go.Proofs.YtjhfpabldidlgaaGreat.AM
open Go Go.RowKit

theorem c_r03_Same (a b : List (Int × Int)) (ha : a.length ≤ 1000000) (hb : b.length ≤ 1000000) : CSpec Tryz.prog 44 [.vec (a.map dW), .vec (b.map dW)] (.bool (decide (a = b))) := by
  refine CSpec.of_awp envOf_ok hmix Tryz.func44 rfl (fun args w => Tryz.call44 args w) (by simp [Tryz.f44]) ?_
  simp only [Tryz.f44]
  simp (maxSteps := 2000000) -implicitDefEqProofs only [zz, zE, evop, ev, ofVal, tget, tput, ok, V.isUndef, intBin, initT, Ch.on, told, xport, sliceOf, lenOf, resOf, resV, resVs, ↓reduceIte, reduceCtorEq, Nat.reduceLT, Nat.reduceEqDiff, nilTest]
  by_cases hlen : a.length = b.length
  case neg =>
    have e : ((a.length : Int) != (b.length : Int)) = true := by simp; omega
    have : a ≠ b := fun e => hlen (by rw [e])
    simp (maxSteps := 2000000) -implicitDefEqProofs only [↓reduceIte, e]
    simp [this]
  have e : ((a.length : Int) != (b.length : Int)) = false := by simp; omega
  simp (maxSteps := 2000000) -implicitDefEqProofs only [zz, ↓reduceIte, e]
  refine wloop_ind (σ := Nat) (fun i => a.length - i) (fun i => [(5, .d (.int .i64 i)), (0, .d (.vec (a.map dW))), (1, .d (.vec (b.map dW)))]) (fun _ => []) (fun i => i ≤ a.length ∧ ∀ j < i, a[j]? = b[j]?) 0 ⟨Nat.zero_le _, fun j hj => by omega⟩ (Weak.sub (by simp [tget])) ?_
  rintro i ⟨hi, hI⟩
  rcases Nat.lt_or_ge i a.length with hlt | hge
  · have hx : a[i]? = some a[i] := List.getElem?_eq_getElem hlt
    have hy : b[i]? = some b[i] := List.getElem?_eq_getElem (by omega)
    have h' : ((i : Int) < (a.length : Int)) := by omega
    have hw : IntKind.i64.wrap ((i : Int) + 1) = ((i + 1 : Nat) : Int) := by rw [wrap_in (by omega)]; omega
    simp (maxSteps := 2000000) -implicitDefEqProofs only [zz, zE, evop, ev, tget, tput, ok, V.isUndef, intBin, Ch.on, told, sliceOf, lenOf, ↓reduceIte, reduceCtorEq, Nat.reduceLT, Nat.reduceEqDiff, nilTest, h']
    refine wdraw_plan [⟨[], false, [18, 21, 22, 23, 24], [], false⟩, ⟨[], false, [17, 21, 22, 23, 24], [0], false⟩, ⟨[0, 1], false, [21, 22, 23, 24], [], false⟩, ⟨[0, 1, 2], false, [21, 22, 23, 24], [], false⟩, ⟨[], false, [17, 18, 19, 20, 22], [0, 1, 2, 3], false⟩, ⟨[], false, [17, 18, 19, 20, 21], [0, 1, 2, 3, 4], false⟩, ⟨[4, 5], false, [17, 18, 19, 20], [0, 1, 2, 3], false⟩, ⟨[4, 5, 6], false, [17, 18, 19, 20], [0, 1, 2, 3], false⟩, ⟨[0, 1, 2, 3, 4, 5, 6, 7], true, [], [], false⟩] (by decide) ?_
    simp (maxSteps := 2000000) -implicitDefEqProofs only [zz, zE, evop, ev, ofVal, tget, tput, ok, V.isUndef, intBin, Ch.on, told, xport, hput, V.cells, D.cells, V.isAgg, V.clo, clos, loadD, eqCells, D.scalarEq, Blk.width, resOf, resV, resVs, ↓reduceIte, reduceCtorEq, Nat.reduceLT, Nat.reduceEqDiff, Nat.reduceAdd, Nat.reduceLeDiff, nilTest, dW, List.getElem?_map, hx, hy, Option.map_some, Int.natCast_nonneg]
    split
    · rename_i hne
      have : a ≠ b := fun e => by subst e; simp at hne
      simp [this]
    · rename_i heq
      have heq' : a[i] = b[i] := by
        simp at heq
        exact Prod.ext heq.1 heq.2
      refine ⟨i + 1, ⟨hlt, fun j hj => ?_⟩, by omega, Weak.trims 0 rfl (by simp [tget, hw, V.lower]) (by simp)⟩
      by_cases e : j = i
      · subst e; rw [hx, hy, heq']
      · exact hI j (by omega)
  · have h' : ¬ ((i : Int) < (a.length : Int)) := by omega
    simp (maxSteps := 2000000) -implicitDefEqProofs only [zz, zE, evop, ev, ofVal, tget, tput, ok, V.isUndef, intBin, Ch.on, told, xport, sliceOf, lenOf, resOf, resV, resVs, ↓reduceIte, reduceCtorEq, Nat.reduceLT, Nat.reduceEqDiff, nilTest, h']
    have : a = b := List.ext_getElem? (fun j => by
      rcases Nat.lt_or_ge j a.length with h | h
      · exact hI j (by omega)
      · rw [List.getElem?_eq_none h, List.getElem?_eq_none (by omega)])
    simp [this]

end Go.Proofs.YtjhfpabldidlgaaGreat.AM

set_option linter.all false
set_option maxRecDepth 100000
set_option maxHeartbeats 8000000
namespace Go.Proofs.YtjhfpabldidlgaaGreat.AM
open Go Go.RowKit

theorem whoB_0 {who : Int} (h : whoB who = true) : 1 ≤ who ∧ who ≤ 8 := by simpa [whoB] using h
theorem rec_ok {t : List (Int × Int)} (h : tableR t = true) {i : Int} (h0 : 0 ≤ i) (h1 : i < t.length) : 0 ≤ (recAt t i).1 ∧ (recAt t i).1 ≤ 2147483647 ∧ 0 ≤ (recAt t i).2 ∧ (recAt t i).2 ≤ 8 := by
  have hg := recAt_int h0 h1
  have hm : recAt t i ∈ t := List.mem_of_getElem? hg
  simp only [tableR, Bool.and_eq_true, Bool.not_eq_true', List.any_eq_false] at h
  have := h.2 _ hm
  simp [wrongR] at this
  omega

end Go.Proofs.YtjhfpabldidlgaaGreat.AM

set_option linter.all false
set_option maxRecDepth 100000
set_option maxHeartbeats 8000000
namespace Go.Proofs.YtjhfpabldidlgaaGreat.AM
open Go Go.RowKit

theorem setH_live (o : List (Bool × Int)) (w : Int × Int) : (setH o w).map (fun x => x.1) = o.map (fun x => x.1) := by
  refine List.ext_getElem? (fun k => ?_)
  unfold setH
  rw [List.getElem?_map, List.getElem?_map]
  rcases Nat.lt_or_ge k o.length with h | h
  · by_cases e : w.1.toNat = k
    · subst e
      rw [List.getElem?_set_self h, List.getElem?_eq_getElem h]; rfl
    · rw [List.getElem?_set_ne e]
  · rw [List.getElem?_eq_none (by rw [List.length_set]; exact h), List.getElem?_eq_none h]
theorem putsH_live (h : List (Bool × Int)) (ws : List (Int × Int)) : (putsH h ws).map (fun x => x.1) = h.map (fun x => x.1) := by
  unfold putsH
  induction ws generalizing h with
  | nil => rfl
  | cons w r ih => rw [List.foldl_cons, ih, setH_live]

end Go.Proofs.YtjhfpabldidlgaaGreat.AM

set_option linter.all false
set_option maxRecDepth 100000
set_option maxHeartbeats 4000000
namespace Go.Proofs.YtjhfpabldidlgaaGreat.AM
open Go Go.RowKit

theorem logR_nonneg {L : Lg} (h : logR L = true) : ∀ w ∈ L.1, 0 ≤ w.1 := by
  simp only [logR, Bool.and_eq_true, decide_eq_true_eq, Bool.not_eq_eq_eq_not, Bool.not_true, List.any_eq_false] at h
  intro w hw
  have := h.1.1.2 w hw
  simp [wrongW] at this
  omega

def ltW (x y : Int × Int) : Bool := decide (cmpI x.1 y.1 < 0)
def qW (a b : Int × Int) : Bool := a.1 == b.1
def pW (c : Int) (p : Int × Int) : Bool := p.1 == c
theorem ltW_eq (x y : Int × Int) : ltW x y = decide (x.1 < y.1) := by simp [ltW, cmpI_lt]
theorem ltW_nt (x y z : Int × Int) (h1 : ltW x y = false) (h2 : ltW y z = false) : ltW x z = false := by
  rw [ltW_eq, decide_eq_false_iff_not] at *; omega
theorem ltW_as (x y : Int × Int) (h : ltW x y = true) : ltW y x = false := by
  rw [ltW_eq] at *; simp at *; omega
theorem lastW_eq (ws : List (Int × Int)) : lastW ws = cmpct qW (isort ltW ws.reverse) := rfl

theorem or_assoc' {α : Type} (a b c : Option α) : (a.or b).or c = a.or (b.or c) := by cases a <;> rfl

theorem find_insR (c : Int) (x : Int × Int) {A : List (Int × Int)} (h : PW ltW A) : (insR ltW x A).find? (pW c) = (A.find? (pW c)).or (if pW c x = true then some x else none) := by
  obtain ⟨l1, l2, rfl, g1, g2⟩ := cut_at ltW_nt h x
  rw [insR_cut g1 g2, List.find?_append, List.find?_append, List.find?_cons]
  cases hp : pW c x with
  | true =>
    have : l2.find? (pW c) = none := by
      rw [List.find?_eq_none]
      intro y hy
      have := g2 y hy
      rw [ltW_eq] at this
      simp only [pW, beq_iff_eq] at *
      simp at this
      omega
    rw [this]; simp
  | false => simp

theorem find_isort (c : Int) (l : List (Int × Int)) : (isort ltW l).find? (pW c) = l.find? (pW c) := by
  have : ∀ (l A : List (Int × Int)), PW ltW A → (l.foldl (fun A x => insR ltW x A) A).find? (pW c) = (A.find? (pW c)).or (l.find? (pW c)) := by
    intro l
    induction l with
    | nil => intro A _; simp
    | cons x r ih =>
      intro A h
      rw [List.foldl_cons, ih _ (insR_pw ltW_nt ltW_as h x), find_insR c x h, or_assoc', List.find?_cons]
      congr 1
      cases pW c x <;> rfl
  have h := this l [] List.Pairwise.nil
  simpa [isort] using h

theorem find_cmpctGo (c : Int) : ∀ (r : List (Int × Int)) (y : Int × Int), pW c y = false → (cmpctGo qW y r).find? (pW c) = r.find? (pW c)
  | [], y, _ => rfl
  | z :: r, y, h => by
    simp only [cmpctGo]
    cases hq : qW z y with
    | true =>
      have hz : pW c z = false := by simp only [qW, pW, beq_iff_eq, beq_eq_false_iff_ne] at *; omega
      rw [cond_true, find_cmpctGo c r z hz, List.find?_cons, hz]
    | false =>
      rw [cond_false, List.find?_cons, List.find?_cons]
      cases hz : pW c z with
      | true => rfl
      | false => exact find_cmpctGo c r z hz

theorem find_cmpct (c : Int) (l : List (Int × Int)) : (cmpct qW l).find? (pW c) = l.find? (pW c) := by
  cases l with
  | nil => rfl
  | cons x r =>
    simp only [cmpct, List.find?_cons]
    cases hx : pW c x with
    | true => rfl
    | false => exact find_cmpctGo c r x hx

theorem find_lastW (c : Int) (ws : List (Int × Int)) : (lastW ws).find? (pW c) = ws.reverse.find? (pW c) := by
  rw [lastW_eq, find_cmpct, find_isort]

def UpW (l : List (Int × Int)) : Prop := l.Pairwise (fun x y => x.1 < y.1)

theorem up_cmpctGo : ∀ (r : List (Int × Int)) (y : Int × Int), PW ltW (y :: r) → UpW (y :: cmpctGo qW y r)
  | [], y, _ => by simp [cmpctGo, UpW]
  | z :: r, y, h => by
    obtain ⟨h1, h2⟩ := List.pairwise_cons.1 h
    have hyz := h1 z (by simp)
    rw [ltW_eq, decide_eq_false_iff_not] at hyz
    have ih := up_cmpctGo r z h2
    obtain ⟨i1, i2⟩ := List.pairwise_cons.1 ih
    simp only [cmpctGo]
    cases hq : qW z y with
    | true =>
      simp only [qW, beq_iff_eq] at hq
      exact List.pairwise_cons.2 ⟨fun a ha => by have := i1 a ha; omega, i2⟩
    | false =>
      simp only [qW, beq_eq_false_iff_ne, ne_eq] at hq
      refine List.pairwise_cons.2 ⟨fun a ha => ?_, ih⟩
      rcases List.mem_cons.1 ha with rfl | ha
      · omega
      · have := i1 a ha; omega

theorem up_lastW (ws : List (Int × Int)) : UpW (lastW ws) := by
  rw [lastW_eq]
  have h := isort_pw ltW_nt ltW_as ws.reverse
  cases e : isort ltW ws.reverse with
  | nil => exact List.Pairwise.nil
  | cons x r => rw [e] at h; exact up_cmpctGo r x h

theorem lastW_cell {ws : List (Int × Int)} {w : Int × Int} (h : w ∈ ws) : ∃ p ∈ lastW ws, p.1 = w.1 := by
  have hf := find_lastW w.1 ws
  cases e : (lastW ws).find? (pW w.1) with
  | some p =>
    refine ⟨p, List.mem_of_find?_eq_some e, ?_⟩
    have := List.find?_some e
    simpa [pW] using this
  | none =>
    rw [e] at hf
    have := List.find?_eq_none.1 hf.symm w (by simpa using h)
    simp [pW] at this

theorem lastW_get {ws : List (Int × Int)} {p : Int × Int} (h : p ∈ lastW ws) : getW ws p.1 = (p.2, true) ∧ ∃ w ∈ ws, w.1 = p.1 := by
  have hf := find_lastW p.1 ws
  cases e : (lastW ws).find? (pW p.1) with
  | none =>
    have := List.find?_eq_none.1 e p h
    simp [pW] at this
  | some q =>
    have hq := List.mem_of_find?_eq_some e
    have hq1 : q.1 = p.1 := by have := List.find?_some e; simpa [pW] using this
    have hqp : q = p := by
      obtain ⟨i, hi, rfl⟩ := List.getElem_of_mem hq
      obtain ⟨j, hj, rfl⟩ := List.getElem_of_mem h
      have hu := List.pairwise_iff_getElem.1 (up_lastW ws)
      rcases Nat.lt_trichotomy i j with g | g | g
      · have := hu i j hi hj g; omega
      · subst g; rfl
      · have := hu j i hj hi g; omega
    subst hqp
    rw [e] at hf
    constructor
    · unfold getW
      have hf' : ws.reverse.find? (fun p => p.1 == q.1) = some q := hf.symm
      rw [hf']
    · exact ⟨q, by have := List.mem_of_find?_eq_some hf.symm; simpa using this, rfl⟩

end Go.Proofs.YtjhfpabldidlgaaGreat.AM

set_option linter.all false
set_option maxRecDepth 100000
set_option maxHeartbeats 4000000
namespace Go.Proofs.YtjhfpabldidlgaaGreat.AM
open Go Go.RowKit

end Go.Proofs.YtjhfpabldidlgaaGreat.AM

set_option linter.all false
set_option maxRecDepth 100000
set_option maxHeartbeats 8000000
namespace Go.Proofs.YtjhfpabldidlgaaGreat.AM
open Go Go.RowKit

end Go.Proofs.YtjhfpabldidlgaaGreat.AM

set_option linter.all false
set_option maxRecDepth 100000
set_option maxHeartbeats 4000000
namespace Go.Proofs.YtjhfpabldidlgaaGreat.AM
open Go Go.RowKit

theorem c_Same (a b : Lg) (ha1 : a.1.length ≤ 1000000) (ha2 : a.2.length ≤ 1000000) (hb1 : b.1.length ≤ 1000000) (hb2 : b.2.length ≤ 1000000) : CSpec Tryz.prog 60 [dLg a, dLg b] (.bool (decide (a = b))) := by
  refine CSpec.of_awp envOf_ok hmix Tryz.func60 rfl (fun args w => Tryz.call60 args w) (by simp [Tryz.f60]) ?_
  simp only [Tryz.f60]
  simp (maxSteps := 2000000) -implicitDefEqProofs only [zz, zE, evop, ev, ofVal, tget, tput, ok, V.isUndef, initT, Ch.on, calleeOf, withArgs, hget, hput, V.cells, structAt, Blk.width, ↓reduceIte, reduceCtorEq, Nat.reduceLT, Nat.reduceEqDiff, Nat.reduceAdd, dLg]
  refine acall_flat' (c_r06_List a.1 b.1 ha1 hb1) rfl ?_
  try simp (maxSteps := 2000000) -implicitDefEqProofs only [zz, zE, evop, ev, ofVal, tget, tput, ok, V.isUndef, intBin, guardOf, Ch.on, told, xport, hget, structAt, sliceOf, Blk.width, lenOf, resOf, resV, resVs, ↓reduceIte, reduceCtorEq, Nat.reduceLT, Nat.reduceEqDiff, Nat.reduceAdd, nilTest]
  by_cases h1 : a.1 = b.1
  · have hd : decide (a.1 = b.1) = true := by simpa using h1
    simp (maxSteps := 2000000) -implicitDefEqProofs only [zz, ↓reduceIte, hd]
    split
    · rename_i hne
      have : a ≠ b := fun e => by subst e; simp at hne
      simp [this]
    · rename_i hne
      have hl : a.2.length = b.2.length := by simp at hne; omega
      refine wloop_count a.2.length (fun i => [(6, .d (.int .i64 i)), (2, .ptr 0 0 0), (3, .ptr 1 0 0)]) (fun _ => [.box false [.d (.vec (a.1.map dW)), .d (.vec (a.2.map dI))], .box false [.d (.vec (b.1.map dW)), .d (.vec (b.2.map dI))]]) (fun i => ∀ j < i, a.2[j]? = b.2[j]?) (fun j hj => by omega) (Weak.sub (by simp [tget])) (fun i hi hI => ?_) (fun hI => ?_)
      · have hx : a.2[i]? = some a.2[i] := List.getElem?_eq_getElem hi
        have hy : b.2[i]? = some b.2[i] := List.getElem?_eq_getElem (by omega)
        have h' : ((i : Int) < (a.2.length : Int)) := by omega
        simp (maxSteps := 2000000) -implicitDefEqProofs only [zz, zE, evop, ev, tget, tput, ok, V.isUndef, intBin, Ch.on, told, hget, structAt, sliceOf, Blk.width, lenOf, ↓reduceIte, reduceCtorEq, Nat.reduceLT, Nat.reduceEqDiff, Nat.reduceAdd, nilTest, h']
        refine wdraw_plan [⟨[], false, [32, 35, 36, 37, 38, 39], [], false⟩, ⟨[0], false, [32, 35, 36, 37, 38, 39], [], false⟩, ⟨[], false, [30, 31, 35, 36, 37, 38, 39], [0, 1], false⟩, ⟨[0, 1, 2], false, [35, 36, 37, 38, 39], [], false⟩, ⟨[0, 1, 2, 3], false, [35, 36, 37, 38, 39], [], false⟩, ⟨[], false, [30, 31, 32, 33, 34, 37], [0, 1, 2, 3, 4], false⟩, ⟨[5], false, [30, 31, 32, 33, 34, 37], [0, 1, 2, 3, 4], false⟩, ⟨[], false, [30, 31, 32, 33, 34, 35, 36], [0, 1, 2, 3, 4, 5, 6], false⟩, ⟨[5, 6, 7], false, [30, 31, 32, 33, 34], [0, 1, 2, 3, 4], false⟩, ⟨[5, 6, 7, 8], false, [30, 31, 32, 33, 34], [0, 1, 2, 3, 4], false⟩, ⟨[0, 1, 2, 3, 4, 5, 6, 7, 8, 9], true, [], [], false⟩] (by decide) ?_
        simp (maxSteps := 2000000) -implicitDefEqProofs only [zz, zE, evop, ev, ofVal, tget, tput, ok, V.isUndef, intBin, Ch.on, told, xport, hget, hput, V.cells, D.cells, V.isAgg, loadD, structAt, Blk.width, resOf, resV, resVs, ↓reduceIte, reduceCtorEq, Nat.reduceLT, Nat.reduceEqDiff, Nat.reduceAdd, Nat.reduceLeDiff, nilTest, dI, List.getElem?_map, hx, hy, Option.map_some, Int.natCast_nonneg]
        have hw : IntKind.i64.wrap ((i : Int) + 1) = ((i + 1 : Nat) : Int) := by rw [wrap_in (by omega)]; omega
        split
        · rename_i hne
          have : a ≠ b := fun e => by subst e; simp at hne
          simp [this]
        · rename_i hne
          have he : a.2[i] = b.2[i] := by simpa using hne
          refine ⟨fun j hj => ?_, Weak.trims 2 rfl (by simp [tget, hw, V.lower]) (by simp [Blk.lower, V.lower, lowerL])⟩
          rcases Nat.lt_or_ge j i with h | h
          · exact hI j h
          · obtain rfl : j = i := by omega
            rw [hx, hy, he]
      · have h' : ¬ ((a.2.length : Int) < (a.2.length : Int)) := by omega
        simp (maxSteps := 2000000) -implicitDefEqProofs only [zz, zE, evop, ev, ofVal, tget, tput, ok, V.isUndef, intBin, Ch.on, told, xport, hget, structAt, sliceOf, Blk.width, lenOf, resOf, resV, resVs, ↓reduceIte, reduceCtorEq, Nat.reduceLT, Nat.reduceEqDiff, Nat.reduceAdd, nilTest, h']
        have : a = b := by
          refine Prod.ext h1 (List.ext_getElem? fun k => ?_)
          rcases Nat.lt_or_ge k a.2.length with hk | hk
          · exact hI k hk
          · rw [List.getElem?_eq_none hk, List.getElem?_eq_none (by omega)]
        simp [this]
  · have hd : decide (a.1 = b.1) = false := by simpa using h1
    have : a ≠ b := fun e => h1 (by rw [e])
    simp (maxSteps := 2000000) -implicitDefEqProofs only [zz, ↓reduceIte, hd]
    simp [this]


end Go.Proofs.YtjhfpabldidlgaaGreat.AM

set_option linter.all false
set_option maxRecDepth 100000
set_option maxHeartbeats 4000000
namespace Go.Proofs.YtjhfpabldidlgaaGreat.AM
open Go Go.RowKit

def bX (t : Ty) (h : List (Bool × Int)) (r : List (Int × Int)) : Blk := .box false [.d (.int .i64 t.who), .d (.int .i64 t.snap), .d (.int .i64 t.pc), .d (.vec (t.regs.map dI)), .d (.vec (t.path.map dI)), .d (.vec (t.reads.map dRd)), .d (.vec (t.log.1.map dW)), .d (.vec (t.log.2.map dI)), .d (.vec (t.frames.map dFr)), .d (.int .i64 t.kind), .d (.int .i64 t.why), .d (.vec (h.map dC)), .d (.vec (r.map dW))]

theorem r_x_end (t : Ty) (h : List (Bool × Int)) (r : List (Int × Int)) (k w : Int) : RSpec Tryz.prog 118 [.ptr 0 0 0, .d (.int .i64 k), .d (.int .i64 w)] [bX t h r] (.tuple []) [bX (endT t k w) h r] := by
  refine RSpec.of_awp envOf_ok hmix Tryz.func118 rfl (fun args w => Tryz.call118 args w) (by simp [Tryz.f118]) ?_
  simp only [Tryz.f118]
  simp (maxSteps := 2000000) -implicitDefEqProofs only [zz, evop, ev, tget, tput, ok, V.isUndef, Ch.on, hget, isPtr, Blk.width, ↓reduceIte, reduceCtorEq, Nat.reduceLT, Nat.reduceEqDiff, Nat.reduceAdd, initV]
  unfold bX endT
  simp (maxSteps := 2000000) -implicitDefEqProofs only [zz, zE, evop, ev, tget, tput, ok, Ch.on, hget, hput, V.cells, V.one, structAt, isPtr, Blk.width, splice, resOf, resVs, ↓reduceIte, reduceCtorEq, Nat.reduceLT, Nat.reduceEqDiff, Nat.reduceAdd, Nat.reduceLeDiff]
  exact Weak.trimsM 1 (by simp) rfl (by simp [tget, V.lower, lowerL]) (by simp [Blk.lower, lowerL, V.lower])

theorem r_x_tell (t : Ty) (h : List (Bool × Int)) (r : List (Int × Int)) (x : List (Int × Int)) (hl : h.length ≤ 1000000) (htl : x.length ≤ 1000000) : RSpec Tryz.prog 115 [.ptr 0 0 0, .d (.vec (x.map dW))] [bX t h r] (.d (.int .i64 (tellT t h x))) [bX t h r] := by
  refine RSpec.of_awp envOf_ok hmix Tryz.func115 rfl (fun args w => Tryz.call115 args w) (by simp [Tryz.f115]) ?_
  simp only [Tryz.f115]
  simp (maxSteps := 2000000) -implicitDefEqProofs only [zz, evop, ev, ofVal, tput, ok, V.isUndef, Ch.on, ↓reduceIte, Nat.reduceLT, initV]
  unfold bX
  refine wdraw_plan [⟨[], false, [9, 10, 11, 12, 13, 14, 15, 16, 17], [], false⟩, ⟨[], false, [8, 13, 14, 15, 16, 17], [0], false⟩, ⟨[1], false, [8, 13, 14, 15, 16, 17], [0], false⟩, ⟨[1, 2], false, [8, 13, 14, 15, 16, 17], [0], false⟩, ⟨[1, 2, 3], false, [8, 13, 14, 15, 16, 17], [0], false⟩, ⟨[], false, [8, 9, 10, 11, 12], [0, 1, 2, 3, 4], false⟩, ⟨[5], false, [8, 9, 10, 11, 12], [0, 1, 2, 3, 4], false⟩, ⟨[5, 6], false, [8, 9, 10, 11, 12], [0, 1, 2, 3, 4], false⟩, ⟨[5, 6, 7], false, [8, 9, 10, 11, 12], [0, 1, 2, 3, 4], false⟩, ⟨[5, 6, 7, 8], false, [8, 9, 10, 11, 12], [0, 1, 2, 3, 4], false⟩, ⟨[0, 1, 2, 3, 4, 5, 6, 7, 8, 9], true, [], [], false⟩, ⟨[0, 1, 2, 3, 4, 5, 6, 7, 8, 9, 10], true, [], [], false⟩, ⟨[0, 1, 2, 3, 4, 5, 6, 7, 8, 9, 10, 11], false, [20], [], false⟩, ⟨[0, 1, 2, 3, 4, 5, 6, 7, 8, 9, 10, 11], false, [5, 19], [12], false⟩, ⟨[0, 1, 2, 3, 4, 5, 6, 7, 8, 9, 10, 11, 12], false, [20], [13], false⟩, ⟨[0, 1, 2, 3, 4, 5, 6, 7, 8, 9, 10, 11, 12, 13, 14], true, [], [], false⟩] (by decide) ?_
  simp (maxSteps := 2000000) -implicitDefEqProofs only [zz, zE, evop, ev, ofVal, tget, tput, ok, V.isUndef, calleeOf, withArgs, hget, hput, D.cells, loadD, structAt, isPtr, Blk.width, ↓reduceIte, reduceCtorEq, Nat.reduceLT, Nat.reduceEqDiff, Nat.reduceAdd, Nat.reduceLeDiff]
  have he := c_Eval h t.regs x hl htl
  refine acall_flat' (he) rfl ?_
  try simp (maxSteps := 2000000) -implicitDefEqProofs only [zz, evop, ev, tget, tput, ok, V.isUndef, Ch.on, hput, resOf, resV, resVs, ↓reduceIte, Nat.reduceLT, Nat.reduceEqDiff, Nat.reduceAdd, Nat.reduceSub, Nat.reduceLeDiff]
  exact Weak.trimsM 1 (by simp) rfl (by simp [tget, V.lower, tellT]) (by simp [Blk.lower, lowerL, V.lower])

theorem r_x_put (t : Ty) (h : List (Bool × Int)) (r : List (Int × Int)) (a v : Int) (hreg : t.regs.length = 8) (ha : 0 ≤ a ∧ a < 8) (hpc : 0 ≤ t.pc ∧ t.pc ≤ 1000000) : RSpec Tryz.prog 114 [.ptr 0 0 0, .d (.int .i64 a), .d (.int .i64 v)] [bX t h r] (.tuple []) [bX (putT t a v) h r] := by
  refine RSpec.of_awp envOf_ok hmix Tryz.func114 rfl (fun args w => Tryz.call114 args w) (by simp [Tryz.f114]) ?_
  simp only [Tryz.f114]
  simp (maxSteps := 2000000) -implicitDefEqProofs only [zz, evop, ev, tget, tput, ok, V.isUndef, Ch.on, hget, isPtr, Blk.width, ↓reduceIte, reduceCtorEq, Nat.reduceLT, Nat.reduceAdd, initV]
  unfold bX
  simp (maxSteps := 2000000) -implicitDefEqProofs only [zz, zE, evop, ev, tget, tput, ok, V.isUndef, Ch.on, calleeOf, withArgs, hget, structAt, Blk.width, ↓reduceIte, reduceCtorEq, Nat.reduceLT, Nat.reduceAdd]
  have hc := o_Clone_int (t.regs.map dI) (by simp; omega) (okEl_I _)
  rw [List.length_map, hreg] at hc
  have hwp : IntKind.i64.wrap (t.pc + 1) = t.pc + 1 := by rw [wrap_in (by omega)]
  refine acall_own' (hc) ?_
  try simp (maxSteps := 2000000) -implicitDefEqProofs only [zz, zE, evop, ev, tget, tput, ok, V.isUndef, Ch.on, tids, tidss, hget, hput, freeze, V.cells, D.cells, V.one, V.clo, clos, structAt, isPtr, Blk.width, splice, D.over, ↓reduceIte, reduceCtorEq, Nat.reduceLT, Nat.reduceEqDiff, Nat.reduceAdd, Nat.reduceLeDiff, shiftH, Blk.ren, V.ren]
  have hx : t.regs[a.toNat]? = some (t.regs[a.toNat]'(by omega)) := List.getElem?_eq_getElem (by omega)
  simp (maxSteps := 2000000) -implicitDefEqProofs only [zz, zE, evop, ev, ofVal, tget, tput, ok, V.isUndef, intBin, Ch.on, hget, hput, V.cells, V.one, structAt, isPtr, Blk.width, splice, resOf, resVs, ↓reduceIte, reduceCtorEq, Nat.reduceLT, Nat.reduceEqDiff, Nat.reduceAdd, Nat.reduceLeDiff, nilTest, dI, List.getElem?_map, hx, Option.map_some, hwp]
  refine ⟨by omega, ?_⟩
  have er : List.take 8 ((t.regs.map dI).set a.toNat (.int .i64 v)) = (t.regs.set a.toNat v).map dI := by
    rw [List.map_set, List.take_of_length_le (by simp; omega)]; rfl
  refine Weak.close [1] 1 (by simp) ?_ (by simp [tget, sealF, V.lower, lowerL]) (by simp [Blk.lower, lowerL, V.lower])
  simp [sealH, sealB, sealF, freeze, hput, hget, Blk.ice, er, putT]

theorem r_x_store (t : Ty) (h : List (Bool × Int)) (r : List (Int × Int)) (x : St) (hl : h.length ≤ 1000000) (htl : x.t.length ≤ 1000000) (h1 : t.log.1.length ≤ 1000000) (h2 : t.log.2.length ≤ 1000000) (hpc : 0 ≤ t.pc ∧ t.pc ≤ 1000000) :
    RSpec Tryz.prog 116 [.ptr 0 0 0, .d (dS x)] [bX t h r] (.tuple []) [bX (storeT t x h) h r] := by
  refine RSpec.of_awp envOf_ok hmix Tryz.func116 rfl (fun args w => Tryz.call116 args w) (by simp [Tryz.f116]) ?_
  simp only [Tryz.f116]
  simp (maxSteps := 2000000) -implicitDefEqProofs only [zz, zE, evop, ev, tget, tput, V.isUndef, Ch.on, hput, V.cells, ↓reduceIte, reduceCtorEq, Nat.reduceLT, initV, dS]
  unfold bX
  refine wdraw_plan [⟨[], false, [11, 12], [], false⟩, ⟨[0], false, [11, 12], [], false⟩, ⟨[0, 1], false, [11, 12], [], false⟩, ⟨[0, 1, 2], false, [11, 12], [], false⟩, ⟨[], false, [7, 8, 9, 10], [0, 1, 2, 3], false⟩, ⟨[4], false, [7, 8, 9, 10], [0, 1, 2, 3], false⟩, ⟨[0, 1, 2, 3, 4, 5], true, [], [], false⟩, ⟨[0, 1, 2, 3, 4, 5, 6], true, [], [], false⟩, ⟨[0, 1, 2, 3, 4, 5, 6, 7], false, [15], [], false⟩, ⟨[0, 1, 2, 3, 4, 5, 6, 7], false, [4, 14], [8], false⟩, ⟨[0, 1, 2, 3, 4, 5, 6, 7, 8], false, [15], [9], false⟩, ⟨[0, 1, 2, 3, 4, 5, 6, 7, 8, 9, 10], true, [], [], false⟩] (by decide) ?_
  simp (maxSteps := 2000000) -implicitDefEqProofs only [zz, zE, evop, ev, ofVal, tget, tput, ok, V.isUndef, calleeOf, withArgs, hget, hput, D.cells, loadD, structAt, isPtr, Blk.width, ↓reduceIte, reduceCtorEq, Nat.reduceLT, Nat.reduceEqDiff, Nat.reduceAdd, Nat.reduceLeDiff]
  refine acall_flat' (c_heap_Get h x.a hl) rfl ?_
  try simp (maxSteps := 2000000) -implicitDefEqProofs only [zz, zE, evop, ev, ofVal, tget, tput, ok, V.isUndef, intBin, Ch.on, calleeOf, withArgs, told, hget, hput, structAt, Blk.width, ↓reduceIte, reduceCtorEq, Nat.reduceLT, Nat.reduceEqDiff, Nat.reduceAdd, Nat.reduceSub, Nat.reduceLeDiff, nilTest]
  have hwp : IntKind.i64.wrap (t.pc + 1) = t.pc + 1 := by rw [wrap_in (by omega)]
  by_cases h0 : (heapGet h x.a).2 = 0
  case neg =>
    have e : ((heapGet h x.a).2 != 0) = true := by simpa using h0
    have hst : storeT t x h = endT t 4 x.a := by unfold storeT; rw [if_pos h0]
    rw [hst]
    have hr := r_x_end t h r 4 x.a
    unfold bX at hr
    simp (maxSteps := 2000000) -implicitDefEqProofs only [↓reduceIte, e]
    refine acall_ref [0] (hr) (by first | rfl | simp [renL, V.ren, frρ, renL_ds]) (by simp) rfl (by simp) (by simp) (by intro j hj; match j, hj with | 0, _ => exact ⟨by simp [hget], rfl⟩) ?_
    try simp (maxSteps := 2000000) -implicitDefEqProofs only [zz, tput, hput, resOf, resVs, ↓reduceIte, Nat.reduceLT, Nat.reduceAdd, Blk.ren, V.ren, renL, frameH, putL]
    exact Weak.trimsM 1 (by simp) rfl (by simp [tget, V.lower, lowerL]) (by simp [Blk.lower, lowerL, V.lower])
  have e : ((heapGet h x.a).2 != 0) = false := by simpa using h0
  have hn := not_not_intro h0
  have hst : storeT t x h = { t with log := (logPut t.log (x.a, tellT t h x.t)).1, pc := t.pc + 1 } := by unfold storeT; rw [if_neg hn]
  rw [hst]
  simp (maxSteps := 2000000) -implicitDefEqProofs only [zz, ↓reduceIte, e]
  refine wdraw_plan [⟨[], false, [22, 23, 24, 25, 26, 27, 28, 29, 30, 31, 32, 33, 34, 35, 36, 37, 38], [], true⟩, ⟨[], false, [23, 29, 30, 31, 32, 33, 34, 35], [0], false⟩, ⟨[1], false, [23, 29, 30, 31, 32, 33, 34, 35], [0], false⟩, ⟨[1, 2], false, [23, 29, 30, 31, 32, 33, 34, 35], [0], false⟩, ⟨[1, 2, 3], false, [23, 29, 30, 31, 32, 33, 34, 35], [0], false⟩, ⟨[1, 2, 3, 4], false, [23, 29, 30, 31, 32, 33, 34, 35], [0], false⟩, ⟨[], false, [23, 24, 25, 26, 27, 28, 31, 32, 33, 34], [0, 1, 2, 3, 4, 5], false⟩, ⟨[6], false, [23, 24, 25, 26, 27, 28, 31, 32, 33, 34], [0, 1, 2, 3, 4, 5], false⟩, ⟨[], false, [23, 24, 25, 26, 27, 28, 29, 30, 32, 33], [0, 1, 2, 3, 4, 5, 6, 7], false⟩, ⟨[], false, [23, 24, 25, 26, 27, 28, 29, 30, 31], [0, 1, 2, 3, 4, 5, 6, 7, 8], false⟩, ⟨[9], false, [23, 24, 25, 26, 27, 28, 29, 30, 31], [0, 1, 2, 3, 4, 5, 6, 7, 8], false⟩, ⟨[8, 9, 10], false, [23, 24, 25, 26, 27, 28, 29, 30], [0, 1, 2, 3, 4, 5, 6, 7], false⟩, ⟨[6, 7, 8, 9, 10, 11], false, [23, 24, 25, 26, 27, 28], [0, 1, 2, 3, 4, 5], false⟩, ⟨[1, 2, 3, 4, 5, 6, 7, 8, 9, 10, 11, 12], true, [23], [], false⟩, ⟨[1, 2, 3, 4, 5, 6, 7, 8, 9, 10, 11, 12, 13], false, [23], [0], false⟩, ⟨[1, 2, 3, 4, 5, 6, 7, 8, 9, 10, 11, 12, 13, 14], false, [23, 38], [0], false⟩, ⟨[1, 2, 3, 4, 5, 6, 7, 8, 9, 10, 11, 12, 13, 14], false, [23, 37, 38, 39, 40, 41], [0, 15], true⟩, ⟨[0, 1, 2, 3, 4, 5, 6, 7, 8, 9, 10, 11, 12, 13, 14, 15], false, [38], [16], false⟩, ⟨[0, 1, 2, 3, 4, 5, 6, 7, 8, 9, 10, 11, 12, 13, 14, 15, 17], false, [38], [16], false⟩, ⟨[0, 1, 2, 3, 4, 5, 6, 7, 8, 9, 10, 11, 12, 13, 14, 15, 17, 18], false, [38], [16], false⟩, ⟨[0, 1, 2, 3, 4, 5, 6, 7, 8, 9, 10, 11, 12, 13, 14, 15, 17, 18, 19], true, [38], [], false⟩] (by decide) ?_
  simp (maxSteps := 2000000) -implicitDefEqProofs only [zz, zE, evop, ev, ofVal, tget, tput, ok, V.isUndef, calleeOf, withArgs, hget, hput, V.cells, D.cells, loadD, structAt, partsV, isPtr, Blk.width, splice, ↓reduceIte, reduceCtorEq, Nat.reduceLT, Nat.reduceEqDiff, Nat.reduceAdd, Nat.reduceLeDiff]
  have hr := r_x_tell t h r x.t hl htl
  unfold bX at hr
  refine dcall_ref0 [0] (hr) (fun k => by first | rfl | simp [renL, V.ren, frρ, renL_ds]) (fun k => rfl) (by simp) rfl (by intro j hj; match j, hj with | 0, _ => exact ⟨by simp [hget], by simp [hget, frρ], fun k => rfl⟩) ?_
  try simp (maxSteps := 2000000) -implicitDefEqProofs only [zz, ↓reduceIte, Nat.reduceAdd]
  have hp := c_W_Put t.log (x.a, tellT t h x.t) h1 h2
  unfold dLE at hp
  refine acall_ice' (hp) ?_
  try simp (maxSteps := 2000000) -implicitDefEqProofs only [zz, zE, evop, ev, ofVal, tget, tput, ok, V.isUndef, intBin, Ch.on, tids, tidss, hget, hput, freeze, V.cells, D.cells, V.one, structAt, isPtr, Blk.width, splice, D.over, resOf, resVs, ↓reduceIte, reduceCtorEq, Nat.reduceLT, Nat.reduceEqDiff, Nat.reduceAdd, Nat.reduceSub, Nat.reduceLeDiff, nilTest, dLg]
  simp (maxSteps := 2000000) -implicitDefEqProofs only [hwp]
  exact Weak.trimsM 1 (by simp) rfl (by simp [tget, V.lower, lowerL]) (by simp [Blk.lower, lowerL, V.lower])
end Go.Proofs.YtjhfpabldidlgaaGreat.AM

set_option linter.all false
set_option maxRecDepth 100000
set_option maxHeartbeats 8000000
namespace Go.Proofs.YtjhfpabldidlgaaGreat.AM
open Go Go.RowKit

theorem okEl_Fr (l : List Fr) : ∀ e ∈ l.map dFr, okEl 4 e = true := by
  intro e he
  obtain ⟨w, _, rfl⟩ := List.mem_map.1 he
  rfl

theorem o_Clone_Fr (els : List D) (h1 : els.length * 48 ≤ 140737488355328) (h2 : ∀ e ∈ els, okEl 4 e = true) : FSpec Tryz.prog 176 [.vec els] (.own 0 0 els.length) [.dat false 4 els] := by
  refine FSpec.of_awp envOf_ok hmix Tryz.func176 rfl (fun args w => Tryz.call176 args w) (by simp [Tryz.f176]) ?_
  simp only [Tryz.f176]
  simp (maxSteps := 2000000) -implicitDefEqProofs only [zz, zE, evop, ev, ofVal, tget, tput, ok, V.isUndef, initT, Ch.on, told, hget, hput, V.cells, V.isAgg, V.clo, clos, sliceOf, partsD, elems, resOf, resV, resVs, ↓reduceIte, reduceCtorEq, Nat.reduceLT, Nat.reduceEqDiff, Nat.reduceMul, Nat.reduceLeDiff, nilTest]
  refine ⟨fun h => ?_, ⟨h1, h2⟩, ?_⟩
  · subst h
    refine Weak.pick [7] (by simp) (by simp) rfl (fun q hq => ?_) (fun i hi => ?_)
    · obtain rfl : q = _ := by simpa using hq
      exact .nils 0 4 rfl
    · obtain rfl : i = 0 := by simpa using hi
      exact .virt 4 rfl rfl
  · refine Weak.pick [1] (by simp) (by simp) rfl (fun q hq => ?_) (fun i hi => ?_)
    · obtain rfl : q = _ := by simpa using hq
      exact .same _
    · obtain rfl : i = 0 := by simpa using hi
      exact .dat false 4 els rfl rfl

theorem r_x_either (t : Ty) (h : List (Bool × Int)) (r : List (Int × Int)) (x : St) (h1 : t.log.1.length ≤ 1000000) (h2 : t.log.2.length ≤ 1000000) (hpc : 0 ≤ t.pc ∧ t.pc ≤ 1000000) (ha : 0 ≤ x.a ∧ x.a ≤ 1000) (hb : 0 ≤ x.b ∧ x.b ≤ 1000)
    (hf : t.frames.length ≤ 1000000) (hp : t.path.length ≤ 1000000) :
    RSpec Tryz.prog 119 [.ptr 0 0 0, .d (dS x)] [bX t h r] (.tuple []) [bX (eiT t x) h r] := by
  refine RSpec.of_awp envOf_ok hmix Tryz.func119 rfl (fun args w => Tryz.call119 args w) (by simp [Tryz.f119]) ?_
  simp only [Tryz.f119]
  simp (maxSteps := 2000000) -implicitDefEqProofs only [zz, zE, evop, ev, tget, tput, ok, V.isUndef, Ch.on, hget, hput, V.cells, isPtr, Blk.width, ↓reduceIte, reduceCtorEq, Nat.reduceLT, initV, dS]
  unfold bX
  simp (maxSteps := 2000000) -implicitDefEqProofs only [zz, zE, evop, ev, tget, tput, ok, Ch.on, calleeOf, withArgs, hget, structAt, Blk.width, ↓reduceIte, reduceCtorEq, Nat.reduceLT, Nat.reduceAdd, Nat.reduceLeDiff]
  have w1 : IntKind.i64.wrap (t.pc + 1) = t.pc + 1 := by rw [wrap_in (by omega)]
  have w2 : IntKind.i64.wrap (t.pc + 1 + x.a) = t.pc + 1 + x.a := by rw [wrap_in (by omega)]
  have w3 : IntKind.i64.wrap (t.pc + 1 + x.a + x.b) = t.pc + 1 + x.a + x.b := by rw [wrap_in (by omega)]
  have hm := c_W_Mark t.log h1 h2
  unfold dLE at hm
  refine acall_ice' (hm) ?_
  try simp (maxSteps := 2000000) -implicitDefEqProofs only [zz, zE, evop, ev, tget, tput, ok, V.isUndef, Ch.on, tids, tidss, hget, hput, freeze, V.cells, V.one, structAt, isPtr, Blk.width, splice, ↓reduceIte, reduceCtorEq, Nat.reduceLT, Nat.reduceEqDiff, Nat.reduceAdd, Nat.reduceLeDiff, dLg]
  refine wdraw_plan [⟨[], false, [24, 25], [], false⟩, ⟨[0], false, [24, 25], [], false⟩, ⟨[0, 1], false, [24, 25], [], false⟩, ⟨[0, 1, 2], false, [24, 25], [], false⟩, ⟨[0, 1, 2, 3], false, [24, 25], [], false⟩, ⟨[0, 1, 2, 3, 4], false, [24, 25], [], false⟩, ⟨[], false, [18, 19, 20, 21, 22, 23], [0, 1, 2, 3, 4, 5], false⟩, ⟨[6], false, [18, 19, 20, 21, 22, 23], [0, 1, 2, 3, 4, 5], false⟩, ⟨[0, 1, 2, 3, 4, 5, 6, 7], true, [], [], false⟩, ⟨[0, 1, 2, 3, 4, 5, 6, 7, 8], true, [], [], false⟩] (by decide) ?_
  simp (maxSteps := 2000000) -implicitDefEqProofs only [zz, zE, evop, ev, ofVal, tget, tput, ok, V.isUndef, intBin, Ch.on, hget, hput, V.cells, D.cells, V.isAgg, loadD, structAt, isPtr, Blk.width, ↓reduceIte, reduceCtorEq, Nat.reduceLT, Nat.reduceEqDiff, Nat.reduceAdd, Nat.reduceLeDiff, w1, w2]
  refine wdraw_plan [⟨[], false, [27, 28, 29, 30, 31, 32, 33, 34, 35, 36, 37, 38, 39, 40, 41, 42, 43, 44, 45, 46, 47, 48, 49, 50, 51, 52], [], true⟩, ⟨[], false, [27, 34, 35, 36, 37, 38, 39, 40, 41, 42, 43, 44, 45, 46, 47, 48, 49, 50, 51], [0], false⟩, ⟨[1], false, [27, 34, 35, 36, 37, 38, 39, 40, 41, 42, 43, 44, 45, 46, 47, 48, 49, 50, 51], [0], false⟩, ⟨[1, 2], false, [27, 34, 35, 36, 37, 38, 39, 40, 41, 42, 43, 44, 45, 46, 47, 48, 49, 50, 51], [0], false⟩, ⟨[1, 2, 3], false, [27, 34, 35, 36, 37, 38, 39, 40, 41, 42, 43, 44, 45, 46, 47, 48, 49, 50, 51], [0], false⟩, ⟨[1, 2, 3, 4], false, [27, 34, 35, 36, 37, 38, 39, 40, 41, 42, 43, 44, 45, 46, 47, 48, 49, 50, 51], [0], false⟩, ⟨[1, 2, 3, 4, 5], false, [27, 34, 35, 36, 37, 38, 39, 40, 41, 42, 43, 44, 45, 46, 47, 48, 49, 50, 51], [0], false⟩, ⟨[], false, [27, 28, 29, 30, 31, 32, 33, 35, 36, 37, 38, 39, 40, 41, 42, 43, 44, 45, 46, 47, 48, 49], [0, 1, 2, 3, 4, 5, 6], false⟩, ⟨[], false, [27, 28, 29, 30, 31, 32, 33, 34, 36, 37, 39, 40, 41, 42, 43, 44, 45, 46, 47, 48, 49], [0, 1, 2, 3, 4, 5, 6, 7], false⟩, ⟨[], false, [27, 28, 29, 30, 31, 32, 33, 34, 35, 39, 40, 41, 42, 43, 44, 45, 46, 47, 48, 49], [0, 1, 2, 3, 4, 5, 6, 7, 8], false⟩, ⟨[9], false, [27, 28, 29, 30, 31, 32, 33, 34, 35, 39, 40, 41, 42, 43, 44, 45, 46, 47, 48, 49], [0, 1, 2, 3, 4, 5, 6, 7, 8], false⟩, ⟨[8, 9, 10], false, [27, 28, 29, 30, 31, 32, 33, 34, 39, 40, 41, 42, 43, 44, 45, 46, 47, 48, 49], [0, 1, 2, 3, 4, 5, 6, 7], false⟩, ⟨[], false, [27, 28, 29, 30, 31, 32, 33, 34, 35, 36, 37, 38, 45, 46, 47, 48, 49], [0, 1, 2, 3, 4, 5, 6, 7, 8, 9, 10, 11], false⟩, ⟨[12], false, [27, 28, 29, 30, 31, 32, 33, 34, 35, 36, 37, 38, 45, 46, 47, 48, 49], [0, 1, 2, 3, 4, 5, 6, 7, 8, 9, 10, 11], false⟩, ⟨[12, 13], false, [27, 28, 29, 30, 31, 32, 33, 34, 35, 36, 37, 38, 45, 46, 47, 48, 49], [0, 1, 2, 3, 4, 5, 6, 7, 8, 9, 10, 11], false⟩, ⟨[12, 13, 14], false, [27, 28, 29, 30, 31, 32, 33, 34, 35, 36, 37, 38, 45, 46, 47, 48, 49], [0, 1, 2, 3, 4, 5, 6, 7, 8, 9, 10, 11], false⟩, ⟨[12, 13, 14, 15], false, [27, 28, 29, 30, 31, 32, 33, 34, 35, 36, 37, 38, 45, 46, 47, 48, 49], [0, 1, 2, 3, 4, 5, 6, 7, 8, 9, 10, 11], false⟩, ⟨[12, 13, 14, 15, 16], false, [27, 28, 29, 30, 31, 32, 33, 34, 35, 36, 37, 38, 45, 46, 47, 48, 49], [0, 1, 2, 3, 4, 5, 6, 7, 8, 9, 10, 11], false⟩, ⟨[], false, [27, 28, 29, 30, 31, 32, 33, 34, 35, 36, 37, 38, 39, 40, 41, 42, 43, 44], [0, 1, 2, 3, 4, 5, 6, 7, 8, 9, 10, 11, 12, 13, 14, 15, 16, 17], false⟩, ⟨[18], false, [27, 28, 29, 30, 31, 32, 33, 34, 35, 36, 37, 38, 39, 40, 41, 42, 43, 44], [0, 1, 2, 3, 4, 5, 6, 7, 8, 9, 10, 11, 12, 13, 14, 15, 16, 17], false⟩, ⟨[18, 19], false, [27, 28, 29, 30, 31, 32, 33, 34, 35, 36, 37, 38, 39, 40, 41, 42, 43, 44], [0, 1, 2, 3, 4, 5, 6, 7, 8, 9, 10, 11, 12, 13, 14, 15, 16, 17], false⟩, ⟨[18, 19, 20], false, [27, 28, 29, 30, 31, 32, 33, 34, 35, 36, 37, 38, 39, 40, 41, 42, 43, 44], [0, 1, 2, 3, 4, 5, 6, 7, 8, 9, 10, 11, 12, 13, 14, 15, 16, 17], false⟩, ⟨[18, 19, 20, 21], false, [27, 28, 29, 30, 31, 32, 33, 34, 35, 36, 37, 38, 39, 40, 41, 42, 43, 44], [0, 1, 2, 3, 4, 5, 6, 7, 8, 9, 10, 11, 12, 13, 14, 15, 16, 17], false⟩, ⟨[7, 8, 9, 10, 11, 12, 13, 14, 15, 16, 17, 18, 19, 20, 21, 22], false, [27, 28, 29, 30, 31, 32, 33], [0, 1, 2, 3, 4, 5, 6], false⟩, ⟨[7, 8, 9, 10, 11, 12, 13, 14, 15, 16, 17, 18, 19, 20, 21, 22, 23], false, [27, 28, 29, 30, 31, 32, 33], [0, 1, 2, 3, 4, 5, 6], false⟩, ⟨[1, 2, 3, 4, 5, 6, 7, 8, 9, 10, 11, 12, 13, 14, 15, 16, 17, 18, 19, 20, 21, 22, 23, 24], true, [27], [], false⟩, ⟨[0, 1, 2, 3, 4, 5, 6, 7, 8, 9, 10, 11, 12, 13, 14, 15, 16, 17, 18, 19, 20, 21, 22, 23, 24, 25], true, [], [], false⟩, ⟨[0, 1, 2, 3, 4, 5, 6, 7, 8, 9, 10, 11, 12, 13, 14, 15, 16, 17, 18, 19, 20, 21, 22, 23, 24, 25, 26], true, [], [], false⟩, ⟨[0, 1, 2, 3, 4, 5, 6, 7, 8, 9, 10, 11, 12, 13, 14, 15, 16, 17, 18, 19, 20, 21, 22, 23, 24, 25, 26, 27], true, [], [], false⟩, ⟨[0, 1, 2, 3, 4, 5, 6, 7, 8, 9, 10, 11, 12, 13, 14, 15, 16, 17, 18, 19, 20, 21, 22, 23, 24, 25, 26, 27, 28], true, [], [], false⟩] (by decide) ?_
  simp (maxSteps := 2000000) -implicitDefEqProofs only [zz, zE, evop, ev, ofVal, tget, tput, ok, V.isUndef, intBin, calleeOf, withArgs, hget, hput, V.cells, D.cells, V.isAgg, V.one, V.clo, clos, V.toD, loadD, structAt, sliceOf, partsD, partsV, isPtr, Blk.width, elems, lenOf, splice, ↓reduceIte, reduceCtorEq, Nat.reduceLT, Nat.reduceEqDiff, Nat.reduceAdd, Nat.reduceMul, Nat.reduceLeDiff, w3]
  have hcf := o_Clone_Fr (t.frames.map dFr) (by simp; omega) (okEl_Fr _)
  rw [List.length_map] at hcf
  refine dcall_own' (hcf) rfl ?_
  try simp (maxSteps := 2000000) -implicitDefEqProofs only [zz, zE, evop, ev, tget, tput, ok, V.isUndef, Ch.on, calleeOf, withArgs, hget, hput, V.cells, V.one, structAt, isPtr, Blk.width, splice, ↓reduceIte, reduceCtorEq, Nat.reduceLT, Nat.reduceEqDiff, Nat.reduceAdd, Nat.reduceLeDiff, V.ren]
  refine ⟨⟨by omega, okEl_Fr [⟨t.pc + 1 + x.a, t.pc + 1 + x.a + x.b, t.path.length, t.regs⟩]⟩, ?_⟩
  have hci := o_Clone_int (t.path.map dI) (by simp; omega) (okEl_I _)
  rw [List.length_map] at hci
  refine acall_own' (hci) ?_
  try simp (maxSteps := 2000000) -implicitDefEqProofs only [zz, zE, evop, ev, ofVal, tget, tput, ok, V.isUndef, intBin, Ch.on, tids, tidss, hget, hput, freeze, V.cells, D.cells, V.one, V.toD, structAt, sliceOf, partsD, isPtr, Blk.width, elems, splice, resOf, resVs, ↓reduceIte, reduceCtorEq, Nat.reduceLT, Nat.reduceEqDiff, Nat.reduceAdd, Nat.reduceMul, Nat.reduceLeDiff, nilTest, shiftH, Blk.ren, V.ren]
  refine ⟨⟨by omega, okEl_I [1]⟩, ?_⟩
  rw [w1]
  have ht1 : List.take t.frames.length (t.frames.map dFr) = t.frames.map dFr := by rw [List.take_of_length_le]; simp
  have ht2 : List.take t.path.length (t.path.map dI) = t.path.map dI := by rw [List.take_of_length_le]; simp
  refine Weak.close [35, 38] 1 (by simp) ?_ (by simp [tget, sealF, V.lower, lowerL]) (by simp [Blk.lower, lowerL, V.lower])
  simp [sealH, sealB, sealF, freeze, hput, hget, Blk.ice, ht1, ht2, eiT, dFr, dI, List.take_of_length_le]

theorem r_x_again (t : Ty) (h : List (Bool × Int)) (r : List (Int × Int)) (h1 : t.log.1.length ≤ 1000000) (h2 : t.log.2.length ≤ 1000000) (hf : t.frames.length ≤ 1000000) (hp : t.path.length ≤ 1000000)
    (hfr : ∀ f, t.frames.getLast? = some f → 0 ≤ f.long ∧ f.long ≤ t.path.length) :
    RSpec Tryz.prog 117 [.ptr 0 0 0] [bX t h r] (.tuple []) [bX (agT t) h r] := by
  rcases Nat.eq_zero_or_pos t.frames.length with h0 | h0
  · have e : ((t.frames.length : Int) == 0) = true := by simp [h0]
    have hnil : t.frames = [] := List.length_eq_zero_iff.1 h0
    have hst : agT t = endT t 2 0 := by unfold agT; rw [hnil]; rfl
    rw [hst]
    have hr := r_x_end t h r 2 0
    unfold bX at hr
    refine RSpec.of_awp envOf_ok hmix Tryz.func117 rfl (fun args w => Tryz.call117 args w) (by simp [Tryz.f117]) ?_
    simp only [Tryz.f117]
    simp (maxSteps := 2000000) -implicitDefEqProofs only [zz, evop, ev, tget, tput, ok, V.isUndef, Ch.on, hget, isPtr, Blk.width, ↓reduceIte, Nat.reduceLT, initV]
    unfold bX
    simp (maxSteps := 2000000) -implicitDefEqProofs only [zz, zE, evop, ev, ofVal, tget, tput, ok, V.isUndef, intBin, Ch.on, calleeOf, withArgs, told, hget, structAt, sliceOf, Blk.width, lenOf, ↓reduceIte, reduceCtorEq, Nat.reduceLT, Nat.reduceAdd, nilTest, e]
    refine acall_ref [0] (hr) (by first | rfl | simp [renL, V.ren, frρ, renL_ds]) (by simp) rfl (by simp) (by simp) (by intro j hj; match j, hj with | 0, _ => exact ⟨by simp [hget], rfl⟩) ?_
    try simp (maxSteps := 2000000) -implicitDefEqProofs only [zz, tput, hput, resOf, resVs, ↓reduceIte, Nat.reduceLT, Blk.ren, V.ren, renL, frameH, putL]
    exact Weak.trimsM 1 (by simp) rfl (by simp [tget, V.lower, lowerL]) (by simp [Blk.lower, lowerL, V.lower])
  · have e : ((t.frames.length : Int) == 0) = false := by rw [beq_eq_false_iff_ne]; omega
    obtain ⟨f, hx⟩ : ∃ f, t.frames[t.frames.length - 1]? = some f := ⟨_, List.getElem?_eq_getElem (by omega)⟩
    have hgl : t.frames.getLast? = some f := by rw [List.getLast?_eq_getElem?]; exact hx
    obtain ⟨g1, g2⟩ := hfr f hgl
    have hst : agT t = { t with log := (logBack t.log).1, frames := t.frames.dropLast, regs := f.regs, pc := f.mid, path := t.path.take f.long.toNat ++ [2] } := by unfold agT; rw [hgl]
    rw [hst]
    have hwn : IntKind.i64.wrap ((t.frames.length : Int) - 1) = ((t.frames.length - 1 : Nat) : Int) := by rw [wrap_in (by omega)]; omega
    have hb := c_W_Back t.log h1 h2
    unfold dLE at hb
    refine RSpec.of_snd envOf_ok hmix Tryz.func117 rfl (fun args w => Tryz.call117 args w) (by simp [Tryz.f117]) ?_
    simp only [Tryz.f117]
    refine Snd.upto envOf_ok hmix 4 _ ?_
    simp only [hdN, tlN]
    simp (maxSteps := 2000000) -implicitDefEqProofs only [zz, evop, ev, tget, tput, ok, V.isUndef, Ch.on, hget, isPtr, Blk.width, ↓reduceIte, Nat.reduceLT, initV]
    unfold bX
    simp (maxSteps := 2000000) -implicitDefEqProofs only [zz, zE, evop, ev, ofVal, tget, tput, ok, V.isUndef, intBin, Ch.on, calleeOf, withArgs, told, hget, hput, V.cells, D.cells, V.one, loadD, structAt, sliceOf, isPtr, Blk.width, lenOf, splice, ↓reduceIte, reduceCtorEq, Nat.reduceLT, Nat.reduceEqDiff, Nat.reduceAdd, Nat.reduceLeDiff, nilTest, dFr, e, hwn, List.getElem?_map, hx, Option.map_some, Int.natCast_nonneg]
    refine acall_ice' (hb) ?_
    try simp (maxSteps := 2000000) -implicitDefEqProofs only [zz, zE, evop, ev, tget, tput, ok, V.isUndef, Ch.on, tids, tidss, hget, hput, freeze, V.cells, V.one, structAt, isPtr, Blk.width, splice, ↓reduceIte, reduceCtorEq, Nat.reduceLT, Nat.reduceEqDiff, Nat.reduceAdd, Nat.reduceLeDiff, dLg, cutK_normal]
    refine Snd.weak (T' := [(3, .d (.imm (dFr f) 0)), (2, .d (.int .i64 t.frames.length)), (0, .ptr 0 0 0)]) (H' := [bX { t with log := (logBack t.log).1 } h r]) ?_ ?_
    · refine Weak.close [1] 1 (by simp) ?_ (by simp [tget, sealF, xport, xports, tids, tidss, hget, V.lower, dFr, dI]) (by simp [bX, Blk.lower, lowerL, V.lower])
      simp [sealH, sealB, sealF, freeze, hput, hget, Blk.ice, bX]
    refine Snd.of_awp envOf_ok hmix ?_
    have hdl : t.frames.dropLast = t.frames.take (t.frames.length - 1) := by rw [List.dropLast_eq_take]
    have er : List.take (((t.frames.length - 1 : Nat) : Int) - 0).toNat (t.frames.map dFr) = t.frames.dropLast.map dFr := by
      rw [hdl, List.map_take]; simp
    have ep : List.take (f.long - 0).toNat (t.path.map dI) = (t.path.take f.long.toNat).map dI := by
      rw [List.map_take]; simp
    unfold bX
    refine wdraw_plan [⟨[], false, [37, 38, 39, 40, 41, 42, 43, 44, 45, 46, 47, 48, 49, 50], [], false⟩, ⟨[], false, [36, 37, 38, 39, 40, 41, 42, 43, 44, 45, 46, 47, 48, 49, 50, 51, 52, 53], [0], true⟩, ⟨[], false, [36, 37, 38, 39, 40, 41, 42, 43, 44, 45, 46, 47, 48, 49, 50, 51, 52, 53, 54, 55, 56], [0, 1], true⟩, ⟨[], false, [36, 37, 38, 44, 45, 47, 48, 49, 50], [0, 1, 2], false⟩, ⟨[3], false, [36, 37, 38, 44, 45, 47, 48, 49, 50], [0, 1, 2], false⟩, ⟨[3, 4], false, [36, 37, 38, 44, 45, 47, 48, 49, 50], [0, 1, 2], false⟩, ⟨[3, 4, 5], false, [36, 37, 38, 44, 45, 47, 48, 49, 50], [0, 1, 2], false⟩, ⟨[3, 4, 5, 6], false, [36, 37, 38, 44, 45, 47, 48, 49, 50], [0, 1, 2], false⟩, ⟨[], false, [36, 37, 38, 39, 40, 41, 42, 43, 47, 48, 49, 50], [0, 1, 2, 3, 4, 5, 6, 7], false⟩, ⟨[8], false, [36, 37, 38, 39, 40, 41, 42, 43, 47, 48, 49, 50], [0, 1, 2, 3, 4, 5, 6, 7], false⟩, ⟨[3, 4, 5, 6, 7, 8, 9], false, [36, 37, 38, 47, 48, 49, 50], [0, 1, 2], false⟩, ⟨[], false, [36, 37, 38, 39, 40, 41, 42, 43, 44, 45, 46, 47, 48, 49, 50, 51, 52, 53], [0, 1, 2, 3, 4, 5, 6, 7, 8, 9, 10], true⟩, ⟨[11], false, [36, 37, 38, 39, 40, 41, 42, 43, 44, 45, 46, 48, 49, 50, 51, 52, 53], [0, 1, 2, 3, 4, 5, 6, 7, 8, 9, 10], true⟩, ⟨[], false, [36, 37, 38, 39, 40, 41, 42, 43, 44, 45, 46, 47, 48, 49, 50, 51, 52, 53, 54, 55, 56], [0, 1, 2, 3, 4, 5, 6, 7, 8, 9, 10, 11, 12], true⟩, ⟨[13], false, [36, 37, 38, 39, 40, 41, 42, 43, 44, 45, 46, 47, 48, 50, 51, 52, 53, 54, 55, 56], [0, 1, 2, 3, 4, 5, 6, 7, 8, 9, 10, 11, 12], true⟩, ⟨[0, 3, 4, 5, 6, 7, 8, 9, 10], false, [37, 38, 47, 48, 49, 50], [1, 2, 11, 12, 13, 14], false⟩, ⟨[0, 3, 4, 5, 6, 7, 8, 9, 10, 15], false, [37, 38, 47, 48, 49, 50], [1, 2, 11, 12, 13, 14], false⟩, ⟨[0, 3, 4, 5, 6, 7, 8, 9, 10, 15, 16], false, [37, 38, 47, 48, 49, 50], [1, 2, 11, 12, 13, 14], false⟩, ⟨[0, 3, 4, 5, 6, 7, 8, 9, 10, 15, 16, 17], true, [37, 38, 47, 48, 49, 50], [], false⟩, ⟨[0, 1, 3, 4, 5, 6, 7, 8, 9, 10, 11, 12, 15, 16, 17, 18], false, [38, 49, 50], [2, 13, 14], false⟩, ⟨[0, 1, 3, 4, 5, 6, 7, 8, 9, 10, 11, 12, 15, 16, 17, 18, 19], false, [38, 49, 50], [2, 13, 14], false⟩, ⟨[0, 1, 3, 4, 5, 6, 7, 8, 9, 10, 11, 12, 15, 16, 17, 18, 19, 20], false, [38, 49, 50], [2, 13, 14], false⟩, ⟨[0, 1, 3, 4, 5, 6, 7, 8, 9, 10, 11, 12, 15, 16, 17, 18, 19, 20, 21], true, [38, 49, 50], [], false⟩, ⟨[0, 1, 2, 3, 4, 5, 6, 7, 8, 9, 10, 11, 12, 13, 14, 15, 16, 17, 18, 19, 20, 21, 22], true, [], [], false⟩, ⟨[0, 1, 2, 3, 4, 5, 6, 7, 8, 9, 10, 11, 12, 13, 14, 15, 16, 17, 18, 19, 20, 21, 22, 23], true, [], [], false⟩, ⟨[0, 1, 2, 3, 4, 5, 6, 7, 8, 9, 10, 11, 12, 13, 14, 15, 16, 17, 18, 19, 20, 21, 22, 23, 24], true, [], [], false⟩, ⟨[0, 1, 2, 3, 4, 5, 6, 7, 8, 9, 10, 11, 12, 13, 14, 15, 16, 17, 18, 19, 20, 21, 22, 23, 24, 25], true, [], [], false⟩] (by decide) ?_
    simp (maxSteps := 2000000) -implicitDefEqProofs only [zz, zE, evop, ev, ofVal, tget, tput, ok, V.isUndef, intBin, Ch.on, hget, hput, V.cells, D.cells, V.isAgg, V.one, V.clo, clos, loadD, structAt, sliceOf, bound, isPtr, Blk.width, lenOf, splice, D.over, ↓reduceIte, reduceCtorEq, Nat.reduceLT, Nat.reduceEqDiff, Nat.reduceAdd, Nat.reduceSub, Nat.reduceLeDiff, dFr, hwn, Int.natCast_nonneg, er]
    refine ⟨⟨Int.le_refl _, by omega, okCells_Fr _⟩, ?_⟩
    refine wdraw_plan [⟨[], false, [60, 61, 62, 63, 64, 65, 66, 67, 68, 69, 70, 71], [], true⟩, ⟨[], false, [60, 66, 67, 70], [0], false⟩, ⟨[1], false, [60, 66, 67, 70], [0], false⟩, ⟨[1, 2], false, [60, 66, 67, 70], [0], false⟩, ⟨[1, 2, 3], false, [60, 66, 67, 70], [0], false⟩, ⟨[1, 2, 3, 4], false, [60, 66, 67, 70], [0], false⟩, ⟨[], false, [60, 61, 62, 63, 64, 65, 70], [0, 1, 2, 3, 4, 5], false⟩, ⟨[6], false, [60, 61, 62, 63, 64, 65, 70], [0, 1, 2, 3, 4, 5], false⟩, ⟨[1, 2, 3, 4, 5, 6, 7], false, [60, 70], [0], false⟩, ⟨[1, 2, 3, 4, 5, 6, 7, 8], false, [60, 70], [0], false⟩, ⟨[], false, [60, 61, 62, 63, 64, 65, 66, 67, 68, 69], [0, 1, 2, 3, 4, 5, 6, 7, 8, 9], false⟩, ⟨[1, 2, 3, 4, 5, 6, 7, 8, 9, 10], true, [60], [], false⟩, ⟨[0, 1, 2, 3, 4, 5, 6, 7, 8, 9, 10, 11], true, [], [], false⟩, ⟨[0, 1, 2, 3, 4, 5, 6, 7, 8, 9, 10, 11, 12], true, [], [], false⟩, ⟨[0, 1, 2, 3, 4, 5, 6, 7, 8, 9, 10, 11, 12, 13], true, [], [], false⟩, ⟨[0, 1, 2, 3, 4, 5, 6, 7, 8, 9, 10, 11, 12, 13, 14], true, [], [], false⟩] (by decide) ?_
    simp (maxSteps := 2000000) -implicitDefEqProofs only [zz, zE, evop, ev, ofVal, tget, tput, ok, V.isUndef, calleeOf, withArgs, hget, hput, V.cells, D.cells, V.one, V.toD, loadD, structAt, sliceOf, partsD, bound, isPtr, Blk.width, elems, lenOf, ↓reduceIte, reduceCtorEq, Nat.reduceLT, Nat.reduceEqDiff, Nat.reduceAdd, Nat.reduceMul, Nat.reduceLeDiff, ep]
    refine ⟨⟨Int.le_refl _, g1, g2, by intro e he; obtain ⟨w, _, rfl⟩ := List.mem_map.1 he; rfl⟩, ?_⟩
    have hci := o_Clone_int ((t.path.take f.long.toNat).map dI) (by simp; omega) (okEl_I _)
    rw [List.length_map] at hci
    refine dcall_own' (hci) rfl ?_
    try simp (maxSteps := 2000000) -implicitDefEqProofs only [zz, zE, evop, ev, tget, tput, ok, Ch.on, hget, hput, V.cells, V.one, structAt, isPtr, Blk.width, splice, resOf, resVs, ↓reduceIte, reduceCtorEq, Nat.reduceLT, Nat.reduceEqDiff, Nat.reduceAdd, Nat.reduceLeDiff, V.ren]
    refine ⟨⟨by rw [List.length_take]; omega, okEl_I [2]⟩, ?_⟩
    have ht : List.take (List.take f.long.toNat t.path).length (List.map dI (List.take f.long.toNat t.path)) = List.map dI (List.take f.long.toNat t.path) := by rw [List.take_of_length_le]; simp
    rw [ht]
    refine Weak.close [33] 1 (by simp) ?_ (by simp [tget, sealF, V.lower, lowerL]) (by simp [Blk.lower, lowerL, V.lower])
    simp only [sealH, freeze, hput, hget, Blk.ice, List.map_cons, List.map_nil, sealB, sealF, List.take_succ_cons, List.take_zero, List.mem_singleton, if_true, List.drop_zero]
    rw [List.take_of_length_le (by simp)]
    simp [dI]
end Go.Proofs.YtjhfpabldidlgaaGreat.AM

set_option linter.all false
set_option maxRecDepth 100000
set_option maxHeartbeats 8000000
namespace Go.Proofs.YtjhfpabldidlgaaGreat.AM
open Go Go.RowKit

structure Oy where
  kind : Int
  why : Int
  regs : List Int
  path : List Int
  seen : List Int
  writes : List (Int × Int)
theorem c_r11_Same (t : Ty) (h1 : t.regs.length ≤ 1000000) (h2 : t.path.length ≤ 1000000) (h3 : t.reads.length ≤ 1000000) (h4 : t.log.1.length ≤ 1000000) (h5 : t.log.2.length ≤ 1000000) (h6 : t.frames.length ≤ 1000000) (h7 : ∀ f ∈ t.frames, f.regs.length ≤ 1000000) : CSpec Tryz.prog 18 [dT t, dT t] (.bool true) := by
  have hn : ∀ l : List Int, l.length ≤ 1000000 → CSpec Tryz.prog 49 [.vec (l.map dI), .vec (l.map dI)] (.bool true) := fun l hl => by
    have := c_r03_Numbers l l hl hl
    simpa using this
  have hr : CSpec Tryz.prog 59 [.vec (t.reads.map dRd), .vec (t.reads.map dRd)] (.bool true) := by
    have := c_r05_Same t.reads t.reads h3 h3
    simpa using this
  have hg : CSpec Tryz.prog 60 [dLg t.log, dLg t.log] (.bool true) := by
    have := c_Same t.log t.log h4 h5 h4 h5
    simpa using this
  refine CSpec.of_awp envOf_ok hmix Tryz.func18 rfl (fun args w => Tryz.call18 args w) (by simp [Tryz.f18]) ?_
  simp only [Tryz.f18]
  simp (maxSteps := 2000000) -implicitDefEqProofs only [zz, zE, evop, ev, tget, V.isUndef, initT, V.cells, ↓reduceIte]
  unfold dT tyC
  simp (maxSteps := 2000000) -implicitDefEqProofs only [zz, zE, evop, ev, ofVal, tget, tput, ok, V.isUndef, Ch.on, hput, V.cells, ↓reduceIte, reduceCtorEq, Nat.reduceLT, Nat.reduceEqDiff]
  refine wdraw_plan [⟨[], false, [15, 16, 18, 19, 20, 21], [], false⟩, ⟨[0], false, [15, 16, 18, 19, 20, 21], [], false⟩, ⟨[], false, [13, 14, 18, 19, 20, 21], [0, 1], false⟩, ⟨[2], false, [13, 14, 18, 19, 20, 21], [0, 1], false⟩, ⟨[0, 1, 2, 3], false, [18, 19, 20, 21], [], false⟩, ⟨[], false, [13, 14, 15, 16, 17, 20, 21], [0, 1, 2, 3, 4], false⟩, ⟨[5], false, [13, 14, 15, 16, 17, 20, 21], [0, 1, 2, 3, 4], false⟩, ⟨[], false, [13, 14, 15, 16, 17, 18, 19], [0, 1, 2, 3, 4, 5, 6], false⟩, ⟨[7], false, [13, 14, 15, 16, 17, 18, 19], [0, 1, 2, 3, 4, 5, 6], false⟩, ⟨[0, 1, 2, 3, 4, 5, 6, 7, 8], true, [], [], false⟩, ⟨[0, 1, 2, 3, 4, 5, 6, 7, 8, 9], true, [], [], false⟩, ⟨[0, 1, 2, 3, 4, 5, 6, 7, 8, 9, 10], true, [], [], false⟩] (by decide) ?_
  simp (maxSteps := 2000000) -implicitDefEqProofs only [zz, zE, evop, ev, ofVal, tget, tput, ok, V.isUndef, calleeOf, withArgs, hget, hput, D.cells, loadD, structAt, Blk.width, ↓reduceIte, reduceCtorEq, Nat.reduceLT, Nat.reduceEqDiff, Nat.reduceAdd, Nat.reduceLeDiff]
  refine dcall_flat' (hr) rfl ?_
  try skip
  refine acall_flat' (hg) rfl ?_
  try simp (maxSteps := 2000000) -implicitDefEqProofs only [zz, evop, ev, tget, tput, ok, V.isUndef, Ch.on, ↓reduceIte, Nat.reduceLT, Nat.reduceEqDiff, Nat.reduceAdd]
  refine wdraw_plan [⟨[], false, [25, 26, 28, 29, 30, 31], [], false⟩, ⟨[0], false, [25, 26, 28, 29, 30, 31], [], false⟩, ⟨[], false, [23, 24, 28, 29, 30, 31], [0, 1], false⟩, ⟨[2], false, [23, 24, 28, 29, 30, 31], [0, 1], false⟩, ⟨[0, 1, 2, 3], false, [28, 29, 30, 31], [], false⟩, ⟨[], false, [23, 24, 25, 26, 27, 30, 31], [0, 1, 2, 3, 4], false⟩, ⟨[5], false, [23, 24, 25, 26, 27, 30, 31], [0, 1, 2, 3, 4], false⟩, ⟨[], false, [23, 24, 25, 26, 27, 28, 29], [0, 1, 2, 3, 4, 5, 6], false⟩, ⟨[7], false, [23, 24, 25, 26, 27, 28, 29], [0, 1, 2, 3, 4, 5, 6], false⟩, ⟨[0, 1, 2, 3, 4, 5, 6, 7, 8], true, [], [], false⟩, ⟨[0, 1, 2, 3, 4, 5, 6, 7, 8, 9], true, [], [], false⟩, ⟨[0, 1, 2, 3, 4, 5, 6, 7, 8, 9, 10], true, [], [], false⟩] (by decide) ?_
  simp (maxSteps := 2000000) -implicitDefEqProofs only [zz, zE, evop, ev, ofVal, tget, tput, ok, V.isUndef, calleeOf, withArgs, hget, hput, D.cells, loadD, structAt, Blk.width, ↓reduceIte, reduceCtorEq, Nat.reduceLT, Nat.reduceEqDiff, Nat.reduceAdd, Nat.reduceLeDiff]
  refine dcall_flat' (hn t.regs h1) rfl ?_
  try skip
  refine acall_flat' (hn t.path h2) rfl ?_
  try simp (maxSteps := 2000000) -implicitDefEqProofs only [zz, zE, evop, ev, ofVal, tget, tput, ok, V.isUndef, intBin, guardOf, Ch.on, told, hget, structAt, sliceOf, Blk.width, lenOf, ↓reduceIte, reduceCtorEq, Nat.reduceLT, Nat.reduceEqDiff, Nat.reduceAdd, nilTest]
  try skip
  refine wloop_count t.frames.length (fun i => [(9, .d (.int .i64 i)), (2, .d (.imm (dT t) 0)), (3, .d (.imm (dT t) 0))]) (fun _ => []) (fun _ => True) trivial ?_ (fun i hi _ => ?_) (fun _ => ?_)
  · exact Weak.close [0, 1] 0 (by simp) rfl (by simp [tget, sealF, xport, xports, tids, tidss, hget, V.lower, dT, tyC]) (by simp)
  · have hx : t.frames[i]? = some t.frames[i] := List.getElem?_eq_getElem hi
    have h' : ((i : Int) < (t.frames.length : Int)) := by omega
    have hw : IntKind.i64.wrap ((i : Int) + 1) = ((i + 1 : Nat) : Int) := by rw [wrap_in (by omega)]; omega
    simp (maxSteps := 2000000) -implicitDefEqProofs only [zz, zE, evop, ev, tget, tput, ok, V.isUndef, intBin, Ch.on, told, D.cells, loadD, structAt, sliceOf, lenOf, ↓reduceIte, reduceCtorEq, Nat.reduceLT, Nat.reduceEqDiff, nilTest, dT, tyC, h']
    refine wdraw_plan [⟨[], false, [10, 11, 65, 68, 69, 70, 71, 72], [], false⟩, ⟨[0], false, [10, 11, 65, 68, 69, 70, 71, 72], [], false⟩, ⟨[], false, [10, 11, 63, 64, 68, 69, 70, 71, 72], [0, 1], false⟩, ⟨[0, 1, 2], false, [10, 11, 68, 69, 70, 71, 72], [], false⟩, ⟨[0, 1, 2, 3], false, [10, 11, 68, 69, 70, 71, 72], [], false⟩, ⟨[], false, [10, 11, 63, 64, 65, 66, 67, 68, 69, 70, 71, 72], [0, 1, 2, 3, 4], true⟩, ⟨[5], false, [10, 11, 63, 64, 65, 66, 67, 69, 70, 71, 72], [0, 1, 2, 3, 4], true⟩, ⟨[], false, [10, 11, 63, 64, 65, 66, 67, 68, 69, 70, 71, 72], [0, 1, 2, 3, 4, 5, 6], true⟩, ⟨[5, 6, 7], false, [10, 11, 63, 64, 65, 66, 67, 71, 72], [0, 1, 2, 3, 4], true⟩, ⟨[5, 6, 7, 8], false, [10, 11, 63, 64, 65, 66, 67, 72], [0, 1, 2, 3, 4], true⟩, ⟨[], false, [11, 63, 64, 65, 66, 67, 68, 69, 70, 71, 72], [0, 1, 2, 3, 4, 5, 6, 7, 8, 9], false⟩, ⟨[], false, [10, 63, 64, 65, 66, 67, 68, 69, 70, 71, 72], [0, 1, 2, 3, 4, 5, 6, 7, 8, 9, 10], false⟩, ⟨[0, 1, 2, 3, 4, 10, 11], true, [68, 69, 70, 71, 72], [], false⟩, ⟨[0, 1, 2, 3, 4, 5, 6, 7, 8, 9, 10, 11, 12], true, [], [], false⟩] (by decide) ?_
    simp (maxSteps := 2000000) -implicitDefEqProofs only [zz, zE, evop, ev, tget, tput, ok, V.isUndef, Ch.on, calleeOf, withArgs, hget, hput, V.cells, D.cells, V.one, loadD, structAt, Blk.width, splice, D.over, ↓reduceIte, reduceCtorEq, Nat.reduceLT, Nat.reduceEqDiff, Nat.reduceAdd, Nat.reduceLeDiff, dFr, List.getElem?_map, hx, Option.map_some, Int.natCast_nonneg]
    refine acall_flat' (hn t.frames[i].regs (h7 _ (List.getElem_mem hi))) rfl ?_
    try simp (maxSteps := 2000000) -implicitDefEqProofs only [zz, zE, evop, ev, ofVal, tget, tput, ok, V.isUndef, intBin, guardOf, Ch.on, told, hget, structAt, Blk.width, ↓reduceIte, reduceCtorEq, Nat.reduceLT, Nat.reduceEqDiff, Nat.reduceAdd, nilTest]
    simp (maxSteps := 2000000) -implicitDefEqProofs only [hw]
    exact Weak.trims 0 rfl (by simp [tget, V.lower, dT, tyC]) (by simp)
  · have h' : ¬ ((t.frames.length : Int) < (t.frames.length : Int)) := by omega
    simp (maxSteps := 2000000) -implicitDefEqProofs only [zz, zE, evop, ev, tget, tput, ok, V.isUndef, intBin, guardOf, Ch.on, told, xport, D.cells, loadD, structAt, sliceOf, lenOf, resOf, resV, resVs, ↓reduceIte, reduceCtorEq, Nat.reduceLT, Nat.reduceEqDiff, nilTest, dT, tyC, h']

theorem c_law11_Ref (t : Ty) (hf : t.frames.length ≤ 1000000) : CSpec Tryz.prog 19 [dT t] (dT t) := by
  refine CSpec.of_awp envOf_ok hmix Tryz.func19 rfl (fun args w => Tryz.call19 args w) (by simp [Tryz.f19]) ?_
  simp only [Tryz.f19]
  simp (maxSteps := 2000000) -implicitDefEqProofs only [zz, zE, evop, ev, tget, V.isUndef, initT, V.cells, ↓reduceIte]
  unfold dT tyC
  simp (maxSteps := 2000000) -implicitDefEqProofs only [zz, zE, evop, tput, Ch.on, hput, ↓reduceIte, Nat.reduceLT]
  refine wdraw_plan [⟨[], false, [3, 8, 9, 10, 11, 12, 13, 14, 15, 16, 17, 18, 19, 20, 21, 22, 23, 24], [], false⟩, ⟨[0], false, [3, 8, 9, 10, 11, 12, 13, 14, 15, 16, 17, 18, 19, 20, 21, 22, 23, 24], [], false⟩, ⟨[], false, [3, 6, 7, 10, 11, 12, 13, 14, 15, 16, 17, 18, 19, 20, 21, 22, 23, 24], [0, 1], false⟩, ⟨[2], false, [3, 6, 7, 10, 11, 12, 13, 14, 15, 16, 17, 18, 19, 20, 21, 22, 23, 24], [0, 1], false⟩, ⟨[], false, [3, 6, 7, 8, 9, 12, 13, 14, 15, 16, 17, 18, 19, 20, 21, 22, 23, 24], [0, 1, 2, 3], false⟩, ⟨[4], false, [3, 6, 7, 8, 9, 12, 13, 14, 15, 16, 17, 18, 19, 20, 21, 22, 23, 24], [0, 1, 2, 3], false⟩, ⟨[], false, [3, 6, 7, 8, 9, 10, 11, 14, 15, 16, 17, 18, 19, 20, 21, 22, 23, 24], [0, 1, 2, 3, 4, 5], false⟩, ⟨[6], false, [3, 6, 7, 8, 9, 10, 11, 14, 15, 16, 17, 18, 19, 20, 21, 22, 23, 24], [0, 1, 2, 3, 4, 5], false⟩, ⟨[], false, [3, 6, 7, 8, 9, 10, 11, 12, 13, 16, 17, 18, 19, 20, 21, 22, 23, 24], [0, 1, 2, 3, 4, 5, 6, 7], false⟩, ⟨[8], false, [3, 6, 7, 8, 9, 10, 11, 12, 13, 16, 17, 18, 19, 20, 21, 22, 23, 24], [0, 1, 2, 3, 4, 5, 6, 7], false⟩, ⟨[], false, [3, 6, 7, 8, 9, 10, 11, 12, 13, 14, 15, 18, 19, 20, 21, 22, 23, 24], [0, 1, 2, 3, 4, 5, 6, 7, 8, 9], false⟩, ⟨[10], false, [3, 6, 7, 8, 9, 10, 11, 12, 13, 14, 15, 18, 19, 20, 21, 22, 23, 24], [0, 1, 2, 3, 4, 5, 6, 7, 8, 9], false⟩, ⟨[], false, [3, 6, 7, 8, 9, 10, 11, 12, 13, 14, 15, 16, 17, 21, 22, 23, 24], [0, 1, 2, 3, 4, 5, 6, 7, 8, 9, 10, 11], false⟩, ⟨[12], false, [3, 6, 7, 8, 9, 10, 11, 12, 13, 14, 15, 16, 17, 21, 22, 23, 24], [0, 1, 2, 3, 4, 5, 6, 7, 8, 9, 10, 11], false⟩, ⟨[12, 13], false, [3, 6, 7, 8, 9, 10, 11, 12, 13, 14, 15, 16, 17, 21, 22, 23, 24], [0, 1, 2, 3, 4, 5, 6, 7, 8, 9, 10, 11], false⟩, ⟨[], false, [3, 6, 7, 8, 9, 10, 11, 12, 13, 14, 15, 16, 17, 18, 19, 20, 23, 24], [0, 1, 2, 3, 4, 5, 6, 7, 8, 9, 10, 11, 12, 13, 14], false⟩, ⟨[15], false, [3, 6, 7, 8, 9, 10, 11, 12, 13, 14, 15, 16, 17, 18, 19, 20, 23, 24], [0, 1, 2, 3, 4, 5, 6, 7, 8, 9, 10, 11, 12, 13, 14], false⟩, ⟨[], false, [3, 6, 7, 8, 9, 10, 11, 12, 13, 14, 15, 16, 17, 18, 19, 20, 21, 22], [0, 1, 2, 3, 4, 5, 6, 7, 8, 9, 10, 11, 12, 13, 14, 15, 16], false⟩, ⟨[17], false, [3, 6, 7, 8, 9, 10, 11, 12, 13, 14, 15, 16, 17, 18, 19, 20, 21, 22], [0, 1, 2, 3, 4, 5, 6, 7, 8, 9, 10, 11, 12, 13, 14, 15, 16], false⟩, ⟨[0, 1, 2, 3, 4, 5, 6, 7, 8, 9, 10, 11, 12, 13, 14, 15, 16, 17, 18], false, [3], [], false⟩, ⟨[], false, [6, 7, 8, 9, 10, 11, 12, 13, 14, 15, 16, 17, 18, 19, 20, 21, 22, 23, 24, 25], [0, 1, 2, 3, 4, 5, 6, 7, 8, 9, 10, 11, 12, 13, 14, 15, 16, 17, 18, 19], false⟩, ⟨[0, 1, 2, 3, 4, 5, 6, 7, 8, 9, 10, 11, 12, 13, 14, 15, 16, 17, 18, 19, 20], true, [], [], false⟩] (by decide) ?_
  simp (maxSteps := 2000000) -implicitDefEqProofs only [zz, zE, evop, ev, ofVal, tget, tput, ok, V.isUndef, calleeOf, withArgs, hget, hput, V.cells, D.cells, loadD, structAt, partsV, Blk.width, splice, D.over, ↓reduceIte, reduceCtorEq, Nat.reduceLT, Nat.reduceEqDiff, Nat.reduceAdd, Nat.reduceLeDiff]
  have h1 := c_Ref t.log
  refine dcall_still' (h1) rfl ?_
  try simp (maxSteps := 2000000) -implicitDefEqProofs only [zz, zE, evop, ev, ofVal, tget, tput, ok, V.isUndef, Ch.on, hget, hput, V.one, structAt, sliceOf, Blk.width, lenOf, ↓reduceIte, reduceCtorEq, Nat.reduceLT, Nat.reduceEqDiff, Nat.reduceAdd, Nat.reduceLeDiff, dLg]
  refine wloop_count t.frames.length (fun i => [(29, .d (.int .i64 i)), (28, .d (.int .i64 t.frames.length)), (27, .d (.vec (t.frames.map dFr))), (2, .ptr 0 0 0), (3, .ptr 1 0 0)])
    (fun i => [bZ, .box false [.d (.int .i64 t.who), .d (.int .i64 t.snap), .d (.int .i64 t.pc), .d (.vec (t.regs.map dI)), .d (.vec (t.path.map dI)), .d (.vec (t.reads.map dRd)), .d (.vec (t.log.1.map dW)), .d (.vec (t.log.2.map dI)), .own 2 0 i, .d (.int .i64 t.kind), .d (.int .i64 t.why)], .dat false 4 ((t.frames.take i).map dFr)]) (fun _ => True) trivial ?_ (fun i hi _ => ?_) (fun _ => ?_)
  · refine Weak.pick [1, 22, 40] (by decide) (by simp) rfl (fun q hq => ?_) (fun i hi => ?_)
    · simp only [List.mem_cons, List.not_mem_nil, or_false] at hq
      rcases hq with rfl | rfl | rfl | rfl | rfl <;> exact .same _
    · match i, hi with
      | 0, _ => exact .box false _ _ rfl rfl (.cons (.same _) (.cons (.same _) (.cons (.same _) (.cons (.same _) (.cons (.same _) (.cons (.same _) (.cons (.same _) (.cons (.same _) (.cons (.same _) (.cons (.same _) (.cons (.same _) .nil)))))))))))
      | 1, _ => exact .box false _ _ rfl rfl (.cons (.same _) (.cons (.same _) (.cons (.same _) (.cons (.same _) (.cons (.same _) (.cons (.same _) (.cons (.same _) (.cons (.same _) (.cons (.nils 2 4 rfl) (.cons (.same _) (.cons (.same _) .nil)))))))))))
      | 2, _ => exact .virt 4 rfl rfl
      | i + 3, hi => exact absurd hi (by simp)
  · have hx : t.frames[i]? = some t.frames[i] := List.getElem?_eq_getElem hi
    have h' : ((i : Int) < (t.frames.length : Int)) := by omega
    have hw : IntKind.i64.wrap ((i : Int) + 1) = ((i + 1 : Nat) : Int) := by rw [wrap_in (by omega)]; omega
    have hT : t.frames.take (i + 1) = t.frames.take i ++ [t.frames[i]] := by rw [List.take_succ, hx]; rfl
    have e6 : List.take i ((t.frames.take i).map dFr) = (t.frames.take i).map dFr := by rw [List.take_of_length_le]; rw [List.length_map, List.length_take]; omega
    simp (maxSteps := 2000000) -implicitDefEqProofs only [zz, zE, evop, ev, ofVal, tget, tput, ok, V.isUndef, intBin, Ch.on, told, hget, hput, V.cells, D.cells, V.one, V.clo, clos, V.toD, loadD, structAt, sliceOf, partsD, Blk.width, elems, splice, ↓reduceIte, reduceCtorEq, Nat.reduceLT, Nat.reduceEqDiff, Nat.reduceAdd, Nat.reduceMul, Nat.reduceLeDiff, nilTest, dFr, bZ, h', List.getElem?_map, hx, Option.map_some, Int.natCast_nonneg, hw]
    refine ⟨⟨by omega, okEl_Fr [t.frames[i]]⟩, ?_⟩
    rw [hT, e6, List.map_append]
    refine Weak.pick [0, 1, 5] (by decide) (by simp) rfl (fun q hq => ?_) (fun i hi => ?_)
    · simp only [List.mem_cons, List.not_mem_nil, or_false] at hq
      rcases hq with rfl | rfl | rfl | rfl | rfl <;> exact .same _
    · match i, hi with
      | 0, _ => exact .box false _ _ rfl rfl (.cons (.same _) (.cons (.same _) (.cons (.same _) (.cons (.same _) (.cons (.same _) (.cons (.same _) (.cons (.same _) (.cons (.same _) (.cons (.same _) (.cons (.same _) (.cons (.same _) .nil)))))))))))
      | 1, _ => exact .box false _ _ rfl rfl (.cons (.same _) (.cons (.same _) (.cons (.same _) (.cons (.same _) (.cons (.same _) (.cons (.same _) (.cons (.same _) (.cons (.same _) (.cons (.same _) (.cons (.same _) (.cons (.same _) .nil)))))))))))
      | 2, _ => exact .dat _ _ _ rfl rfl
      | i + 3, hi => exact absurd hi (by simp)
  · have h' : ¬ ((t.frames.length : Int) < (t.frames.length : Int)) := by omega
    rw [List.take_length]
    simp (maxSteps := 2000000) -implicitDefEqProofs only [zz, zE, evop, ev, tget, tput, ok, intBin, Ch.on, told, xport, xports, hget, hput, V.cells, V.one, splice, resOf, resV, resVs, ↓reduceIte, Nat.reduceLT, Nat.reduceEqDiff, Nat.reduceAdd, Nat.reduceLeDiff, nilTest, bZ, h']
    rw [List.take_of_length_le (by simp)]
end Go.Proofs.YtjhfpabldidlgaaGreat.AM

set_option linter.all false
set_option maxRecDepth 100000
set_option maxHeartbeats 8000000
namespace Go.Proofs.YtjhfpabldidlgaaGreat.AM
open Go Go.RowKit

theorem c_r12_Same (c : Cm) (h : CSpec Tryz.prog 18 [dT c.t, dT c.t] (.bool true)) : CSpec Tryz.prog 35 [dCm c, dCm c] (.bool true) := by
  unfold dT tyC at h
  refine CSpec.of_awp envOf_ok hmix Tryz.func35 rfl (fun args w => Tryz.call35 args w) (by simp [Tryz.f35]) ?_
  simp only [Tryz.f35]
  simp (maxSteps := 2000000) -implicitDefEqProofs only [zz, zE, evop, ev, tget, V.isUndef, initT, V.cells, ↓reduceIte]
  unfold dCm cmC
  simp (maxSteps := 2000000) -implicitDefEqProofs only [zz, zE, evop, ev, ofVal, tget, tput, ok, V.isUndef, Ch.on, calleeOf, withArgs, hget, hput, V.cells, structAt, Blk.width, ↓reduceIte, reduceCtorEq, Nat.reduceLT, Nat.reduceEqDiff, Nat.reduceAdd, Nat.reduceLeDiff]
  refine acall_flat' (h) rfl ?_
  try simp (maxSteps := 2000000) -implicitDefEqProofs only [zz, zE, evop, ev, tget, tput, ok, V.isUndef, intBin, guardOf, Ch.on, xport, hget, structAt, Blk.width, resOf, resV, resVs, ↓reduceIte, reduceCtorEq, Nat.reduceLT, Nat.reduceEqDiff, Nat.reduceAdd, nilTest]
  try skip

theorem c_r12_Worlds (w : Wl) (h1 : w.heap.length ≤ 1000000) (h2 : w.tab.length ≤ 1000000) : CSpec Tryz.prog 41 [dWl w, dWl w] (.bool true) := by
  have a := c_r02_Same w.heap w.heap h1 h1
  have b := c_r03_Same w.tab w.tab h2 h2
  rw [decide_eq_true rfl] at a b
  refine CSpec.of_awp envOf_ok hmix Tryz.func41 rfl (fun args w => Tryz.call41 args w) (by simp [Tryz.f41]) ?_
  simp only [Tryz.f41]
  simp (maxSteps := 2000000) -implicitDefEqProofs only [zz, zE, evop, ev, tget, V.isUndef, initT, V.cells, ↓reduceIte]
  unfold dWl
  try simp (maxSteps := 2000000) -implicitDefEqProofs only [zz, zE, evop, ev, ofVal, tget, tput, ok, V.isUndef, Ch.on, hput, V.cells, ↓reduceIte, reduceCtorEq, Nat.reduceLT, Nat.reduceEqDiff]
  refine wdraw_plan [⟨[], false, [9, 10, 12, 13, 14, 15], [], false⟩, ⟨[0], false, [9, 10, 12, 13, 14, 15], [], false⟩, ⟨[], false, [7, 8, 12, 13, 14, 15], [0, 1], false⟩, ⟨[2], false, [7, 8, 12, 13, 14, 15], [0, 1], false⟩, ⟨[0, 1, 2, 3], false, [12, 13, 14, 15], [], false⟩, ⟨[], false, [7, 8, 9, 10, 11, 14, 15], [0, 1, 2, 3, 4], false⟩, ⟨[5], false, [7, 8, 9, 10, 11, 14, 15], [0, 1, 2, 3, 4], false⟩, ⟨[], false, [7, 8, 9, 10, 11, 12, 13], [0, 1, 2, 3, 4, 5, 6], false⟩, ⟨[7], false, [7, 8, 9, 10, 11, 12, 13], [0, 1, 2, 3, 4, 5, 6], false⟩, ⟨[0, 1, 2, 3, 4, 5, 6, 7, 8], true, [], [], false⟩, ⟨[0, 1, 2, 3, 4, 5, 6, 7, 8, 9], true, [], [], false⟩, ⟨[0, 1, 2, 3, 4, 5, 6, 7, 8, 9, 10], true, [], [], false⟩] (by decide) ?_
  simp (maxSteps := 2000000) -implicitDefEqProofs only [zz, zE, evop, ev, ofVal, tget, tput, ok, V.isUndef, calleeOf, withArgs, hget, hput, D.cells, loadD, structAt, Blk.width, ↓reduceIte, reduceCtorEq, Nat.reduceLT, Nat.reduceEqDiff, Nat.reduceAdd, Nat.reduceLeDiff]
  refine dcall_flat' (a) rfl ?_
  try skip
  refine acall_flat' (b) rfl ?_
  try simp (maxSteps := 2000000) -implicitDefEqProofs only [zz, zE, evop, ev, tget, tput, ok, V.isUndef, intBin, guardOf, Ch.on, xport, hget, structAt, Blk.width, resOf, resV, resVs, ↓reduceIte, reduceCtorEq, Nat.reduceLT, Nat.reduceEqDiff, Nat.reduceAdd, nilTest]
  try skip
end Go.Proofs.YtjhfpabldidlgaaGreat.AM

set_option linter.all false
set_option maxRecDepth 100000
set_option maxHeartbeats 4000000
namespace Go.Proofs.YtjhfpabldidlgaaGreat.AM
open Go Go.RowKit

end Go.Proofs.YtjhfpabldidlgaaGreat.AM

set_option linter.all false
set_option maxRecDepth 100000
set_option maxHeartbeats 4000000
namespace Go.Proofs.YtjhfpabldidlgaaGreat.AM
open Go Go.RowKit

theorem lastW_find {ws : List (Int × Int)} {p : Int × Int} (h : p ∈ lastW ws) : (lastW ws).find? (pW p.1) = some p := by
  cases e : (lastW ws).find? (pW p.1) with
  | none =>
    have := List.find?_eq_none.1 e p h
    simp [pW] at this
  | some q =>
    have hq := List.mem_of_find?_eq_some e
    have hq1 : q.1 = p.1 := by have := List.find?_some e; simpa [pW] using this
    obtain ⟨i, hi, rfl⟩ := List.getElem_of_mem hq
    obtain ⟨j, hj, rfl⟩ := List.getElem_of_mem h
    have hu := List.pairwise_iff_getElem.1 (up_lastW ws)
    rcases Nat.lt_trichotomy i j with g | g | g
    · have := hu i j hi hj g; omega
    · subst g; rfl
    · have := hu j i hj hi g; omega

theorem lastW_mem {ws : List (Int × Int)} {p : Int × Int} (h : p ∈ lastW ws) : p ∈ ws := by
  have e := lastW_find h
  rw [find_lastW] at e
  simpa using List.mem_of_find?_eq_some e

theorem heapPut_len (h : List (Bool × Int)) (ws : List (Int × Int)) : (heapPut h ws).1.length = h.length := by
  unfold heapPut
  split
  · split
    · exact putsH_len h ws
    · rfl
  · rfl

end Go.Proofs.YtjhfpabldidlgaaGreat.AM

set_option linter.all false
set_option maxRecDepth 100000
set_option maxHeartbeats 8000000
namespace Go.Proofs.YtjhfpabldidlgaaGreat.AM
open Go Go.RowKit

theorem lockR_err {t : List (Int × Int)} {who : Int} {cs : List Int} (h : (lockR t who cs).2 ≠ 0) : (lockR t who cs).1 = t := by
  unfold lockR at h ⊢
  split
  · rename_i h1
    rw [if_pos h1] at h
    split
    · rfl
    · rename_i h2
      rw [if_neg h2] at h
      simp at h
  · rfl
theorem stampR_err {t : List (Int × Int)} {who v : Int} (h : (stampR t who v).2 ≠ 0) : (stampR t who v).1 = t := by
  unfold stampR at h ⊢
  split
  · rename_i h1
    rw [if_pos h1] at h
    split
    · rfl
    · rename_i h2
      rw [if_neg h2] at h
      simp at h
  · rfl
theorem heapPut_err {h : List (Bool × Int)} {ws : List (Int × Int)} (he : (heapPut h ws).2 ≠ 0) : (heapPut h ws).1 = h := by
  unfold heapPut at he ⊢
  split
  · rename_i h1
    rw [if_pos h1] at he
    split
    · rename_i h2
      rw [if_pos h2] at he
      simp at he
    · rfl
  · rfl

theorem stp_0 {c : Cm} {w : Wl} (h : c.phase = 0) : stpC c w = if (lockR w.tab c.t.who (cellsC c)).2 ≠ 0 then goneC c w (lockR w.tab c.t.who (cellsC c)).2 else ({ c with phase := c.phase + 1 }, { w with tab := (lockR w.tab c.t.who (cellsC c)).1 }) := by
  unfold stpC phaseW
  simp only [if_pos h]
  split
  · rename_i g; rw [lockR_err g]
  · rfl
theorem stp_1 {c : Cm} {w : Wl} (h : c.phase = 1) (hw : mayW w = true) : stpC c w = if w.clock = 2147483647 then goneC c w 6 else ({ c with version := w.clock + 1, phase := c.phase + 1 }, { w with clock := w.clock + 1 }) := by
  simp only [mayW, Bool.and_eq_true] at hw
  unfold stpC phaseW tickNext
  simp only [if_neg (show ¬ c.phase = 0 by omega), if_pos h, if_pos hw.1.2]
  by_cases g : w.clock = 2147483647
  · simp [g]
  · simp [g]
theorem stp_2 {c : Cm} {w : Wl} (h : c.phase = 2) : stpC c w = if validR c.t.reads w.tab c.t.who ≠ 0 then goneC c w (validR c.t.reads w.tab c.t.who) else ({ c with phase := c.phase + 1 }, w) := by
  unfold stpC phaseW
  simp only [if_neg (show ¬ c.phase = 0 by omega), if_neg (show ¬ c.phase = 1 by omega), if_pos h]
theorem stp_3 {c : Cm} {w : Wl} (h : c.phase = 3) : stpC c w = if (heapPut w.heap (lastW c.t.log.1)).2 ≠ 0 then goneC c w (heapPut w.heap (lastW c.t.log.1)).2 else ({ c with phase := c.phase + 1 }, { w with heap := (heapPut w.heap (lastW c.t.log.1)).1 }) := by
  unfold stpC phaseW
  simp only [if_neg (show ¬ c.phase = 0 by omega), if_neg (show ¬ c.phase = 1 by omega), if_neg (show ¬ c.phase = 2 by omega), if_pos h]
  split
  · rename_i g; rw [heapPut_err g]
  · rfl
theorem stp_4 {c : Cm} {w : Wl} (h : c.phase = 4) : stpC c w = if (stampR w.tab c.t.who c.version).2 ≠ 0 then goneC c w (stampR w.tab c.t.who c.version).2 else ({ c with phase := c.phase + 1 }, { w with tab := (stampR w.tab c.t.who c.version).1 }) := by
  unfold stpC phaseW
  simp only [if_neg (show ¬ c.phase = 0 by omega), if_neg (show ¬ c.phase = 1 by omega), if_neg (show ¬ c.phase = 2 by omega), if_neg (show ¬ c.phase = 3 by omega)]
  split
  · rename_i g; rw [stampR_err g]
  · rfl

theorem last_span {l : Lg} (h : logR l = true) : ∀ w ∈ lastW l.1, spanR w.2 = true := by
  intro w hw
  obtain ⟨hg, x, hx, he⟩ := lastW_get hw
  have hm := lastW_mem hw
  have := (qlogR.1 h).2.2.1 _ hm
  simp only [wrongW, Bool.or_eq_false_iff, Bool.not_eq_false'] at this
  exact this.2

structure CmWell (c : Cm) : Prop extends CmOk c where
  rds : readsR c.t.reads = true
  who : whoB c.t.who = true
  err : 0 ≤ c.phase → c.phase < 5 → c.err = 0

end Go.Proofs.YtjhfpabldidlgaaGreat.AM

set_option linter.all false
set_option maxRecDepth 100000
set_option maxHeartbeats 8000000
namespace Go.Proofs.YtjhfpabldidlgaaGreat.AM
open Go Go.RowKit

theorem r_x_load (t : Ty) (h : List (Bool × Int)) (r : List (Int × Int)) (x : St) (hl : h.length ≤ 1000000) (htb : tableR r = true) (hreg : t.regs.length = 8) (ha : 0 ≤ x.a ∧ x.a < 8) (hpc : 0 ≤ t.pc ∧ t.pc ≤ 1000000)
    (hrd : readsR t.reads = true) (hrl : t.reads.length < 24) :
    RSpec Tryz.prog 113 [.ptr 0 0 0, .d (dS x)] [bX t h r] (.tuple []) [bX (loadT t x h r) h r] := by
  refine RSpec.of_awp envOf_ok hmix Tryz.func113 rfl (fun args w => Tryz.call113 args w) (by simp [Tryz.f113]) ?_
  simp only [Tryz.f113]
  simp (maxSteps := 2000000) -implicitDefEqProofs only [zz, zE, evop, ev, tget, tput, V.isUndef, Ch.on, hput, V.cells, ↓reduceIte, reduceCtorEq, Nat.reduceLT, initV, dS]
  unfold bX
  refine wdraw_plan [⟨[], false, [16, 17], [], false⟩, ⟨[0], false, [16, 17], [], false⟩, ⟨[0, 1], false, [16, 17], [], false⟩, ⟨[0, 1, 2], false, [16, 17], [], false⟩, ⟨[], false, [12, 13, 14, 15], [0, 1, 2, 3], false⟩, ⟨[4], false, [12, 13, 14, 15], [0, 1, 2, 3], false⟩, ⟨[0, 1, 2, 3, 4, 5], true, [], [], false⟩, ⟨[0, 1, 2, 3, 4, 5, 6], true, [], [], false⟩, ⟨[0, 1, 2, 3, 4, 5, 6, 7], false, [20], [], false⟩, ⟨[0, 1, 2, 3, 4, 5, 6, 7], false, [4, 19], [8], false⟩, ⟨[0, 1, 2, 3, 4, 5, 6, 7, 8], false, [20], [9], false⟩, ⟨[0, 1, 2, 3, 4, 5, 6, 7, 8, 9, 10], true, [], [], false⟩] (by decide) ?_
  simp (maxSteps := 2000000) -implicitDefEqProofs only [zz, zE, evop, ev, ofVal, tget, tput, ok, V.isUndef, calleeOf, withArgs, hget, hput, D.cells, loadD, structAt, isPtr, Blk.width, ↓reduceIte, reduceCtorEq, Nat.reduceLT, Nat.reduceEqDiff, Nat.reduceAdd, Nat.reduceLeDiff]
  refine acall_flat' (c_heap_Get h x.b hl) rfl ?_
  try simp (maxSteps := 2000000) -implicitDefEqProofs only [zz, zE, evop, ev, ofVal, tget, tput, ok, V.isUndef, intBin, Ch.on, calleeOf, withArgs, told, hget, hput, structAt, Blk.width, ↓reduceIte, reduceCtorEq, Nat.reduceLT, Nat.reduceEqDiff, Nat.reduceAdd, Nat.reduceSub, Nat.reduceLeDiff, nilTest]
  by_cases h0 : (heapGet h x.b).2 = 0
  case neg =>
    have e : ((heapGet h x.b).2 != 0) = true := by simpa using h0
    have hst : loadT t x h r = endT t 4 x.b := by unfold loadT; rw [if_pos h0]
    rw [hst]
    have hr := r_x_end t h r 4 x.b
    unfold bX at hr
    simp (maxSteps := 2000000) -implicitDefEqProofs only [↓reduceIte, e]
    refine acall_ref [0] (hr) (by first | rfl | simp [renL, V.ren, frρ, renL_ds]) (by simp) rfl (by simp) (by simp) (by intro j hj; match j, hj with | 0, _ => exact ⟨by simp [hget], rfl⟩) ?_
    try simp (maxSteps := 2000000) -implicitDefEqProofs only [zz, tput, hput, resOf, resVs, ↓reduceIte, Nat.reduceLT, Nat.reduceAdd, Blk.ren, V.ren, renL, frameH, putL]
    exact Weak.trimsM 1 (by simp) rfl (by simp [tget, V.lower, lowerL]) (by simp [Blk.lower, lowerL, V.lower])
  have e : ((heapGet h x.b).2 != 0) = false := by simpa using h0
  have hn := not_not_intro h0
  simp (maxSteps := 2000000) -implicitDefEqProofs only [zz, ↓reduceIte, e]
  refine wdraw_plan [⟨[], false, [33, 34], [], false⟩, ⟨[0], false, [33, 34], [], false⟩, ⟨[0, 1], false, [33, 34], [], false⟩, ⟨[0, 1, 2], false, [33, 34], [], false⟩, ⟨[0, 1, 2, 3], false, [33, 34], [], false⟩, ⟨[], false, [28, 29, 30, 31, 32], [0, 1, 2, 3, 4], false⟩, ⟨[5], false, [28, 29, 30, 31, 32], [0, 1, 2, 3, 4], false⟩, ⟨[0, 1, 2, 3, 4, 5, 6], true, [], [], false⟩, ⟨[0, 1, 2, 3, 4, 5, 6, 7], true, [], [], false⟩, ⟨[0, 1, 2, 3, 4, 5, 6, 7, 8], false, [37], [], false⟩, ⟨[0, 1, 2, 3, 4, 5, 6, 7, 8], false, [6, 36], [9], false⟩, ⟨[0, 1, 2, 3, 4, 5, 6, 7, 8, 9], false, [37], [10], false⟩, ⟨[0, 1, 2, 3, 4, 5, 6, 7, 8, 9, 10, 11], true, [], [], false⟩] (by decide) ?_
  simp (maxSteps := 2000000) -implicitDefEqProofs only [zz, zE, evop, ev, ofVal, tget, tput, ok, V.isUndef, calleeOf, withArgs, hget, hput, D.cells, loadD, structAt, isPtr, Blk.width, ↓reduceIte, reduceCtorEq, Nat.reduceLT, Nat.reduceEqDiff, Nat.reduceAdd, Nat.reduceLeDiff]
  have hg := c_Get t.log x.b
  refine acall_flat' (hg) rfl ?_
  try simp (maxSteps := 2000000) -implicitDefEqProofs only [zz, zE, evop, ev, tget, tput, ok, V.isUndef, Ch.on, calleeOf, withArgs, told, hget, hput, structAt, Blk.width, ↓reduceIte, reduceCtorEq, Nat.reduceLT, Nat.reduceEqDiff, Nat.reduceAdd, Nat.reduceSub, Nat.reduceLeDiff]
  cases hg2 : (getL t.log x.b).2 with
  | true =>
    have g2 : (logR t.log && (getW t.log.1 x.b).2) = true := hg2
    have hst : loadT t x h r = putT t x.a (getL t.log x.b).1 := by unfold loadT; rw [if_neg hn, if_pos hg2]
    rw [hst]
    have hr := r_x_put t h r x.a (getL t.log x.b).1 hreg ha hpc
    unfold bX getL at hr
    simp (maxSteps := 2000000) -implicitDefEqProofs only [↓reduceIte, g2]
    refine acall_ref [0] (hr) (by first | rfl | simp [renL, V.ren, frρ, renL_ds]) (by simp) rfl (by simp) (by simp) (by intro j hj; match j, hj with | 0, _ => exact ⟨by simp [hget], rfl⟩) ?_
    try simp (maxSteps := 2000000) -implicitDefEqProofs only [zz, tput, hput, resOf, resVs, ↓reduceIte, Nat.reduceLT, Nat.reduceAdd, Blk.ren, V.ren, renL, frameH, putL]
    exact Weak.trimsM 1 (by simp) rfl (by simp [tget, V.lower, lowerL]) (by simp [Blk.lower, lowerL, V.lower])
  | false =>
    have g2 : (logR t.log && (getW t.log.1 x.b).2) = false := hg2
    have hng : ¬ (getL t.log x.b).2 = true := by rw [hg2]; decide
    simp (maxSteps := 2000000) -implicitDefEqProofs only [zz, ↓reduceIte, g2]
    refine wdraw_plan [⟨[], false, [8, 50, 51], [], false⟩, ⟨[0], false, [8, 50, 51], [], false⟩, ⟨[0, 1], false, [8, 50, 51], [], false⟩, ⟨[0, 1, 2], false, [8, 50, 51], [], false⟩, ⟨[0, 1, 2, 3], false, [8, 50, 51], [], false⟩, ⟨[], false, [8, 45, 46, 47, 48, 49], [0, 1, 2, 3, 4], false⟩, ⟨[5], false, [8, 45, 46, 47, 48, 49], [0, 1, 2, 3, 4], false⟩, ⟨[0, 1, 2, 3, 4, 5, 6], false, [8], [], false⟩, ⟨[0, 1, 2, 3, 4, 5, 6, 7], false, [8], [], false⟩, ⟨[0, 1, 2, 3, 4, 5, 6, 7, 8], false, [8, 54], [], false⟩, ⟨[0, 1, 2, 3, 4, 5, 6, 7, 8], false, [8, 53, 54], [9], true⟩, ⟨[], false, [44, 45, 46, 47, 48, 49, 50, 51, 52, 53, 54], [0, 1, 2, 3, 4, 5, 6, 7, 8, 9, 10], false⟩, ⟨[0, 1, 2, 3, 4, 5, 6, 7, 8, 9, 11], true, [54], [], false⟩, ⟨[0, 1, 2, 3, 4, 5, 6, 7, 8, 9, 10, 11, 12], true, [], [], false⟩] (by decide) ?_
    simp (maxSteps := 2000000) -implicitDefEqProofs only [zz, zE, evop, ev, ofVal, tget, tput, ok, V.isUndef, calleeOf, withArgs, hget, hput, V.cells, D.cells, loadD, structAt, isPtr, Blk.width, splice, D.over, ↓reduceIte, reduceCtorEq, Nat.reduceLT, Nat.reduceEqDiff, Nat.reduceAdd, Nat.reduceLeDiff]
    have hf := c_reads_Find t.reads x.b (by omega)
    cases hfd : t.reads.find? (fun y => y.1 == x.b) with
    | some y =>
      have hfr : findR t.reads x.b = (y, true) := by unfold findR; rw [if_pos hrd, hfd]
      rw [hfr] at hf
      have hst : loadT t x h r = putT t x.a y.2.2 := by unfold loadT; rw [if_neg hn, if_neg hng, hfd]
      rw [hst]
      have hr := r_x_put t h r x.a y.2.2 hreg ha hpc
      unfold bX at hr
      refine dcall_still' (hf) rfl ?_
      try simp (maxSteps := 2000000) -implicitDefEqProofs only [zz, zE, evop, ev, tget, tput, ok, V.isUndef, Ch.on, calleeOf, withArgs, told, hget, hput, V.one, structAt, Blk.width, ↓reduceIte, reduceCtorEq, Nat.reduceLT, Nat.reduceEqDiff, Nat.reduceAdd, dRd]
      refine acall_ref [0] (hr) (by first | rfl | simp [renL, V.ren, frρ, renL_ds]) (by simp) rfl (by simp) (by simp) (by intro j hj; match j, hj with | 0, _ => exact ⟨by simp [hget], rfl⟩) ?_
      try simp (maxSteps := 2000000) -implicitDefEqProofs only [zz, tput, hput, resOf, resVs, ↓reduceIte, Nat.reduceLT, Nat.reduceAdd, Blk.ren, V.ren, renL, frameH, putL]
      exact Weak.trimsM 1 (by simp) rfl (by simp [tget, V.lower, lowerL]) (by simp [Blk.lower, lowerL, V.lower])
    | none =>
      have hfr : findR t.reads x.b = ((0, 0, 0), false) := by unfold findR; rw [if_pos hrd, hfd]
      rw [hfr] at hf
      obtain ⟨z1, z2, z3, z4, z5⟩ := heapGet_0 h0
      obtain ⟨y1, y2, y3, y4, y5, y6, y7⟩ := recR_in htb z4
      have hrx : r[(x.b.tmod r.length).toNat]? = some (recR r x.b) := by
        unfold recR
        rw [List.getElem?_eq_getElem (by omega)]
        rfl
      have hrne : (r.length : Int) ≠ 0 := by omega
      refine dcall_still' (hf) rfl ?_
      try simp (maxSteps := 2000000) -implicitDefEqProofs only [zz, evop, ev, tget, tput, ok, V.isUndef, Ch.on, told, hput, V.one, ↓reduceIte, Nat.reduceLT, Nat.reduceEqDiff, Nat.reduceAdd, dRd]
      refine wdraw_plan [⟨[], false, [10, 66, 67, 68, 69, 70, 71, 72, 73], [], false⟩, ⟨[0], false, [10, 66, 67, 68, 69, 70, 71, 72, 73], [], false⟩, ⟨[0, 1], false, [10, 66, 67, 68, 69, 70, 71, 72, 73], [], false⟩, ⟨[0, 1, 2], false, [10, 66, 67, 68, 69, 70, 71, 72, 73], [], false⟩, ⟨[], false, [10, 62, 63, 64, 65, 68, 69, 70, 71, 72], [0, 1, 2, 3], false⟩, ⟨[4], false, [10, 62, 63, 64, 65, 68, 69, 70, 71, 72], [0, 1, 2, 3], false⟩, ⟨[], false, [10, 62, 63, 64, 65, 66, 67], [0, 1, 2, 3, 4, 5], false⟩, ⟨[6], false, [10, 62, 63, 64, 65, 66, 67], [0, 1, 2, 3, 4, 5], false⟩, ⟨[6, 7], false, [10, 62, 63, 64, 65, 66, 67], [0, 1, 2, 3, 4, 5], false⟩, ⟨[6, 7, 8], false, [10, 62, 63, 64, 65, 66, 67], [0, 1, 2, 3, 4, 5], false⟩, ⟨[6, 7, 8, 9], false, [10, 62, 63, 64, 65, 66, 67], [0, 1, 2, 3, 4, 5], false⟩, ⟨[4, 5, 6, 7, 8, 9, 10], false, [10, 62, 63, 64, 65], [0, 1, 2, 3], false⟩, ⟨[0, 1, 2, 3, 4, 5, 6, 7, 8, 9, 10, 11], false, [10], [], false⟩, ⟨[0, 1, 2, 3, 4, 5, 6, 7, 8, 9, 10, 11, 12], false, [10], [], false⟩, ⟨[], false, [62, 63, 64, 65, 66, 67, 68, 69, 70, 71, 72, 73, 74, 75], [0, 1, 2, 3, 4, 5, 6, 7, 8, 9, 10, 11, 12, 13], false⟩, ⟨[0, 1, 2, 3, 4, 5, 6, 7, 8, 9, 10, 11, 12, 13, 14], true, [], [], false⟩] (by decide) ?_
      simp (maxSteps := 2000000) -implicitDefEqProofs only [zz, zE, evop, ev, tget, tput, ok, V.isUndef, intBin, Ch.on, hget, hput, V.cells, D.cells, V.isAgg, V.one, loadD, structAt, sliceOf, isPtr, Blk.width, lenOf, splice, D.over, ↓reduceIte, reduceCtorEq, Nat.reduceLT, Nat.reduceEqDiff, Nat.reduceAdd, Nat.reduceLeDiff, dW, List.getElem?_map, hrx, Option.map_some]
      refine ⟨hrne, y6, ?_⟩
      by_cases ho : (recR r x.b).2 = 0
      case neg =>
        have eo : ((recR r x.b).2 != 0) = true := by simpa using ho
        have hst : loadT t x h r = endT t 5 0 := by unfold loadT; rw [if_neg hn, if_neg hng, hfd]; simp only; rw [if_pos (.inl ho)]
        rw [hst]
        have hr := r_x_end t h r 5 0
        unfold bX at hr
        refine wdraw_plan [⟨[], true, [], [], false⟩, ⟨[0], true, [], [], false⟩, ⟨[0, 1], true, [], [], false⟩, ⟨[0, 1, 2], true, [], [], false⟩, ⟨[0, 1, 2, 3], false, [82, 83, 84, 85, 86], [], false⟩, ⟨[0, 1, 2, 3, 4], false, [82, 83, 84, 85, 86], [], false⟩, ⟨[0, 1, 2, 3], false, [80, 81], [4, 5], false⟩, ⟨[0, 1, 2, 3, 6], false, [80, 81], [4, 5], false⟩, ⟨[0, 1, 2, 3, 6, 7], false, [80, 81], [4, 5], false⟩, ⟨[0, 1, 2, 3, 6, 7, 8], false, [80, 81], [4, 5], false⟩, ⟨[0, 1, 2, 3, 6, 7, 8, 9], false, [80, 81], [4, 5], false⟩, ⟨[0, 1, 2, 3, 4, 5, 6, 7, 8, 9, 10], false, [], [], false⟩, ⟨[0, 1, 2, 3, 4, 5, 6, 7, 8, 9, 10, 11], true, [], [], false⟩] (by decide) ?_
        simp (maxSteps := 2000000) -implicitDefEqProofs only [zz, zE, evop, ev, ofVal, tget, tput, ok, V.isUndef, intBin, guardOf, Ch.on, calleeOf, withArgs, told, hget, hput, structAt, Blk.width, ↓reduceIte, reduceCtorEq, Nat.reduceLT, Nat.reduceEqDiff, Nat.reduceAdd, Nat.reduceSub, eo]
        refine acall_ref [0] (hr) (by first | rfl | simp [renL, V.ren, frρ, renL_ds]) (by simp) rfl (by simp) (by simp) (by intro j hj; match j, hj with | 0, _ => exact ⟨by simp [hget], rfl⟩) ?_
        try simp (maxSteps := 2000000) -implicitDefEqProofs only [zz, tput, hput, resOf, resVs, ↓reduceIte, Nat.reduceLT, Nat.reduceAdd, Blk.ren, V.ren, renL, frameH, putL]
        exact Weak.trimsM 1 (by simp) rfl (by simp [tget, V.lower, lowerL]) (by simp [Blk.lower, lowerL, V.lower])
      have eo : ((recR r x.b).2 != 0) = false := by simpa using ho
      by_cases hv : (recR r x.b).1 > t.snap
      case pos =>
        have hst : loadT t x h r = endT t 5 0 := by unfold loadT; rw [if_neg hn, if_neg hng, hfd]; simp only; rw [if_pos (.inr hv)]
        rw [hst]
        have hr := r_x_end t h r 5 0
        unfold bX at hr
        refine wdraw_plan [⟨[], true, [], [], false⟩, ⟨[0], true, [], [], false⟩, ⟨[0, 1], true, [], [], false⟩, ⟨[0, 1, 2], true, [], [], false⟩, ⟨[0, 1, 2, 3], false, [82, 83, 84, 85, 86], [], false⟩, ⟨[0, 1, 2, 3, 4], false, [82, 83, 84, 85, 86], [], false⟩, ⟨[0, 1, 2, 3], false, [80, 81], [4, 5], false⟩, ⟨[0, 1, 2, 3, 6], false, [80, 81], [4, 5], false⟩, ⟨[0, 1, 2, 3, 6, 7], false, [80, 81], [4, 5], false⟩, ⟨[0, 1, 2, 3, 6, 7, 8], false, [80, 81], [4, 5], false⟩, ⟨[0, 1, 2, 3, 6, 7, 8, 9], false, [80, 81], [4, 5], false⟩, ⟨[0, 1, 2, 3, 4, 5, 6, 7, 8, 9, 10], false, [], [], false⟩, ⟨[0, 1, 2, 3, 4, 5, 6, 7, 8, 9, 10, 11], true, [], [], false⟩] (by decide) ?_
        simp (maxSteps := 2000000) -implicitDefEqProofs only [zz, zE, evop, ev, ofVal, tget, tput, ok, V.isUndef, intBin, guardOf, Ch.on, calleeOf, withArgs, told, hget, hput, V.cells, D.cells, V.isAgg, loadD, structAt, isPtr, Blk.width, ↓reduceIte, reduceCtorEq, Nat.reduceLT, Nat.reduceEqDiff, Nat.reduceAdd, Nat.reduceSub, Nat.reduceLeDiff, eo, hv]
        refine acall_ref [0] (hr) (by first | rfl | simp [renL, V.ren, frρ, renL_ds]) (by simp) rfl (by simp) (by simp) (by intro j hj; match j, hj with | 0, _ => exact ⟨by simp [hget], rfl⟩) ?_
        try simp (maxSteps := 2000000) -implicitDefEqProofs only [zz, tput, hput, resOf, resVs, ↓reduceIte, Nat.reduceLT, Nat.reduceAdd, Blk.ren, V.ren, renL, frameH, putL]
        exact Weak.trimsM 1 (by simp) rfl (by simp [tget, V.lower, lowerL]) (by simp [Blk.lower, lowerL, V.lower])
      have hst : loadT t x h r = putT { t with reads := t.reads ++ [(x.b, (recR r x.b).1, (heapGet h x.b).1)] } x.a (heapGet h x.b).1 := by
        unfold loadT; rw [if_neg hn, if_neg hng, hfd]; simp only; rw [if_neg (by omega)]
      rw [hst]
      refine wdraw_plan [⟨[], true, [], [], false⟩, ⟨[0], true, [], [], false⟩, ⟨[0, 1], true, [], [], false⟩, ⟨[0, 1, 2], true, [], [], false⟩, ⟨[0, 1, 2, 3], false, [82, 83, 84, 85, 86], [], false⟩, ⟨[0, 1, 2, 3, 4], false, [82, 83, 84, 85, 86], [], false⟩, ⟨[0, 1, 2, 3], false, [80, 81], [4, 5], false⟩, ⟨[0, 1, 2, 3, 6], false, [80, 81], [4, 5], false⟩, ⟨[0, 1, 2, 3, 6, 7], false, [80, 81], [4, 5], false⟩, ⟨[0, 1, 2, 3, 6, 7, 8], false, [80, 81], [4, 5], false⟩, ⟨[0, 1, 2, 3, 6, 7, 8, 9], false, [80, 81], [4, 5], false⟩, ⟨[0, 1, 2, 3, 4, 5, 6, 7, 8, 9, 10], false, [], [], false⟩, ⟨[0, 1, 2, 3, 4, 5, 6, 7, 8, 9, 10, 11], true, [], [], false⟩] (by decide) ?_
      simp (maxSteps := 2000000) -implicitDefEqProofs only [zz, zE, evop, ev, ofVal, tget, tput, ok, V.isUndef, intBin, guardOf, Ch.on, told, hget, hput, V.cells, D.cells, V.isAgg, loadD, structAt, isPtr, Blk.width, ↓reduceIte, reduceCtorEq, Nat.reduceLT, Nat.reduceEqDiff, Nat.reduceAdd, Nat.reduceSub, Nat.reduceLeDiff, eo, hv]
      refine wdraw_plan [⟨[], false, [91, 92, 93, 94, 95, 96, 97, 98, 99, 100, 101, 102, 103, 104, 105, 106], [], true⟩, ⟨[], false, [92, 98, 99, 100, 101, 102, 103], [0], false⟩, ⟨[1], false, [92, 98, 99, 100, 101, 102, 103], [0], false⟩, ⟨[1, 2], false, [92, 98, 99, 100, 101, 102, 103], [0], false⟩, ⟨[1, 2, 3], false, [92, 98, 99, 100, 101, 102, 103], [0], false⟩, ⟨[1, 2, 3, 4], false, [92, 98, 99, 100, 101, 102, 103], [0], false⟩, ⟨[], false, [92, 93, 94, 95, 96, 97, 100, 101, 102], [0, 1, 2, 3, 4, 5], false⟩, ⟨[6], false, [92, 93, 94, 95, 96, 97, 100, 101, 102], [0, 1, 2, 3, 4, 5], false⟩, ⟨[], false, [92, 93, 94, 95, 96, 97, 98, 99, 102], [0, 1, 2, 3, 4, 5, 6, 7], false⟩, ⟨[8], false, [92, 93, 94, 95, 96, 97, 98, 99, 102], [0, 1, 2, 3, 4, 5, 6, 7], false⟩, ⟨[], false, [92, 93, 94, 95, 96, 97, 98, 99, 100, 101], [0, 1, 2, 3, 4, 5, 6, 7, 8, 9], false⟩, ⟨[6, 7, 8, 9, 10], false, [92, 93, 94, 95, 96, 97], [0, 1, 2, 3, 4, 5], false⟩, ⟨[1, 2, 3, 4, 5, 6, 7, 8, 9, 10, 11], true, [92], [], false⟩, ⟨[1, 2, 3, 4, 5, 6, 7, 8, 9, 10, 11, 12], false, [92], [0], false⟩, ⟨[1, 2, 3, 4, 5, 6, 7, 8, 9, 10, 11, 12, 13], false, [92, 106], [0], false⟩, ⟨[1, 2, 3, 4, 5, 6, 7, 8, 9, 10, 11, 12, 13], false, [92, 105, 106, 107, 108, 109], [0, 14], true⟩, ⟨[0, 1, 2, 3, 4, 5, 6, 7, 8, 9, 10, 11, 12, 13, 14], false, [106], [15], false⟩, ⟨[0, 1, 2, 3, 4, 5, 6, 7, 8, 9, 10, 11, 12, 13, 14, 16], false, [106], [15], false⟩, ⟨[0, 1, 2, 3, 4, 5, 6, 7, 8, 9, 10, 11, 12, 13, 14, 16, 17], false, [106], [15], false⟩, ⟨[0, 1, 2, 3, 4, 5, 6, 7, 8, 9, 10, 11, 12, 13, 14, 16, 17, 18], true, [106], [], false⟩] (by decide) ?_
      simp (maxSteps := 2000000) -implicitDefEqProofs only [zz, zE, evop, ev, ofVal, tget, tput, ok, V.isUndef, calleeOf, withArgs, hget, hput, V.cells, D.cells, loadD, structAt, partsV, isPtr, Blk.width, splice, ↓reduceIte, reduceCtorEq, Nat.reduceLT, Nat.reduceEqDiff, Nat.reduceAdd, Nat.reduceLeDiff]
      have hadd := c_reads_Add t.reads (x.b, (recR r x.b).1, (heapGet h x.b).1) hrl hrd (by simp only [rightRd, tickR, Bool.and_eq_true, decide_eq_true_eq]; exact ⟨⟨z4, y2, y3⟩, z3⟩) hfd
      refine acall_ice' (hadd) ?_
      try simp (maxSteps := 2000000) -implicitDefEqProofs only [zz, zE, evop, ev, tget, tput, ok, V.isUndef, Ch.on, calleeOf, withArgs, tids, tidss, hget, hput, freeze, V.cells, D.cells, V.one, structAt, isPtr, Blk.width, splice, D.over, ↓reduceIte, reduceCtorEq, Nat.reduceLT, Nat.reduceEqDiff, Nat.reduceAdd, Nat.reduceSub, Nat.reduceLeDiff]
      have hr := r_x_put { t with reads := t.reads ++ [(x.b, (recR r x.b).1, (heapGet h x.b).1)] } h r x.a (heapGet h x.b).1 hreg ha hpc
      unfold bX at hr
      refine acall_ref [0] (hr) (by first | rfl | simp [renL, V.ren, frρ, renL_ds]) (by simp) rfl (by simp) (by simp) (by intro j hj; match j, hj with | 0, _ => exact ⟨by simp [hget], rfl⟩) ?_
      try simp (maxSteps := 2000000) -implicitDefEqProofs only [zz, tput, hput, resOf, resVs, ↓reduceIte, Nat.reduceLT, Nat.reduceAdd, Blk.ren, V.ren, renL, frameH, putL]
      exact Weak.trimsM 1 (by simp) rfl (by simp [tget, V.lower, lowerL]) (by simp [Blk.lower, lowerL, V.lower])
end Go.Proofs.YtjhfpabldidlgaaGreat.AM

set_option linter.all false
set_option maxRecDepth 100000
set_option maxHeartbeats 4000000
namespace Go.Proofs.YtjhfpabldidlgaaGreat.AM
open Go Go.RowKit

theorem c_attempt_Begin (c : List St) (who snap : Int) (hl : c.length ≤ 1000000) (ht : ∀ s ∈ c, s.t.length ≤ 1000000) : CSpec Tryz.prog 15 [.vec (c.map dS), .int .i64 who, .int .i64 snap] (.tuple [dT (begT c who snap), .int .i64 (if mayB c who snap = true then 0 else 1)]) := by
  have bad : mayB c who snap = false → begT c who snap = zeroT ∧ (if mayB c who snap = true then (0 : Int) else 1) = 1 := fun h => by simp [begT, h]
  refine CSpec.of_awp envOf_ok hmix Tryz.func15 rfl (fun args w => Tryz.call15 args w) (by simp [Tryz.f15]) ?_
  simp only [Tryz.f15]
  simp (maxSteps := 2000000) -implicitDefEqProofs only [zz, zE, evop, ev, ofVal, tget, tput, ok, V.isUndef, initT, Ch.on, calleeOf, withArgs, hput, ↓reduceIte, reduceCtorEq, Nat.reduceLT, Nat.reduceAdd]
  refine acall_flat' (c_code_Check c hl ht) rfl ?_
  try simp (maxSteps := 2000000) -implicitDefEqProofs only [zz, zE, evop, ev, ofVal, tget, tput, ok, V.isUndef, intBin, guardOf, Ch.on, calleeOf, withArgs, told, xport, xports, hget, hput, V.cells, V.one, partsV, splice, resOf, resV, resVs, ↓reduceIte, reduceCtorEq, Nat.reduceLT, Nat.reduceEqDiff, Nat.reduceAdd, Nat.reduceLeDiff, nilTest]
  by_cases h1 : codeC c = 0
  case neg =>
    have e1 : (codeC c != 0) = true := by simpa using h1
    obtain ⟨b1, b2⟩ := bad (by simp [mayB, h1])
    rw [b1, b2]
    simp (maxSteps := 2000000) -implicitDefEqProofs only [zz, ↓reduceIte, e1]
    rfl
  have e1 : (codeC c != 0) = false := by simpa using h1
  by_cases h2 : who < 1
  · obtain ⟨b1, b2⟩ := bad (by have : ¬ 1 ≤ who := by omega
                               simp [mayB, this])
    rw [b1, b2]
    simp (maxSteps := 2000000) -implicitDefEqProofs only [zz, ↓reduceIte, e1, h2]
    rfl
  by_cases h3 : who > 8
  · obtain ⟨b1, b2⟩ := bad (by have : ¬ who ≤ 8 := by omega
                               simp [mayB, this])
    rw [b1, b2]
    simp (maxSteps := 2000000) -implicitDefEqProofs only [zz, ↓reduceIte, e1, h2, h3]
    rfl
  simp (maxSteps := 2000000) -implicitDefEqProofs only [zz, ↓reduceIte, e1, h2, h3]
  refine acall_flat' (c_tick_Right snap) rfl ?_
  try simp (maxSteps := 2000000) -implicitDefEqProofs only [zz, zE, evop, ev, ofVal, tget, tput, ok, V.isUndef, guardOf, Ch.on, told, xport, xports, hget, hput, V.cells, V.one, sliceOf, partsV, splice, resOf, resV, resVs, ↓reduceIte, reduceCtorEq, Nat.reduceLT, Nat.reduceEqDiff, Nat.reduceAdd, Nat.reduceLeDiff, Int.reduceToNat]
  cases h4 : tickR snap with
  | false =>
    obtain ⟨b1, b2⟩ := bad (by simp [mayB, h4])
    rw [b1, b2]
    simp (maxSteps := 2000000) -implicitDefEqProofs only [zz, ↓reduceIte]
    rfl
  | true =>
    have hB : mayB c who snap = true := by
      have a1 : 1 ≤ who := by omega
      have a2 : who ≤ 8 := by omega
      simp [mayB, h1, h4, a1, a2]
    have g1 : begT c who snap = setT c.length (newT who snap) := by simp [begT, hB]
    rw [g1, if_pos hB]
    simp (maxSteps := 2000000) -implicitDefEqProofs only [zz, ↓reduceIte]
    have hs : CSpec Tryz.prog 54 [.agg [.int .i64 who, .int .i64 snap, .int .i64 0, .vec [.int .i64 0, .int .i64 0, .int .i64 0, .int .i64 0, .int .i64 0, .int .i64 0, .int .i64 0, .int .i64 0], .vec [], .vec [], .vec [], .vec [], .vec [], .int .i64 0, .int .i64 0], .vec (c.map dS)] (dT (setT c.length (newT who snap))) :=
      c_settled (newT who snap) c (by simp [newT, zeroT]) (by simp [newT, zeroT]) (by simp [newT, zeroT])
    have hok : okEl 1 (D.int IntKind.i64 0) = true := rfl
    simp (maxSteps := 2000000) -implicitDefEqProofs only [zz, zE, evop, ev, tget, tput, ok, V.isUndef, Ch.on, calleeOf, withArgs, hput, V.cells, V.one, V.clo, clos, partsV, splice, ↓reduceIte, reduceCtorEq, Nat.reduceLT, Nat.reduceEqDiff, Nat.reduceAdd, Nat.reduceLeDiff, zeroD, clos, V.clo, hok, List.replicate]
    refine ⟨by decide, ?_⟩
    refine acall_ice' (hs) ?_
    try simp (maxSteps := 2000000) -implicitDefEqProofs only [zz, zE, evop, ev, tget, tput, tids, tidss, hget, hput, Blk.ice, freeze, V.cells, splice, ↓reduceIte, Nat.reduceLT, Nat.reduceEqDiff, Nat.reduceAdd, Nat.reduceLeDiff]
    simp (maxSteps := 2000000) -implicitDefEqProofs only [zz, zE, evop, ev, ofVal, tget, tput, ok, V.isUndef, Ch.on, xport, xports, hget, hput, V.one, resOf, resV, resVs, ↓reduceIte, Nat.reduceLT, Nat.reduceEqDiff, Nat.reduceAdd, Nat.reduceLeDiff, dT, tyC]
end Go.Proofs.YtjhfpabldidlgaaGreat.AM

set_option linter.all false
set_option maxRecDepth 100000
set_option maxHeartbeats 8000000
namespace Go.Proofs.YtjhfpabldidlgaaGreat.AM
open Go Go.RowKit

theorem RV.dCells {φ : Nat → Option Loc} {S : Nat → Prop} {H : Heap} {w : World} {ds : List D} {c : Value} (h : RV φ S H w (.agg (ds.map V.d)) c) : RV φ S H w (.d (.agg ds)) c := by
  cases h with
  | agg _ cs hl hh =>
    refine .d _ _ (.agg ds cs (by simpa using hl) (fun i d c hd hc => ?_))
    have := hh i (.d d) c (by simp [hd]) hc
    cases this; assumption
theorem RSpec.structArg {f : Nat} {v0 : V} {ds : List D} {H H1 : Heap} {r : V} (h : RSpec Tryz.prog f [v0, .d (.agg ds)] H r H1) : RSpec Tryz.prog f [v0, .agg (ds.map V.d)] H r H1 :=
  ⟨h.1, fun C φ S w cs hH hv => h.2 C φ S w cs hH ⟨by have := hv.len; simpa using this, fun i v c hi hc => by
    match i, hi with
    | 0, hi => exact hv.at_ 0 v c hi hc
    | 1, hi =>
      obtain rfl : _ = v := by simpa using hi
      exact RV.dCells (hv.at_ 1 _ c rfl hc)⟩⟩

structure StpOk (t : Ty) (h : List (Bool × Int)) (r : List (Int × Int)) (x : St) : Prop where
  hl : h.length ≤ 1000000
  htb : tableR r = true
  hreg : t.regs.length = 8
  hpc : 0 ≤ t.pc ∧ t.pc ≤ 1000000
  hrd : readsR t.reads = true
  hrl : t.reads.length < 24
  h1 : t.log.1.length ≤ 1000000
  h2 : t.log.2.length ≤ 1000000
  hf : t.frames.length ≤ 1000000
  hp : t.path.length ≤ 1000000
  hfr : ∀ f, t.frames.getLast? = some f → 0 ≤ f.long ∧ f.long ≤ t.path.length
  htl : x.t.length ≤ 1000000
  may : mayS x = true

theorem r_x_do (t : Ty) (h : List (Bool × Int)) (r : List (Int × Int)) (x : St) (k : StpOk t h r x) : RSpec Tryz.prog 64 [.ptr 0 0 0, .d (dS x)] [bX t h r] (.tuple []) [bX (doT t x h r) h r] := by
  obtain ⟨hl, htb, hreg, hpc, hrd, hrl, h1, h2, hf, hp, hfr, htl, may⟩ := k
  obtain ⟨g4, g7⟩ := mayS_rng may
  have hwp : IntKind.i64.wrap (t.pc + 1) = t.pc + 1 := by rw [wrap_in (by omega)]
  by_cases d1 : x.d = 1
  case pos =>
    have e1 : (x.d == 1) = true := by simpa using d1
    have hst : doT t x h r = loadT t x h r := by unfold doT; rw [if_pos d1]
    rw [hst]
    have ha : 0 ≤ x.a ∧ x.a < 8 := by unfold mayS belowI at may; rw [if_pos d1] at may; simp at may; omega
    have hr := r_x_load t h r x hl htb hreg ha hpc hrd hrl
    simp only [dS] at hr
    replace hr := RSpec.structArg hr
    simp only [List.map_cons, List.map_nil] at hr
    unfold bX at hr
    refine RSpec.of_awp envOf_ok hmix Tryz.func64 rfl (fun args w => Tryz.call64 args w) (by simp [Tryz.f64]) ?_
    simp only [Tryz.f64]
    simp (maxSteps := 2000000) -implicitDefEqProofs only [zz, zE, evop, ev, ofVal, tget, tput, ok, V.isUndef, intBin, Ch.on, calleeOf, withArgs, told, hget, hput, V.cells, structAt, isPtr, Blk.width, resOf, resVs, ↓reduceIte, reduceCtorEq, Nat.reduceLT, Nat.reduceEqDiff, Nat.reduceAdd, Nat.reduceLeDiff, nilTest, initV, dS]
    unfold bX
    simp (maxSteps := 2000000) -implicitDefEqProofs only [↓reduceIte, e1]
    refine acall_ref [0] (hr) (by first | rfl | simp [renL, V.ren, frρ, renL_ds]) (by simp) rfl (by simp) (by simp) (by intro j hj; match j, hj with | 0, _ => exact ⟨by simp [hget], rfl⟩) ?_
    try simp (maxSteps := 2000000) -implicitDefEqProofs only [zz, tput, hput, resOf, resVs, ↓reduceIte, Nat.reduceLT, Nat.reduceAdd, Blk.ren, V.ren, renL, frameH, putL]
    exact Weak.trimsM 1 (by simp) rfl (by simp [tget, V.lower, lowerL]) (by simp [Blk.lower, lowerL, V.lower])
  have e1 : (x.d == 1) = false := by simpa using d1
  by_cases d2 : x.d = 2
  case pos =>
    have e2 : (x.d == 2) = true := by simpa using d2
    have hst : doT t x h r = putT t x.a (tellT t h x.t) := by unfold doT; rw [if_neg d1, if_pos d2]
    rw [hst]
    have ha : 0 ≤ x.a ∧ x.a < 8 := by unfold mayS belowI at may; rw [if_neg d1, if_pos d2] at may; simp at may; omega
    have hr := r_x_put t h r x.a (tellT t h x.t) hreg ha hpc
    have ht := r_x_tell t h r x.t hl htl
    unfold bX at ht
    unfold bX at hr
    refine RSpec.of_awp envOf_ok hmix Tryz.func64 rfl (fun args w => Tryz.call64 args w) (by simp [Tryz.f64]) ?_
    simp only [Tryz.f64]
    simp (maxSteps := 2000000) -implicitDefEqProofs only [zz, zE, evop, ev, ofVal, tget, tput, ok, V.isUndef, intBin, Ch.on, calleeOf, withArgs, told, hget, hput, V.cells, structAt, isPtr, Blk.width, resOf, resVs, ↓reduceIte, reduceCtorEq, Nat.reduceLT, Nat.reduceEqDiff, Nat.reduceAdd, Nat.reduceLeDiff, nilTest, initV, dS]
    unfold bX
    simp (maxSteps := 2000000) -implicitDefEqProofs only [zz, ↓reduceIte, e1, e2]
    refine wdraw_plan [⟨[], false, [14, 15, 16, 17, 18, 19], [], false⟩, ⟨[], false, [13, 16, 17, 18, 19], [0], false⟩, ⟨[1], false, [13, 16, 17, 18, 19], [0], false⟩, ⟨[], false, [13, 14, 15, 17, 18], [0, 1, 2], false⟩, ⟨[], false, [13, 14, 15, 16], [0, 1, 2, 3], false⟩, ⟨[4], false, [13, 14, 15, 16], [0, 1, 2, 3], false⟩, ⟨[3, 4, 5], false, [13, 14, 15], [0, 1, 2], false⟩, ⟨[0, 1, 2, 3, 4, 5, 6], true, [], [], false⟩] (by decide) ?_
    simp (maxSteps := 2000000) -implicitDefEqProofs only [zz, zE, evop, ev, ofVal, tget, tput, ok, V.isUndef, calleeOf, withArgs, hget, hput, D.cells, loadD, structAt, Blk.width, ↓reduceIte, reduceCtorEq, Nat.reduceLT, Nat.reduceEqDiff, Nat.reduceAdd, Nat.reduceLeDiff]
    refine dcall_ref0 [0] (ht) (fun k => by first | rfl | simp [renL, V.ren, frρ, renL_ds]) (fun k => rfl) (by simp) rfl (by intro j hj; match j, hj with | 0, _ => exact ⟨by simp [hget], by simp [hget, frρ], fun k => rfl⟩) ?_
    try simp (maxSteps := 2000000) -implicitDefEqProofs only [zz]
    refine acall_ref [0] (hr) (by first | rfl | simp [renL, V.ren, frρ, renL_ds]) (by simp) rfl (by simp) (by simp) (by intro j hj; match j, hj with | 0, _ => exact ⟨by simp [hget], rfl⟩) ?_
    try simp (maxSteps := 2000000) -implicitDefEqProofs only [zz, tput, hput, resOf, resVs, ↓reduceIte, Nat.reduceLT, Nat.reduceAdd, Blk.ren, V.ren, renL, frameH, putL]
    exact Weak.trimsM 1 (by simp) rfl (by simp [tget, V.lower, lowerL]) (by simp [Blk.lower, lowerL, V.lower])
  have e2 : (x.d == 2) = false := by simpa using d2
  by_cases d3 : x.d = 3
  case pos =>
    have e3 : (x.d == 3) = true := by simpa using d3
    have hst : doT t x h r = storeT t x h := by unfold doT; rw [if_neg d1, if_neg d2, if_pos d3]
    rw [hst]
    have hr := r_x_store t h r x hl htl h1 h2 hpc
    simp only [dS] at hr
    replace hr := RSpec.structArg hr
    simp only [List.map_cons, List.map_nil] at hr
    unfold bX at hr
    refine RSpec.of_awp envOf_ok hmix Tryz.func64 rfl (fun args w => Tryz.call64 args w) (by simp [Tryz.f64]) ?_
    simp only [Tryz.f64]
    simp (maxSteps := 2000000) -implicitDefEqProofs only [zz, zE, evop, ev, ofVal, tget, tput, ok, V.isUndef, intBin, Ch.on, calleeOf, withArgs, told, hget, hput, V.cells, structAt, isPtr, Blk.width, resOf, resVs, ↓reduceIte, reduceCtorEq, Nat.reduceLT, Nat.reduceEqDiff, Nat.reduceAdd, Nat.reduceLeDiff, nilTest, initV, dS]
    unfold bX
    simp (maxSteps := 2000000) -implicitDefEqProofs only [zz, ↓reduceIte, e1, e2, e3]
    refine acall_ref [0] (hr) (by first | rfl | simp [renL, V.ren, frρ, renL_ds]) (by simp) rfl (by simp) (by simp) (by intro j hj; match j, hj with | 0, _ => exact ⟨by simp [hget], rfl⟩) ?_
    try simp (maxSteps := 2000000) -implicitDefEqProofs only [zz, tput, hput, resOf, resVs, ↓reduceIte, Nat.reduceLT, Nat.reduceAdd, Blk.ren, V.ren, renL, frameH, putL]
    exact Weak.trimsM 1 (by simp) rfl (by simp [tget, V.lower, lowerL]) (by simp [Blk.lower, lowerL, V.lower])
  have e3 : (x.d == 3) = false := by simpa using d3
  by_cases d4 : x.d = 4
  case pos =>
    have e4 : (x.d == 4) = true := by simpa using d4
    have hst : doT t x h r = skipT t x h := by unfold doT; rw [if_neg d1, if_neg d2, if_neg d3, if_pos d4]
    rw [hst]
    have hr := r_x_tell { t with pc := t.pc + 1 } h r x.t hl htl
    have htt : tellT { t with pc := t.pc + 1 } h x.t = tellT t h x.t := rfl
    rw [htt] at hr
    have hws : IntKind.i64.wrap (t.pc + 1 + x.a) = t.pc + 1 + x.a := by have := g4 d4; rw [wrap_in (by omega)]
    unfold bX at hr
    refine RSpec.of_awp envOf_ok hmix Tryz.func64 rfl (fun args w => Tryz.call64 args w) (by simp [Tryz.f64]) ?_
    simp only [Tryz.f64]
    simp (maxSteps := 2000000) -implicitDefEqProofs only [zz, zE, evop, ev, ofVal, tget, tput, ok, V.isUndef, intBin, Ch.on, calleeOf, withArgs, told, hget, hput, V.cells, structAt, isPtr, Blk.width, resOf, resVs, ↓reduceIte, reduceCtorEq, Nat.reduceLT, Nat.reduceEqDiff, Nat.reduceAdd, Nat.reduceLeDiff, nilTest, initV, dS]
    unfold bX
    simp (maxSteps := 2000000) -implicitDefEqProofs only [zz, zE, evop, ev, ofVal, tget, tput, ok, V.isUndef, intBin, Ch.on, calleeOf, withArgs, hget, hput, V.cells, V.one, structAt, isPtr, Blk.width, splice, ↓reduceIte, reduceCtorEq, Nat.reduceLT, Nat.reduceEqDiff, Nat.reduceAdd, Nat.reduceLeDiff, nilTest, e1, e2, e3, e4, hwp]
    refine acall_ref [0] (hr) (by first | rfl | simp [renL, V.ren, frρ, renL_ds]) (by simp) rfl (by simp) (by simp) (by intro j hj; match j, hj with | 0, _ => exact ⟨by simp [hget], rfl⟩) ?_
    try simp (maxSteps := 2000000) -implicitDefEqProofs only [zz, evop, ev, ofVal, tget, tput, intBin, Ch.on, told, hput, resOf, resVs, ↓reduceIte, Nat.reduceLT, Nat.reduceAdd, nilTest, Blk.ren, V.ren, renL, frameH, putL]
    by_cases hz : tellT t h x.t = 0
    · have ez : (tellT t h x.t == 0) = true := by simpa using hz
      have hsk : skipT t x h = { t with pc := t.pc + 1 + x.a } := by unfold skipT; rw [if_pos hz]
      rw [hsk]
      simp (maxSteps := 2000000) -implicitDefEqProofs only [↓reduceIte, ez]
      refine wdraw_plan [⟨[], false, [47, 48], [], false⟩, ⟨[0], false, [47, 48], [], false⟩, ⟨[0, 1], false, [47, 48], [], false⟩, ⟨[0, 1, 2], false, [47, 48], [], false⟩, ⟨[0, 1, 2, 3], false, [47, 48], [], false⟩, ⟨[], false, [42, 43, 44, 45, 46], [0, 1, 2, 3, 4], false⟩, ⟨[5], false, [42, 43, 44, 45, 46], [0, 1, 2, 3, 4], false⟩, ⟨[0, 1, 2, 3, 4, 5, 6], true, [], [], false⟩, ⟨[0, 1, 2, 3, 4, 5, 6, 7], true, [], [], false⟩, ⟨[0, 1, 2, 3, 4, 5, 6, 7, 8], true, [], [], false⟩, ⟨[0, 1, 2, 3, 4, 5, 6, 7, 8, 9], true, [], [], false⟩, ⟨[0, 1, 2, 3, 4, 5, 6, 7, 8, 9, 10], true, [], [], false⟩] (by decide) ?_
      simp (maxSteps := 2000000) -implicitDefEqProofs only [zz, zE, evop, ev, tget, tput, ok, V.isUndef, intBin, Ch.on, hget, hput, V.cells, D.cells, V.isAgg, V.one, loadD, structAt, isPtr, Blk.width, splice, resOf, resVs, ↓reduceIte, reduceCtorEq, Nat.reduceLT, Nat.reduceEqDiff, Nat.reduceAdd, Nat.reduceLeDiff, hws]
      exact Weak.trimsM 1 (by simp) rfl (by simp [tget, V.lower, lowerL]) (by simp [Blk.lower, lowerL, V.lower])
    have ez : (tellT t h x.t == 0) = false := by simpa using hz
    have hsk : skipT t x h = { t with pc := t.pc + 1 } := by unfold skipT; rw [if_neg hz]
    rw [hsk]
    simp (maxSteps := 2000000) -implicitDefEqProofs only [zz, ↓reduceIte, ez]
    exact Weak.trimsM 1 (by simp) rfl (by simp [tget, V.lower, lowerL]) (by simp [Blk.lower, lowerL, V.lower])
  have e4 : (x.d == 4) = false := by simpa using d4
  by_cases d5 : x.d = 5
  case pos =>
    have e5 : (x.d == 5) = true := by simpa using d5
    have hst : doT t x h r = agT t := by unfold doT; rw [if_neg d1, if_neg d2, if_neg d3, if_neg d4, if_pos d5]
    rw [hst]
    have hr := r_x_again t h r h1 h2 hf hp hfr
    unfold bX at hr
    refine RSpec.of_awp envOf_ok hmix Tryz.func64 rfl (fun args w => Tryz.call64 args w) (by simp [Tryz.f64]) ?_
    simp only [Tryz.f64]
    simp (maxSteps := 2000000) -implicitDefEqProofs only [zz, zE, evop, ev, ofVal, tget, tput, ok, V.isUndef, intBin, Ch.on, calleeOf, withArgs, told, hget, hput, V.cells, structAt, isPtr, Blk.width, resOf, resVs, ↓reduceIte, reduceCtorEq, Nat.reduceLT, Nat.reduceEqDiff, Nat.reduceAdd, Nat.reduceLeDiff, nilTest, initV, dS]
    unfold bX
    simp (maxSteps := 2000000) -implicitDefEqProofs only [zz, ↓reduceIte, e1, e2, e3, e4, e5]
    refine acall_ref [0] (hr) (by first | rfl | simp [renL, V.ren, frρ, renL_ds]) (by simp) rfl (by simp) (by simp) (by intro j hj; match j, hj with | 0, _ => exact ⟨by simp [hget], rfl⟩) ?_
    try simp (maxSteps := 2000000) -implicitDefEqProofs only [zz, tput, hput, resOf, resVs, ↓reduceIte, Nat.reduceLT, Nat.reduceAdd, Blk.ren, V.ren, renL, frameH, putL]
    exact Weak.trimsM 1 (by simp) rfl (by simp [tget, V.lower, lowerL]) (by simp [Blk.lower, lowerL, V.lower])
  have e5 : (x.d == 5) = false := by simpa using d5
  by_cases d6 : x.d = 6
  case pos =>
    have e6 : (x.d == 6) = true := by simpa using d6
    have hst : doT t x h r = endT t 3 x.a := by unfold doT; rw [if_neg d1, if_neg d2, if_neg d3, if_neg d4, if_neg d5, if_pos d6]
    rw [hst]
    have hr := r_x_end t h r 3 x.a
    unfold bX at hr
    refine RSpec.of_awp envOf_ok hmix Tryz.func64 rfl (fun args w => Tryz.call64 args w) (by simp [Tryz.f64]) ?_
    simp only [Tryz.f64]
    simp (maxSteps := 2000000) -implicitDefEqProofs only [zz, zE, evop, ev, ofVal, tget, tput, ok, V.isUndef, intBin, Ch.on, calleeOf, withArgs, told, hget, hput, V.cells, structAt, isPtr, Blk.width, resOf, resVs, ↓reduceIte, reduceCtorEq, Nat.reduceLT, Nat.reduceEqDiff, Nat.reduceAdd, Nat.reduceLeDiff, nilTest, initV, dS]
    unfold bX
    simp (maxSteps := 2000000) -implicitDefEqProofs only [zz, ↓reduceIte, e1, e2, e3, e4, e5, e6]
    refine acall_ref [0] (hr) (by first | rfl | simp [renL, V.ren, frρ, renL_ds]) (by simp) rfl (by simp) (by simp) (by intro j hj; match j, hj with | 0, _ => exact ⟨by simp [hget], rfl⟩) ?_
    try simp (maxSteps := 2000000) -implicitDefEqProofs only [zz, tput, hput, resOf, resVs, ↓reduceIte, Nat.reduceLT, Nat.reduceAdd, Blk.ren, V.ren, renL, frameH, putL]
    exact Weak.trimsM 1 (by simp) rfl (by simp [tget, V.lower, lowerL]) (by simp [Blk.lower, lowerL, V.lower])
  have e6 : (x.d == 6) = false := by simpa using d6
  have d7 : x.d = 7 := by
    unfold mayS at may
    rw [if_neg d1, if_neg d2, if_neg d3, if_neg d4, if_neg d5, if_neg d6] at may
    simp at may
    omega
  have e7 : (x.d == 7) = true := by simpa using d7
  have hst : doT t x h r = eiT t x := by unfold doT; rw [if_neg d1, if_neg d2, if_neg d3, if_neg d4, if_neg d5, if_neg d6]
  rw [hst]
  have hg := g7 d7
  have hr := r_x_either t h r x h1 h2 hpc ⟨by omega, by omega⟩ ⟨by omega, by omega⟩ hf hp
  simp only [dS] at hr
  replace hr := RSpec.structArg hr
  simp only [List.map_cons, List.map_nil] at hr
  unfold bX at hr
  refine RSpec.of_awp envOf_ok hmix Tryz.func64 rfl (fun args w => Tryz.call64 args w) (by simp [Tryz.f64]) ?_
  simp only [Tryz.f64]
  simp (maxSteps := 2000000) -implicitDefEqProofs only [zz, zE, evop, ev, ofVal, tget, tput, ok, V.isUndef, intBin, Ch.on, calleeOf, withArgs, told, hget, hput, V.cells, structAt, isPtr, Blk.width, resOf, resVs, ↓reduceIte, reduceCtorEq, Nat.reduceLT, Nat.reduceEqDiff, Nat.reduceAdd, Nat.reduceLeDiff, nilTest, initV, dS]
  unfold bX
  simp (maxSteps := 2000000) -implicitDefEqProofs only [zz, ↓reduceIte, e1, e2, e3, e4, e5, e6, e7]
  refine acall_ref [0] (hr) (by first | rfl | simp [renL, V.ren, frρ, renL_ds]) (by simp) rfl (by simp) (by simp) (by intro j hj; match j, hj with | 0, _ => exact ⟨by simp [hget], rfl⟩) ?_
  try simp (maxSteps := 2000000) -implicitDefEqProofs only [zz, tput, hput, resOf, resVs, ↓reduceIte, Nat.reduceLT, Nat.reduceAdd, Blk.ren, V.ren, renL, frameH, putL]
  exact Weak.trimsM 1 (by simp) rfl (by simp [tget, V.lower, lowerL]) (by simp [Blk.lower, lowerL, V.lower])
end Go.Proofs.YtjhfpabldidlgaaGreat.AM

set_option linter.all false
set_option maxRecDepth 100000
set_option maxHeartbeats 8000000
namespace Go.Proofs.YtjhfpabldidlgaaGreat.AM
open Go Go.RowKit

theorem stpOk_of {c : List St} (hc : CodeOk c) {t : Ty} (hi : InvS c t) {h : List (Bool × Int)} {r : List (Int × Int)} (hl : h.length ≤ 1000000) (htl : ∀ s ∈ c, s.t.length ≤ 1000000) (hm : mayT t h r = true) {x : St} (hx : c[t.pc.toNat]? = some x) : StpOk t h r x := by
  simp only [mayT, Bool.and_eq_true, decide_eq_true_eq] at hm
  obtain ⟨⟨hh, hr⟩, hk⟩ := hm
  obtain ⟨a1, a2, a3, a4, a5, a6, a7, a8⟩ := hi.toInvT.lens hc
  obtain ⟨hlt, hst⟩ := hi.run hk
  have hrl := hi.rlen
  have hcl := hc.len
  refine ⟨hl, hr, a1, ⟨a8, by omega⟩, hi.rds, by omega, by omega, by omega, by omega, by omega, fun f hf => ?_, htl x (List.mem_of_getElem? hx), hc.may x (List.mem_of_getElem? hx)⟩
  have hfr := hi.fr
  cases hrv : t.frames.reverse with
  | nil =>
    have : t.frames = [] := by simpa using hrv
    rw [this] at hf; simp at hf
  | cons g fs =>
    obtain ⟨s1, s2, s3, s4, s5⟩ := reverse_split hrv
    rw [s2] at hf
    cases hf
    rw [hrv] at hfr
    obtain ⟨m, e, k, h1, h2, h3, h4, h5, h6, h7, h8, h9⟩ := hfr
    have := (List.getElem?_eq_some_iff.1 h4).1
    rw [h3]
    omega

theorem c_attempt_Step (c : List St) (t : Ty) (h : List (Bool × Int)) (r : List (Int × Int)) (hc : CodeOk c) (hi : InvS c t) (hl : h.length ≤ 1000000) (htl : ∀ s ∈ c, s.t.length ≤ 1000000) :
    CSpec Tryz.prog 20 [dT t, .vec (c.map dS), .vec (h.map dC), .vec (r.map dW)] (.tuple [dT (stepT t c h r), .int .i64 (if mayT t h r = true then 0 else 1)]) := by
  have bad : mayT t h r = false → stepT t c h r = t ∧ (if mayT t h r = true then (0 : Int) else 1) = 1 := fun e => by simp [stepT, e]
  have hpc0 := hi.pc0
  refine CSpec.of_awp envOf_ok hmix Tryz.func20 rfl (fun args w => Tryz.call20 args w) (by simp [Tryz.f20]) ?_
  simp only [Tryz.f20]
  simp (maxSteps := 2000000) -implicitDefEqProofs only [zz, zE, evop, ev, tget, V.isUndef, initT, V.cells, ↓reduceIte, Nat.reduceAdd]
  unfold dT tyC
  simp (maxSteps := 2000000) -implicitDefEqProofs only [zz, zE, evop, ev, ofVal, tget, tput, ok, V.isUndef, Ch.on, calleeOf, withArgs, hput, ↓reduceIte, reduceCtorEq, Nat.reduceLT, Nat.reduceEqDiff]
  refine acall_flat' (c_heap_Right h) rfl ?_
  try simp (maxSteps := 2000000) -implicitDefEqProofs only [zz, zE, evop, ev, ofVal, tget, tput, ok, V.isUndef, guardOf, Ch.on, calleeOf, withArgs, told, xport, xports, hget, hput, V.cells, V.one, splice, resOf, resV, resVs, ↓reduceIte, reduceCtorEq, Nat.reduceLT, Nat.reduceEqDiff, Nat.reduceAdd, Nat.reduceLeDiff]
  cases hh : heapR h with
  | false =>
    obtain ⟨b1, b2⟩ := bad (by simp [mayT, hh])
    rw [b1, b2]
    simp (maxSteps := 2000000) -implicitDefEqProofs only [zz, ↓reduceIte]
  | true =>
    simp (maxSteps := 2000000) -implicitDefEqProofs only [zz, ↓reduceIte]
    refine acall_flat' (c_stripe_Right r) rfl ?_
    try simp (maxSteps := 2000000) -implicitDefEqProofs only [zz, zE, evop, ev, ofVal, tget, tput, ok, V.isUndef, intBin, guardOf, Ch.on, told, xport, xports, hget, hput, V.cells, D.cells, V.one, structAt, sliceOf, partsV, Blk.width, lenOf, splice, resOf, resV, resVs, ↓reduceIte, reduceCtorEq, Nat.reduceLT, Nat.reduceEqDiff, Nat.reduceAdd, Nat.reduceLeDiff, nilTest]
    cases hr : tableR r with
    | false =>
      obtain ⟨b1, b2⟩ := bad (by simp [mayT, hr])
      rw [b1, b2]
      simp (maxSteps := 2000000) -implicitDefEqProofs only [zz, ↓reduceIte]
    | true =>
      by_cases hk : t.kind = 0
      case neg =>
        obtain ⟨b1, b2⟩ := bad (by simp [mayT, hk])
        have ek : (t.kind != 0) = true := by simpa using hk
        rw [b1, b2]
        simp (maxSteps := 2000000) -implicitDefEqProofs only [zz, ↓reduceIte, ek]
      have ek : (t.kind != 0) = false := by simpa using hk
      obtain ⟨hlt, hst⟩ := hi.run hk
      have hmay : mayT t h r = true := by simp [mayT, hh, hr, hk]
      have p1 : ¬ (t.pc < 0) := by omega
      have p2 : ¬ (t.pc ≥ (c.length : Int)) := by omega
      have hx : c[t.pc.toNat]? = some (c[t.pc.toNat]'(by omega)) := List.getElem?_eq_getElem (by omega)
      generalize c[t.pc.toNat]'(by omega) = x at hx
      have hg : stepT t c h r = if (doT t x h r).kind ≠ 0 then doT t x h r else setT c.length (doT t x h r) := by unfold stepT; rw [if_pos hmay]; unfold stpT; rw [hx]
      have hd := r_x_do t h r x (stpOk_of hc hi hl htl hmay hx)
      obtain ⟨inv, _, _, _⟩ := hi.doT hc hmay hx
      obtain ⟨a1, a2, a3, a4, a5, a6, a7, a8⟩ := inv.lens hc
      have hs := c_settled (doT t x h r) c (by omega) (by omega) (by omega)
      rw [hg, if_pos hmay]
      simp only [dS] at hd
      unfold bX at hd
      simp (maxSteps := 2000000) -implicitDefEqProofs only [zz, zE, evop, ev, tget, tput, ok, Ch.on, calleeOf, withArgs, D.cells, loadD, ↓reduceIte, Nat.reduceLT, Nat.reduceEqDiff, Nat.reduceAdd, Nat.reduceLeDiff, dS, ek, p1, p2, List.getElem?_map, hx, Option.map_some, hpc0]
      refine acall_ref [2] (hd) (by first | rfl | simp [renL, V.ren, frρ, renL_ds]) (by simp) rfl (by simp) (by simp) (by intro j hj; match j, hj with | 0, _ => exact ⟨by simp [hget], rfl⟩) ?_
      try simp (maxSteps := 2000000) -implicitDefEqProofs only [zz, zE, evop, ev, ofVal, tget, tput, ok, V.isUndef, intBin, Ch.on, calleeOf, withArgs, told, xport, xports, hget, hput, V.cells, V.one, structAt, isPtr, Blk.width, splice, resOf, resV, resVs, ↓reduceIte, reduceCtorEq, Nat.reduceLT, Nat.reduceEqDiff, Nat.reduceAdd, Nat.reduceLeDiff, nilTest, Blk.ren, V.ren, renL, frameH, putL]
      generalize doT t x h r = u at hs
      by_cases hu : u.kind = 0
      · have eu : (u.kind != 0) = false := by simpa using hu
        have hn := not_not_intro hu
        rw [if_neg hn]
        unfold dT tyC at hs
        simp (maxSteps := 2000000) -implicitDefEqProofs only [zz, ↓reduceIte, eu]
        refine acall_ice' (hs) ?_
        try simp (maxSteps := 2000000) -implicitDefEqProofs only [zz, zE, evop, ev, ofVal, tget, tput, ok, V.isUndef, Ch.on, xport, xports, tids, tidss, hget, hput, freeze, V.cells, V.one, splice, resOf, resV, resVs, ↓reduceIte, Nat.reduceLT, Nat.reduceEqDiff, Nat.reduceAdd, Nat.reduceLeDiff]
      · have eu : (u.kind != 0) = true := by simpa using hu
        rw [if_pos hu]
        simp (maxSteps := 2000000) -implicitDefEqProofs only [↓reduceIte, eu]
end Go.Proofs.YtjhfpabldidlgaaGreat.AM

set_option linter.all false
set_option maxRecDepth 100000
set_option maxHeartbeats 8000000
namespace Go.Proofs.YtjhfpabldidlgaaGreat.AM
open Go Go.RowKit

def smallC (c : List St) : Int := if (c.any fun s => decide (20 < s.t.length)) = true ∨ 40 < c.length then -1 else c.length
theorem smallC_0 {c : List St} (h : ¬ smallC c < 0) : c.length ≤ 40 ∧ ∀ s ∈ c, s.t.length ≤ 20 := by
  unfold smallC at h
  split at h
  · simp at h
  · rename_i h1
    simp only [not_or, List.any_eq_true, decide_eq_true_eq, not_exists, not_and, Nat.not_lt] at h1
    exact ⟨h1.2, h1.1⟩

theorem c_law08_Small (c : List St) (hl : c.length ≤ 9223372036854775807) : CSpec Tryz.prog 12 [.vec (c.map dS)] (.int .i64 (smallC c)) := by
  refine CSpec.of_awp envOf_ok hmix Tryz.func12 rfl (fun args w => Tryz.call12 args w) (by simp [Tryz.f12]) ?_
  simp only [Tryz.f12]
  simp (maxSteps := 2000000) -implicitDefEqProofs only [zz, zE, evop, ev, ofVal, tget, tput, ok, V.isUndef, initT, Ch.on, sliceOf, lenOf, ↓reduceIte, reduceCtorEq, Nat.reduceLT, Int.reduceNeg]
  refine wloop_count c.length (fun i => [(7, .d (.int .i64 i)), (6, .d (.int .i64 c.length)), (5, .d (.vec (c.map dS))), (0, .d (.vec (c.map dS)))]) (fun _ => []) (fun i => ∀ (j : Nat) (x : St), j < i → c[j]? = some x → x.t.length ≤ 20) (fun j x hj => by omega) (Weak.sub (by simp [tget])) (fun i hi hI => ?_) (fun hI => ?_)
  · have hx : c[i]? = some c[i] := List.getElem?_eq_getElem hi
    have h' : ((i : Int) < (c.length : Int)) := by omega
    have hw : IntKind.i64.wrap ((i : Int) + 1) = ((i + 1 : Nat) : Int) := by rw [wrap_in (by omega)]; omega
    simp (maxSteps := 2000000) -implicitDefEqProofs only [zz, zE, evop, ev, ofVal, tget, tput, ok, V.isUndef, intBin, Ch.on, told, xport, hget, hput, V.cells, D.cells, V.one, loadD, structAt, sliceOf, Blk.width, lenOf, splice, resOf, resV, resVs, ↓reduceIte, reduceCtorEq, Nat.reduceLT, Nat.reduceEqDiff, Nat.reduceAdd, Nat.reduceLeDiff, Int.reduceNeg, nilTest, dS, h', List.getElem?_map, hx, Option.map_some, Int.natCast_nonneg, hw]
    by_cases h20 : ((c[i].t.length : Int) > 20)
    · simp (maxSteps := 2000000) -implicitDefEqProofs only [↓reduceIte, Int.reduceNeg, h20]
      have : (c.any fun s => decide (20 < s.t.length)) = true := List.any_eq_true.2 ⟨_, List.getElem_mem hi, by simp; omega⟩
      simp [smallC, this]
    · simp (maxSteps := 2000000) -implicitDefEqProofs only [zz, ↓reduceIte, h20]
      refine ⟨fun j x hj hxj => ?_, Weak.trims 0 rfl (by simp [tget, V.lower]) (by simp)⟩
      by_cases e : j = i
      · subst e; rw [hx] at hxj; cases hxj; omega
      · exact hI j x (by omega) hxj
  · have h' : ¬ ((c.length : Int) < (c.length : Int)) := by omega
    have hany : (c.any fun s => decide (20 < s.t.length)) = false := by
      rw [List.any_eq_false]
      intro x hx
      obtain ⟨j, hj, rfl⟩ := List.getElem_of_mem hx
      have := hI j _ hj (List.getElem?_eq_getElem hj)
      simp; omega
    by_cases h40 : ((c.length : Int) > 40)
    · simp (maxSteps := 2000000) -implicitDefEqProofs only [zz, zE, evop, ev, ofVal, tget, tput, ok, V.isUndef, intBin, Ch.on, told, xport, sliceOf, lenOf, resOf, resV, resVs, ↓reduceIte, reduceCtorEq, Nat.reduceLT, Nat.reduceEqDiff, Int.reduceNeg, nilTest, h', h40]
      have : 40 < c.length := by omega
      simp [smallC, this]
    · simp (maxSteps := 2000000) -implicitDefEqProofs only [zz, zE, evop, ev, ofVal, tget, tput, ok, V.isUndef, intBin, Ch.on, told, xport, sliceOf, lenOf, resOf, resV, resVs, ↓reduceIte, reduceCtorEq, Nat.reduceLT, Nat.reduceEqDiff, Int.reduceNeg, nilTest, h', h40]
      have : ¬ 40 < c.length := by omega
      simp [smallC, this, hany]

end Go.Proofs.YtjhfpabldidlgaaGreat.AM

set_option linter.all false
set_option maxRecDepth 100000
set_option maxHeartbeats 8000000
namespace Go.Proofs.YtjhfpabldidlgaaGreat.AM
open Go Go.RowKit

def itT (c : List St) (h : List (Bool × Int)) (r : List (Int × Int)) : Nat → Ty → Ty × Nat
  | 0, t => (t, 0)
  | k + 1, t => if t.kind = 0 then ((itT c h r k (stpT t c h r)).1, (itT c h r k (stpT t c h r)).2 + 1) else (t, 0)
def okW (h : List (Bool × Int)) (r : List (Int × Int)) : Bool := heapR h && tableR r
def runT (t : Ty) (c : List St) (h : List (Bool × Int)) (r : List (Int × Int)) : Ty × Nat := itT c h r (c.length + 1) t

theorem itT_stop {c : List St} {h : List (Bool × Int)} {r : List (Int × Int)} {k : Nat} {t : Ty} (hk : t.kind ≠ 0) : itT c h r k t = (t, 0) := by
  cases k with
  | zero => rfl
  | succ k => rw [itT, if_neg hk]

theorem itT_ok {c : List St} (hc : CodeOk c) {h : List (Bool × Int)} {r : List (Int × Int)} (hw : okW h r = true) : ∀ (k : Nat) (t : Ty), InvS c t → (c.length : Int) - t.pc < k → InvS c (itT c h r k t).1 ∧ (itT c h r k t).1.kind ≠ 0 ∧ (itT c h r k t).1.snap = t.snap
  | 0, t, hi, hk => by have := hi.pcl; omega
  | k + 1, t, hi, hk => by
    rw [itT]
    by_cases h0 : t.kind = 0
    · rw [if_pos h0]
      have hm : mayT t h r = true := by simp only [okW] at hw; simp [mayT, hw, h0]
      obtain ⟨s1, s2, s3, s4⟩ := hi.stp hc hm
      by_cases h1 : (stpT t c h r).kind = 0
      · have := s3 h1
        obtain ⟨i1, i2, i3⟩ := itT_ok hc hw k _ s1 (by omega)
        exact ⟨i1, i2, by simp only; rw [i3, s2]⟩
      · rw [itT_stop h1]
        exact ⟨s1, h1, s2⟩
    · rw [if_neg h0]
      exact ⟨hi, h0, rfl⟩

theorem runT_ok {c : List St} (hc : CodeOk c) {h : List (Bool × Int)} {r : List (Int × Int)} (hw : okW h r = true) {t : Ty} (hi : InvS c t) : InvS c (runT t c h r).1 ∧ (runT t c h r).1.kind ≠ 0 ∧ (runT t c h r).1.snap = t.snap :=
  itT_ok hc hw _ t hi (by have := hi.pc0; omega)

theorem c_attempt_Run (c : List St) (t : Ty) (h : List (Bool × Int)) (r : List (Int × Int)) (hc : CodeOk c) (hi : InvS c t) (hl : h.length ≤ 1000000) (htl : ∀ s ∈ c, s.t.length ≤ 1000000) :
    CSpec Tryz.prog 51 [dT t, .vec (c.map dS), .vec (h.map dC), .vec (r.map dW)]
      (if t.kind = 0 ∧ okW h r = false then .tuple [dT t, .int .i64 0, .int .i64 1] else .tuple [dT (runT t c h r).1, .int .i64 (runT t c h r).2, .int .i64 0]) := by
  have hcl := hc.len
  refine CSpec.of_awp envOf_ok hmix Tryz.func51 rfl (fun args w => Tryz.call51 args w) (by simp [Tryz.f51]) ?_
  simp only [Tryz.f51]
  simp (maxSteps := 2000000) -implicitDefEqProofs only [zz, zE, evop, ev, tget, V.isUndef, initT, V.cells, ↓reduceIte, Nat.reduceAdd]
  unfold dT tyC
  simp (maxSteps := 2000000) -implicitDefEqProofs only [zz, zE, evop, ev, ofVal, tget, tput, ok, V.isUndef, Ch.on, hget, hput, V.cells, V.one, splice, ↓reduceIte, Nat.reduceLT, Nat.reduceEqDiff, Nat.reduceAdd, Nat.reduceLeDiff]
  refine wloop_ind (σ := Ty × Nat) (fun z => c.length + 5 - z.2) (fun z => [(11, .ptr 2 0 0), (12, .d (.int .i64 z.2)), (4, .ptr 0 0 0), (8, .ptr 1 0 0), (1, .d (.vec (c.map dS))), (2, .d (.vec (h.map dC))), (3, .d (.vec (r.map dW)))]) (fun z => [bT t, bZ, bT z.1])
    (fun z => z.2 ≤ c.length + 1 ∧ (itT c h r (c.length + 1) t).1 = (itT c h r (c.length + 1 - z.2) z.1).1 ∧ (itT c h r (c.length + 1) t).2 = z.2 + (itT c h r (c.length + 1 - z.2) z.1).2 ∧ InvS c z.1 ∧ ((z.2 : Int) ≤ z.1.pc + 1) ∧ (z.1.kind = 0 → (z.2 : Int) ≤ z.1.pc) ∧ (okW h r = false → z.1 = t ∧ z.2 = 0)) (t, 0) ⟨by simp, by simp, by simp, hi, by have := hi.pc0; simp only; omega, fun _ => by have := hi.pc0; simp only; omega, fun _ => ⟨rfl, rfl⟩⟩ ?_ ?_
  · exact Weak.trims 3 rfl (by simp [tget, V.lower]) (by simp [bT, bZ, Blk.lower, lowerL, V.lower])
  rintro ⟨u, n⟩ ⟨hn, e1, e2, hu, hp1, hp2, hbad⟩
  simp only at hn e1 e2 hu hp1 hp2 hbad
  by_cases hk : u.kind = 0
  case neg =>
    have ek : (u.kind == 0) = false := by simpa using hk
    rw [itT_stop hk] at e1 e2
    have hne : ¬ (t.kind = 0 ∧ okW h r = false) := fun g => hk (by rw [(hbad g.2).1]; exact g.1)
    have g1 : (runT t c h r).1 = u := e1
    have g2 : (runT t c h r).2 = n := e2
    rw [if_neg hne, g1, g2]
    simp (maxSteps := 2000000) -implicitDefEqProofs only [zz, zE, evop, ev, ofVal, tget, tput, ok, V.isUndef, intBin, Ch.on, told, xport, xports, hget, hput, V.cells, V.one, structAt, Blk.width, splice, resOf, resV, resVs, ↓reduceIte, reduceCtorEq, Nat.reduceLT, Nat.reduceEqDiff, Nat.reduceAdd, Nat.reduceLeDiff, nilTest, bT, bZ, ek]
  have ek : (u.kind == 0) = true := by simpa using hk
  have hst := c_attempt_Step c u h r hc hu hl htl
  have hsu := hp2 hk
  have hpl := (hu.run hk).1
  cases hw : okW h r with
  | false =>
    have hm : mayT u h r = false := by simp only [okW] at hw; simp [mayT, hw]
    obtain ⟨q1, q2⟩ := hbad hw
    subst q1
    have hs1 : stepT u c h r = u := by simp [stepT, hm]
    rw [hs1, hm] at hst
    rw [if_pos ⟨hk, rfl⟩]
    unfold dT tyC at hst
    have e10 : ((1 : Int) != 0) = true := rfl
    simp (maxSteps := 2000000) -implicitDefEqProofs only [zz, zE, evop, ev, ofVal, tget, tput, ok, V.isUndef, intBin, Ch.on, calleeOf, withArgs, told, hget, structAt, Blk.width, ↓reduceIte, reduceCtorEq, Nat.reduceLT, Nat.reduceEqDiff, Nat.reduceAdd, Nat.reduceLeDiff, nilTest, bT, bZ, ek]
    refine acall_ice' (hst) ?_
    try simp (maxSteps := 2000000) -implicitDefEqProofs only [zz, zE, evop, ev, ofVal, tget, tput, ok, V.isUndef, intBin, Ch.on, told, xport, xports, tids, tidss, hget, hput, freeze, V.cells, V.one, splice, resOf, resV, resVs, ↓reduceIte, Nat.reduceLT, Nat.reduceEqDiff, Nat.reduceAdd, Nat.reduceLeDiff, nilTest]
    simp (maxSteps := 2000000) -implicitDefEqProofs only [↓reduceIte, e10]
  | true =>
    have hm : mayT u h r = true := by simp only [okW] at hw; simp [mayT, hw, hk]
    have hs1 : stepT u c h r = stpT u c h r := by simp [stepT, hm]
    rw [hs1, hm] at hst
    obtain ⟨s1, s2, s3, s4⟩ := hu.stp hc hm
    have hit : itT c h r (c.length + 1 - n) u = ((itT c h r (c.length + 1 - (n + 1)) (stpT u c h r)).1, (itT c h r (c.length + 1 - (n + 1)) (stpT u c h r)).2 + 1) := by
      have : c.length + 1 - n = (c.length + 1 - (n + 1)) + 1 := by omega
      rw [this, itT, if_pos hk]
    rw [hit] at e1 e2
    have hwn : IntKind.i64.wrap ((n : Int) + 1) = ((n + 1 : Nat) : Int) := by rw [wrap_in (by omega)]; omega
    generalize stpT u c h r = v at *
    unfold dT tyC at hst
    simp (maxSteps := 2000000) -implicitDefEqProofs only [zz, zE, evop, ev, ofVal, tget, tput, ok, V.isUndef, intBin, Ch.on, calleeOf, withArgs, told, hget, structAt, Blk.width, ↓reduceIte, reduceCtorEq, Nat.reduceLT, Nat.reduceEqDiff, Nat.reduceAdd, Nat.reduceLeDiff, nilTest, bT, bZ, ek]
    refine acall_ice' (hst) ?_
    try simp (maxSteps := 2000000) -implicitDefEqProofs only [zz, zE, evop, ev, ofVal, tget, tput, ok, V.isUndef, intBin, Ch.on, told, tids, tidss, hget, hput, freeze, V.cells, V.one, splice, ↓reduceIte, Nat.reduceLT, Nat.reduceEqDiff, Nat.reduceAdd, Nat.reduceLeDiff, nilTest]
    simp (maxSteps := 2000000) -implicitDefEqProofs only [hwn]
    refine ⟨(v, n + 1), ⟨by simp only; omega, e1, by simp only; rw [e2]; simp only; omega, s1, by simp only; omega, fun g => ?_⟩, by simp only; omega, ?_⟩
    · have := s3 g
      simp only; omega
    · exact Weak.trims 3 rfl (by simp [tget, V.lower]) (by simp [bT, bZ, Blk.lower, lowerL, V.lower])
end Go.Proofs.YtjhfpabldidlgaaGreat.AM

set_option linter.all false
set_option maxRecDepth 100000
set_option maxHeartbeats 8000000
namespace Go.Proofs.YtjhfpabldidlgaaGreat.AM
open Go Go.RowKit

end Go.Proofs.YtjhfpabldidlgaaGreat.AM

set_option linter.all false
set_option maxRecDepth 100000
set_option maxHeartbeats 4000000
namespace Go.Proofs.YtjhfpabldidlgaaGreat.AM
open Go Go.RowKit


end Go.Proofs.YtjhfpabldidlgaaGreat.AM

set_option linter.all false
set_option maxRecDepth 100000
set_option maxHeartbeats 8000000
namespace Go.Proofs.YtjhfpabldidlgaaGreat.AM
open Go Go.RowKit

end Go.Proofs.YtjhfpabldidlgaaGreat.AM

set_option linter.all false
set_option maxRecDepth 100000
set_option maxHeartbeats 8000000
namespace Go.Proofs.YtjhfpabldidlgaaGreat.AM
open Go Go.RowKit

end Go.Proofs.YtjhfpabldidlgaaGreat.AM

set_option linter.all false
set_option maxRecDepth 100000
set_option maxHeartbeats 8000000
namespace Go.Proofs.YtjhfpabldidlgaaGreat.AM
open Go Go.RowKit

end Go.Proofs.YtjhfpabldidlgaaGreat.AM

set_option linter.all false
set_option maxRecDepth 100000
set_option maxHeartbeats 8000000
namespace Go.Proofs.YtjhfpabldidlgaaGreat.AM
open Go Go.RowKit

theorem InvT.frs {c : List St} {t : Ty} (h : InvT c t) : ∀ f ∈ t.frames, f.regs.length = 8 := by
  have : ∀ (fs : List Fr) (a : Nat) (p : List Int), FrOk c a p fs → ∀ f ∈ fs, f.regs.length = 8 := by
    intro fs
    induction fs with
    | nil => intro a p _ f hf; simp at hf
    | cons g r ih =>
      intro a p hfr f hf
      obtain ⟨m, e, k, h1, h2, h3, h4, h5, h6, h7, h8, h9⟩ := hfr
      rcases List.mem_cons.1 hf with rfl | hf
      · exact h6
      · exact ih _ _ h9 f hf
  intro f hf
  exact this _ _ _ h.fr f (by simpa using hf)

theorem same_ok {c : List St} (hc : CodeOk c) {t : Ty} (h : InvT c t) : CSpec Tryz.prog 18 [dT t, dT t] (.bool true) := by
  obtain ⟨b1, b2, b3, b4, b5, b6, b7, b8⟩ := h.lens hc
  exact c_r11_Same t (by omega) (by omega) (by omega) (by omega) (by omega) (by omega) (fun f hf => by rw [h.frs f hf]; decide)

theorem beg_ok {c : List St} {who snap : Int} (h : mayB c who snap = true) : CodeOk c ∧ InvS c (begT c who snap) ∧ (begT c who snap).snap = snap := by
  have hc : codeC c = 0 := by simp only [mayB, Bool.and_eq_true, decide_eq_true_eq] at h; exact h.1.1.1
  have ho := CodeOk.of hc
  obtain ⟨g1, g2, _⟩ := setT_ok (new_ok ho who snap) rfl
  have e : begT c who snap = setT c.length (newT who snap) := by simp [begT, h]
  rw [e]
  exact ⟨ho, g1, g2⟩

end Go.Proofs.YtjhfpabldidlgaaGreat.AM

set_option linter.all false
set_option maxRecDepth 100000
set_option maxHeartbeats 8000000
namespace Go.Proofs.YtjhfpabldidlgaaGreat.AM
open Go Go.RowKit

theorem c_law12_Worlds (w : Wl) : CSpec Tryz.prog 34 [dWl w] (dWl w) := by
  refine CSpec.of_awp envOf_ok hmix Tryz.func34 rfl (fun args w => Tryz.call34 args w) (by simp [Tryz.f34]) ?_
  simp only [Tryz.f34]
  simp (maxSteps := 2000000) -implicitDefEqProofs only [zz, zE, evop, ev, tget, V.isUndef, initT, V.cells, ↓reduceIte]
  unfold dWl
  try simp (maxSteps := 2000000) -implicitDefEqProofs only [zz, zE, evop, ev, tget, tput, ok, Ch.on, xport, xports, hget, hput, V.cells, V.one, splice, resOf, resV, resVs, ↓reduceIte, Nat.reduceLT, Nat.reduceEqDiff, Nat.reduceAdd, Nat.reduceLeDiff]

theorem c_law12_Ref (c : Cm) (hf : c.t.frames.length ≤ 1000000) : CSpec Tryz.prog 36 [dCm c] (dCm c) := by
  have hr := c_law11_Ref c.t hf
  unfold dT tyC at hr
  refine CSpec.of_awp envOf_ok hmix Tryz.func36 rfl (fun args w => Tryz.call36 args w) (by simp [Tryz.f36]) ?_
  simp only [Tryz.f36]
  simp (maxSteps := 2000000) -implicitDefEqProofs only [zz, zE, evop, ev, tget, V.isUndef, initT, V.cells, ↓reduceIte]
  unfold dCm cmC
  try simp (maxSteps := 2000000) -implicitDefEqProofs only [zz, zE, evop, tput, Ch.on, hput, ↓reduceIte, Nat.reduceLT]
  refine wdraw_plan [⟨[], false, [6, 7, 8, 9, 10, 11], [], false⟩, ⟨[0], false, [6, 7, 8, 9, 10, 11], [], false⟩, ⟨[0, 1], false, [6, 7, 8, 9, 10, 11], [], false⟩, ⟨[], false, [3, 4, 5, 8, 9, 10, 11], [0, 1, 2], false⟩, ⟨[3], false, [3, 4, 5, 8, 9, 10, 11], [0, 1, 2], false⟩, ⟨[], false, [3, 4, 5, 6, 7, 10, 11], [0, 1, 2, 3, 4], false⟩, ⟨[5], false, [3, 4, 5, 6, 7, 10, 11], [0, 1, 2, 3, 4], false⟩, ⟨[], false, [3, 4, 5, 6, 7, 8, 9], [0, 1, 2, 3, 4, 5, 6], false⟩, ⟨[7], false, [3, 4, 5, 6, 7, 8, 9], [0, 1, 2, 3, 4, 5, 6], false⟩, ⟨[0, 1, 2, 3, 4, 5, 6, 7, 8], true, [], [], false⟩, ⟨[0, 1, 2, 3, 4, 5, 6, 7, 8, 9], true, [], [], false⟩] (by decide) ?_
  simp (maxSteps := 2000000) -implicitDefEqProofs only [zz, zE, evop, ev, ofVal, tget, tput, ok, V.isUndef, calleeOf, withArgs, hget, hput, V.cells, D.cells, loadD, structAt, partsV, Blk.width, splice, ↓reduceIte, reduceCtorEq, Nat.reduceLT, Nat.reduceEqDiff, Nat.reduceAdd, Nat.reduceLeDiff]
  refine dcall_still' (hr) rfl ?_
  try simp (maxSteps := 2000000) -implicitDefEqProofs only [zz, zE, evop, ev, tget, tput, Ch.on, xport, xports, hget, hput, V.cells, V.one, splice, resOf, resV, resVs, ↓reduceIte, Nat.reduceLT, Nat.reduceEqDiff, Nat.reduceAdd, Nat.reduceLeDiff]

def smallW (w : Wl) : Bool := decide (w.heap.length ≤ 80) && decide (w.tab.length ≤ 30)
theorem c_law12_small (w : Wl) : CSpec Tryz.prog 27 [dWl w] (.bool (smallW w)) := by
  refine CSpec.of_awp envOf_ok hmix Tryz.func27 rfl (fun args w => Tryz.call27 args w) (by simp [Tryz.f27]) ?_
  simp only [Tryz.f27]
  simp (maxSteps := 2000000) -implicitDefEqProofs only [zz, zE, evop, ev, tget, V.isUndef, initT, V.cells, ↓reduceIte]
  unfold dWl
  by_cases h1 : (w.heap.length : Int) ≤ 80
  · have h1' : w.heap.length ≤ 80 := by omega
    by_cases h2 : (w.tab.length : Int) ≤ 30
    · have h2' : w.tab.length ≤ 30 := by omega
      simp (maxSteps := 2000000) -implicitDefEqProofs only [zz, zE, evop, ev, ofVal, tget, tput, ok, V.isUndef, intBin, guardOf, Ch.on, xport, hget, hput, structAt, sliceOf, Blk.width, lenOf, resOf, resV, resVs, ↓reduceIte, reduceCtorEq, Nat.reduceLT, Nat.reduceEqDiff, Nat.reduceAdd, nilTest, h1, h2]
      simp [smallW, h1', h2']
    · have h2' : ¬ w.tab.length ≤ 30 := by omega
      simp (maxSteps := 2000000) -implicitDefEqProofs only [zz, zE, evop, ev, ofVal, tget, tput, ok, V.isUndef, intBin, guardOf, Ch.on, xport, hget, hput, structAt, sliceOf, Blk.width, lenOf, resOf, resV, resVs, ↓reduceIte, reduceCtorEq, Nat.reduceLT, Nat.reduceEqDiff, Nat.reduceAdd, nilTest, h1, h2]
      simp [smallW, h2']
  · have h1' : ¬ w.heap.length ≤ 80 := by omega
    simp (maxSteps := 2000000) -implicitDefEqProofs only [zz, zE, evop, ev, ofVal, tget, tput, ok, V.isUndef, intBin, guardOf, Ch.on, xport, hget, hput, structAt, sliceOf, Blk.width, lenOf, resOf, resV, resVs, ↓reduceIte, reduceCtorEq, Nat.reduceLT, Nat.reduceEqDiff, Nat.reduceAdd, nilTest, h1]
    simp [smallW, h1']

def tryT (c : List St) (who snap : Int) (w : Wl) : Ty × Bool :=
  if mayB c who snap = true then (if (begT c who snap).kind = 0 ∧ okW w.heap w.tab = false then (begT c who snap, false) else ((runT (begT c who snap) c w.heap w.tab).1, true)) else (zeroT, false)

theorem c_tried (c : List St) (who snap : Int) (w : Wl) (hcl : c.length ≤ 1000000) (htl : ∀ s ∈ c, s.t.length ≤ 1000000) (hl : w.heap.length ≤ 1000000) :
    CSpec Tryz.prog 29 [.vec (c.map dS), .int .i64 who, .int .i64 snap, dWl w] (.tuple [dT (tryT c who snap w).1, .bool (tryT c who snap w).2]) := by
  have hb := c_attempt_Begin c who snap hcl htl
  have hY : tryT c who snap w = if mayB c who snap = true then (if (begT c who snap).kind = 0 ∧ okW w.heap w.tab = false then (begT c who snap, false) else ((runT (begT c who snap) c w.heap w.tab).1, true)) else (zeroT, false) := rfl
  generalize tryT c who snap w = y at hY ⊢
  have e00 : ((0 : Int) == 0) = true := rfl
  have e10 : ((1 : Int) != 0) = true := rfl
  have e01 : ((0 : Int) != 0) = false := rfl
  have e11 : ((1 : Int) == 0) = false := rfl
  cases hB : mayB c who snap with
  | false =>
    have hz : begT c who snap = zeroT := by simp [begT, hB]
    rw [hB, if_neg (by decide)] at hb hY
    rw [hz] at hb
    subst hY
    unfold dT tyC at hb
    refine CSpec.of_awp envOf_ok hmix Tryz.func29 rfl (fun args w => Tryz.call29 args w) (by simp [Tryz.f29]) ?_
    simp only [Tryz.f29]
    simp (maxSteps := 2000000) -implicitDefEqProofs only [zz, zE, evop, ev, tget, V.isUndef, initT, V.cells, ↓reduceIte, reduceCtorEq, Nat.reduceEqDiff, Nat.reduceAdd]
    unfold dT tyC dWl
    simp (maxSteps := 2000000) -implicitDefEqProofs only [zz, zE, evop, ev, ofVal, tget, tput, ok, V.isUndef, Ch.on, calleeOf, withArgs, hput, ↓reduceIte, reduceCtorEq, Nat.reduceLT, Nat.reduceEqDiff]
    refine acall_ice' (hb) ?_
    try simp (maxSteps := 2000000) -implicitDefEqProofs only [zz, zE, evop, ev, ofVal, tget, tput, ok, V.isUndef, intBin, Ch.on, calleeOf, withArgs, told, xport, xports, tids, tidss, hget, hput, freeze, V.cells, V.one, structAt, Blk.width, splice, resOf, resV, resVs, ↓reduceIte, reduceCtorEq, Nat.reduceLT, Nat.reduceEqDiff, Nat.reduceAdd, Nat.reduceLeDiff, nilTest]
    try simp (maxSteps := 2000000) -implicitDefEqProofs only [↓reduceIte, e10]
  | true =>
    obtain ⟨ho, hi0, hsn⟩ := beg_ok hB
    rw [hB, if_pos rfl] at hb hY
    have hr := c_attempt_Run c (begT c who snap) w.heap w.tab ho hi0 hl htl
    generalize begT c who snap = t0 at hb hi0 hsn hY hr
    by_cases hbad : t0.kind = 0 ∧ okW w.heap w.tab = false
    · rw [if_pos hbad] at hr hY
      subst hY
      unfold dT tyC at hb hr
      refine CSpec.of_awp envOf_ok hmix Tryz.func29 rfl (fun args w => Tryz.call29 args w) (by simp [Tryz.f29]) ?_
      simp only [Tryz.f29]
      simp (maxSteps := 2000000) -implicitDefEqProofs only [zz, zE, evop, ev, tget, V.isUndef, initT, V.cells, ↓reduceIte, reduceCtorEq, Nat.reduceEqDiff, Nat.reduceAdd]
      unfold dT tyC dWl
      simp (maxSteps := 2000000) -implicitDefEqProofs only [zz, zE, evop, ev, ofVal, tget, tput, ok, V.isUndef, Ch.on, calleeOf, withArgs, hput, ↓reduceIte, reduceCtorEq, Nat.reduceLT, Nat.reduceEqDiff]
      refine acall_ice' (hb) ?_
      try simp (maxSteps := 2000000) -implicitDefEqProofs only [zz, zE, evop, ev, ofVal, tget, tput, ok, V.isUndef, intBin, Ch.on, calleeOf, withArgs, told, tids, tidss, hget, hput, freeze, V.cells, V.one, structAt, Blk.width, splice, ↓reduceIte, reduceCtorEq, Nat.reduceLT, Nat.reduceEqDiff, Nat.reduceAdd, Nat.reduceLeDiff, nilTest]
      try skip
      refine acall_ice' (hr) ?_
      try simp (maxSteps := 2000000) -implicitDefEqProofs only [zz, zE, evop, ev, ofVal, tget, tput, ok, V.isUndef, intBin, Ch.on, xport, xports, tids, tidss, hget, hput, freeze, V.cells, V.one, splice, resOf, resV, resVs, ↓reduceIte, Nat.reduceLT, Nat.reduceEqDiff, Nat.reduceAdd, Nat.reduceLeDiff, nilTest]
      try simp (maxSteps := 2000000) -implicitDefEqProofs only [e11]
    · rw [if_neg hbad] at hr hY
      generalize (runT t0 c w.heap w.tab).2 = n at hr
      generalize (runT t0 c w.heap w.tab).1 = u at hr hY
      subst hY
      unfold dT tyC at hb hr
      refine CSpec.of_awp envOf_ok hmix Tryz.func29 rfl (fun args w => Tryz.call29 args w) (by simp [Tryz.f29]) ?_
      simp only [Tryz.f29]
      simp (maxSteps := 2000000) -implicitDefEqProofs only [zz, zE, evop, ev, tget, V.isUndef, initT, V.cells, ↓reduceIte, reduceCtorEq, Nat.reduceEqDiff, Nat.reduceAdd]
      unfold dT tyC dWl
      simp (maxSteps := 2000000) -implicitDefEqProofs only [zz, zE, evop, ev, ofVal, tget, tput, ok, V.isUndef, Ch.on, calleeOf, withArgs, hput, ↓reduceIte, reduceCtorEq, Nat.reduceLT, Nat.reduceEqDiff]
      refine acall_ice' (hb) ?_
      try simp (maxSteps := 2000000) -implicitDefEqProofs only [zz, zE, evop, ev, ofVal, tget, tput, ok, V.isUndef, intBin, Ch.on, calleeOf, withArgs, told, tids, tidss, hget, hput, freeze, V.cells, V.one, structAt, Blk.width, splice, ↓reduceIte, reduceCtorEq, Nat.reduceLT, Nat.reduceEqDiff, Nat.reduceAdd, Nat.reduceLeDiff, nilTest]
      try skip
      refine acall_ice' (hr) ?_
      try simp (maxSteps := 2000000) -implicitDefEqProofs only [zz, zE, evop, ev, ofVal, tget, tput, ok, V.isUndef, intBin, Ch.on, xport, xports, tids, tidss, hget, hput, freeze, V.cells, V.one, splice, resOf, resV, resVs, ↓reduceIte, Nat.reduceLT, Nat.reduceEqDiff, Nat.reduceAdd, Nat.reduceLeDiff, nilTest]
      try skip
end Go.Proofs.YtjhfpabldidlgaaGreat.AM

set_option linter.all false
set_option maxRecDepth 100000
set_option maxHeartbeats 8000000
namespace Go.Proofs.YtjhfpabldidlgaaGreat.AM
open Go Go.RowKit

theorem setH_heapR {h : List (Bool × Int)} {w : Int × Int} (hr : heapR h = true) (hs : spanR w.2 = true) (ht : thereB h w.1 = true) : heapR (setH h w) = true := by
  obtain ⟨k, v, hk, hkl, hkg⟩ := thereB_get ht
  have e : w.1.toNat = k := by omega
  have hset : setH h w = h.set k (true, w.2) := by unfold setH; rw [e, hkg]; rfl
  rw [hset]
  simp only [heapR, Bool.and_eq_true, Bool.not_eq_true', List.any_eq_false, List.length_set] at hr ⊢
  refine ⟨hr.1, fun x hx => ?_⟩
  rcases List.mem_or_eq_of_mem_set hx with g | g
  · exact hr.2 x g
  · subst g; simp [wrongC, hs]
theorem thereB_live {a b : List (Bool × Int)} (h : a.map (fun x => x.1) = b.map (fun x => x.1)) (c : Int) : thereB a c = thereB b c := by
  have hl : a.length = b.length := by have := congrArg List.length h; simpa using this
  have hg := congrArg (fun l => l[c.toNat]?) h
  simp only [List.getElem?_map] at hg
  unfold thereB
  rw [hl]
  congr 1
  cases ha : a[c.toNat]? <;> cases hb : b[c.toNat]? <;> simp_all
theorem putsH_heapR {h : List (Bool × Int)} : ∀ {ws : List (Int × Int)}, heapR h = true → (∀ w ∈ ws, spanR w.2 = true ∧ thereB h w.1 = true) → heapR (putsH h ws) = true
  | [], hr, _ => hr
  | w :: r, hr, ha => by
    obtain ⟨a, b⟩ := ha w (by simp)
    have e : putsH h (w :: r) = putsH (setH h w) r := rfl
    rw [e]
    refine putsH_heapR (setH_heapR hr a b) (fun x hx => ?_)
    obtain ⟨p, q⟩ := ha x (by simp [hx])
    exact ⟨p, by rw [thereB_live (setH_live h w)]; exact q⟩
theorem heapPut_heapR {h : List (Bool × Int)} (ws : List (Int × Int)) (hr : heapR h = true) : heapR (heapPut h ws).1 = true := by
  unfold heapPut
  split
  · rename_i h1
    split
    · rename_i h2
      refine putsH_heapR hr (fun w hw => ⟨?_, List.all_eq_true.1 h2 w hw⟩)
      have := List.any_eq_false.1 h1.2 w hw
      simpa using this
    · exact hr
  · exact hr
end Go.Proofs.YtjhfpabldidlgaaGreat.AM

set_option linter.all false
set_option maxRecDepth 100000
set_option maxHeartbeats 8000000
namespace Go.Proofs.YtjhfpabldidlgaaGreat.AM
open Go Go.RowKit

def NewRd (h : List (Bool × Int)) (r : List (Int × Int)) (x : Rd) : Prop := (∃ b, h[x.1.toNat]? = some (b, x.2.2)) ∧ 0 ≤ x.1 ∧ 0 ≤ x.1.tmod r.length ∧ (r.length : Int) ≠ 0 ∧ r[(x.1.tmod r.length).toNat]? = some (x.2.1, 0)

theorem doT_reads {t : Ty} {s : St} {h : List (Bool × Int)} {r : List (Int × Int)} (htb : tableR r = true) : (doT t s h r).reads = t.reads ∨ ∃ x, (doT t s h r).reads = t.reads ++ [x] ∧ NewRd h r x := by
  unfold doT
  split
  · unfold loadT
    split
    · exact .inl rfl
    · rename_i hg
      simp only [ne_eq, Decidable.not_not] at hg
      split
      · exact .inl rfl
      · split
        · exact .inl rfl
        · split
          · exact .inl rfl
          · rename_i hno
            right
            obtain ⟨z1, z2, z3, z4, z5⟩ := heapGet_0 hg
            obtain ⟨y1, y2, y3, y4, y5, y6, y7⟩ := recR_in htb z4
            refine ⟨(s.b, (recR r s.b).1, (heapGet h s.b).1), rfl, ?_, z4, y6, by omega, ?_⟩
            · obtain ⟨k, v, hk, hkl, hkg⟩ := thereB_get z2
              refine ⟨true, ?_⟩
              simp only
              unfold heapGet
              rw [if_pos z1, if_pos z2]
              rw [hk, Int.toNat_natCast, hkg]
              simp
            · simp only
              have : recR r s.b = ((recR r s.b).1, 0) := by
                have : (recR r s.b).2 = 0 := by omega
                exact Prod.ext rfl this
              rw [← this]
              unfold recR
              rw [List.getElem?_eq_getElem (by omega)]
              rfl
  · split
    · exact .inl rfl
    · split
      · unfold storeT
        split
        · exact .inl rfl
        · exact .inl rfl
      · split
        · exact .inl rfl
        · split
          · unfold agT
            split
            · exact .inl rfl
            · exact .inl rfl
          · split
            · exact .inl rfl
            · exact .inl rfl

theorem stpT_reads {c : List St} (hc : CodeOk c) {t : Ty} (hi : InvS c t) {h : List (Bool × Int)} {r : List (Int × Int)} (hmay : mayT t h r = true) : (stpT t c h r).reads = t.reads ∨ ∃ x, (stpT t c h r).reads = t.reads ++ [x] ∧ NewRd h r x := by
  have hm := hmay
  simp only [mayT, Bool.and_eq_true, decide_eq_true_eq] at hm
  obtain ⟨hlt, hst⟩ := hi.run hm.2
  have hpc := hi.pc0
  have hs : c[t.pc.toNat]? = some (c[t.pc.toNat]'(by omega)) := List.getElem?_eq_getElem (by omega)
  obtain ⟨g1, _⟩ := hi.doT hc hmay hs
  have hd := doT_reads (t := t) (s := c[t.pc.toNat]'(by omega)) (h := h) (r := r) hm.1.2
  unfold stpT
  rw [hs]
  simp only
  split
  · exact hd
  · rename_i he
    simp only [ne_eq, Decidable.not_not] at he
    rw [(setT_ok g1 he).2.2.1]
    exact hd

end Go.Proofs.YtjhfpabldidlgaaGreat.AM

set_option linter.all false
set_option maxRecDepth 100000
set_option maxHeartbeats 8000000
namespace Go.Proofs.YtjhfpabldidlgaaGreat.AM
open Go Go.RowKit

theorem logKeep_mem {l : Lg} {x : Int × Int} (h : x ∈ (logKeep l).1.1) : x ∈ l.1 := by
  unfold logKeep at h; split at h <;> exact h
theorem logBack_mem {l : Lg} {x : Int × Int} (h : x ∈ (logBack l).1.1) : x ∈ l.1 := by
  unfold logBack at h; split at h
  · exact List.mem_of_mem_take h
  · exact h
theorem logMark_mem {l : Lg} {x : Int × Int} (h : x ∈ (logMark l).1.1) : x ∈ l.1 := by
  unfold logMark at h; split at h
  · split at h <;> exact h
  · exact h
theorem logPut_mem {l : Lg} {w x : Int × Int} (h : x ∈ (logPut l w).1.1) : x ∈ l.1 ∨ x = w := by
  unfold logPut at h; split at h
  · split at h
    · exact .inl h
    · rcases List.mem_append.1 h with g | g
      · exact .inl g
      · exact .inr (by simpa using g)
  · exact .inl h
theorem setF_log : ∀ (n : Nat) (t : Ty), (setF n t).who = t.who ∧ ∀ x ∈ (setF n t).log.1, x ∈ t.log.1
  | 0, t => ⟨rfl, fun _ h => h⟩
  | n + 1, t => by
    unfold setF
    split
    · split
      · obtain ⟨a, b⟩ := setF_log n (popT t _)
        exact ⟨a, fun x hx => logKeep_mem (b x hx)⟩
      · exact ⟨rfl, fun _ h => h⟩
    · exact ⟨rfl, fun _ h => h⟩
theorem setT_log (n : Int) (t : Ty) : (setT n t).who = t.who ∧ ∀ x ∈ (setT n t).log.1, x ∈ t.log.1 := by
  unfold setT doneT
  split <;> exact setF_log _ t
theorem doT_log (t : Ty) (s : St) (h : List (Bool × Int)) (r : List (Int × Int)) : (doT t s h r).who = t.who ∧ ∀ x ∈ (doT t s h r).log.1, x ∈ t.log.1 ∨ thereB h x.1 = true := by
  unfold doT
  split
  · unfold loadT
    split
    · exact ⟨rfl, fun _ h => .inl h⟩
    · split
      · exact ⟨rfl, fun _ h => .inl h⟩
      · split
        · exact ⟨rfl, fun _ h => .inl h⟩
        · split <;> exact ⟨rfl, fun _ h => .inl h⟩
  · split
    · exact ⟨rfl, fun _ h => .inl h⟩
    · split
      · unfold storeT
        split
        · exact ⟨rfl, fun _ h => .inl h⟩
        · rename_i hg
          simp only [ne_eq, Decidable.not_not] at hg
          refine ⟨rfl, fun x hx => ?_⟩
          rcases logPut_mem hx with g | g
          · exact .inl g
          · subst g; exact .inr (heapGet_0 hg).2.1
      · split
        · exact ⟨rfl, fun _ h => .inl h⟩
        · split
          · unfold agT
            split
            · exact ⟨rfl, fun _ h => .inl h⟩
            · exact ⟨rfl, fun x hx => .inl (logBack_mem hx)⟩
          · split
            · exact ⟨rfl, fun _ h => .inl h⟩
            · exact ⟨rfl, fun x hx => .inl (logMark_mem hx)⟩
theorem stpT_log (t : Ty) (c : List St) (h : List (Bool × Int)) (r : List (Int × Int)) : (stpT t c h r).who = t.who ∧ ∀ x ∈ (stpT t c h r).log.1, x ∈ t.log.1 ∨ thereB h x.1 = true := by
  unfold stpT
  split
  · rename_i s _
    obtain ⟨a, b⟩ := doT_log t s h r
    split
    · exact ⟨a, b⟩
    · obtain ⟨p, q⟩ := setT_log c.length (doT t s h r)
      exact ⟨by rw [p, a], fun x hx => b x (q x hx)⟩
  · exact ⟨rfl, fun _ h => .inl h⟩

structure RunOk (h : List (Bool × Int)) (r : List (Int × Int)) (who : Int) (t : Ty) : Prop where
  who : t.who = who
  reads : ∀ x ∈ t.reads, NewRd h r x
  live : ∀ x ∈ t.log.1, thereB h x.1 = true

theorem itT_run {c : List St} (hc : CodeOk c) {h : List (Bool × Int)} {r : List (Int × Int)} {who : Int} (hw : okW h r = true) : ∀ (k : Nat) (t : Ty), InvS c t → RunOk h r who t → RunOk h r who (itT c h r k t).1
  | 0, t, _, ho => ho
  | k + 1, t, hi, ho => by
    rw [itT]
    by_cases h0 : t.kind = 0
    · rw [if_pos h0]
      have hm : mayT t h r = true := by simp only [okW] at hw; simp [mayT, hw, h0]
      obtain ⟨s1, _⟩ := hi.stp hc hm
      have hr := stpT_reads hc hi hm
      obtain ⟨p, q⟩ := stpT_log t c h r
      refine itT_run hc hw k _ s1 ⟨by rw [p]; exact ho.who, fun x hx => ?_, fun x hx => ?_⟩
      · rcases hr with e | ⟨y, e, hy⟩
        · rw [e] at hx; exact ho.reads x hx
        · rw [e] at hx
          rcases List.mem_append.1 hx with g | g
          · exact ho.reads x g
          · simp at g; subst g; exact hy
      · rcases q x hx with g | g
        · exact ho.live x g
        · exact g
    · rw [if_neg h0]; exact ho

theorem begT_run {c : List St} {who snap : Int} (h : mayB c who snap = true) (hp : List (Bool × Int)) (r : List (Int × Int)) : RunOk hp r who (begT c who snap) ∧ whoB who = true := by
  have e : begT c who snap = setT c.length (newT who snap) := by simp [begT, h]
  have hc : CodeOk c := by simp only [mayB, Bool.and_eq_true, decide_eq_true_eq] at h; exact CodeOk.of h.1.1.1
  obtain ⟨_, _, g3, _⟩ := setT_ok (new_ok hc who snap) rfl
  obtain ⟨p, q⟩ := setT_log c.length (newT who snap)
  simp only [mayB, Bool.and_eq_true, decide_eq_true_eq] at h
  rw [e]
  refine ⟨⟨by rw [p]; rfl, ?_, ?_⟩, by simp [whoB, h.1.1.2, h.1.2]⟩
  · rw [g3]; simp [newT, zeroT]
  · intro x hx
    have := q x hx
    simp [newT, zeroT] at this

structure TryOk (c : List St) (who snap : Int) (w : Wl) (t : Ty) : Prop where
  code : CodeOk c
  inv : InvS c t
  snap : t.snap = snap
  whoB : whoB who = true
  run : t.reads = [] ∧ t.log.1 = [] ∨ okW w.heap w.tab = true
  ok : RunOk w.heap w.tab who t

theorem itT_stop' {c : List St} {h : List (Bool × Int)} {r : List (Int × Int)} {t : Ty} (hk : t.kind ≠ 0) : (runT t c h r).1 = t := by unfold runT; rw [itT_stop hk]
theorem begT_none {c : List St} {who snap : Int} (h : mayB c who snap = true) : (begT c who snap).reads = [] ∧ (begT c who snap).log.1 = [] := by
  obtain ⟨o, _⟩ := begT_run h [] []
  have hc : CodeOk c := by simp only [mayB, Bool.and_eq_true, decide_eq_true_eq] at h; exact CodeOk.of h.1.1.1
  have e : begT c who snap = setT c.length (newT who snap) := by simp [begT, h]
  obtain ⟨_, _, g3, _⟩ := setT_ok (new_ok hc who snap) rfl
  obtain ⟨_, q⟩ := setT_log c.length (newT who snap)
  rw [e]
  refine ⟨by rw [g3]; rfl, List.eq_nil_iff_forall_not_mem.2 (fun x hx => ?_)⟩
  have := q x hx
  simp [newT, zeroT] at this

theorem tryT_ok {c : List St} {who snap : Int} {w : Wl} (h : (tryT c who snap w).2 = true) : TryOk c who snap w (tryT c who snap w).1 := by
  unfold tryT at h ⊢
  by_cases hB : mayB c who snap = true
  · rw [if_pos hB] at h ⊢
    obtain ⟨ho, hi0, hsn⟩ := beg_ok hB
    obtain ⟨hr0, hwb⟩ := begT_run hB w.heap w.tab
    by_cases hbad : (begT c who snap).kind = 0 ∧ okW w.heap w.tab = false
    · rw [if_pos hbad] at h; simp at h
    · rw [if_neg hbad]
      by_cases h0 : (begT c who snap).kind = 0
      · have hw : okW w.heap w.tab = true := by
          cases e : okW w.heap w.tab with
          | true => rfl
          | false => exact absurd ⟨h0, e⟩ hbad
        obtain ⟨r1, r2, r3⟩ := runT_ok ho hw hi0
        exact ⟨ho, r1, by rw [r3, hsn], hwb, .inr hw, itT_run ho hw _ _ hi0 hr0⟩
      · simp only
        rw [itT_stop' h0]
        exact ⟨ho, hi0, hsn, hwb, .inl (begT_none hB), hr0⟩
  · rw [if_neg hB] at h; simp at h

theorem begC_well {c : List St} {who snap : Int} {w : Wl} {t : Ty} (h : TryOk c who snap w t) (hd : t.kind = 1) : CmWell (begC t) ∧ (begC t).t = t ∧ ((begC t).phase = 5 ∧ t.log.1 = [] ∧ (begC t).version = t.snap ∨ (begC t).phase = 0 ∧ t.log.1 ≠ [] ∧ (begC t).version = 0) ∧ (begC t).err = 0 := by
  have hwho : whoB t.who = true := by rw [h.ok.who]; exact h.whoB
  have hrl := (readsR_parts.1 h.inv.rds).2.2
  unfold begC
  rw [if_pos hd]
  split
  · rename_i hl
    exact ⟨⟨⟨h.inv.log, by simp only; omega⟩, h.inv.rds, hwho, fun _ _ => rfl⟩, rfl, .inl ⟨rfl, by simpa using hl, rfl⟩, rfl⟩
  · rename_i hl
    exact ⟨⟨⟨h.inv.log, by simp only; omega⟩, h.inv.rds, hwho, fun _ _ => rfl⟩, rfl, .inr ⟨rfl, by simpa using hl, rfl⟩, rfl⟩
end Go.Proofs.YtjhfpabldidlgaaGreat.AM

set_option linter.all false
namespace Go.Proofs.YtjhfpabldidlgaaGreat.AM
open Go Go.RowKit

section
variable {P : Program} {E : Env} {C : Ctx} {n m : Nat}

theorem aops_soundL (hE : EOk P E) {all : Array Oper} {Q : Tmps → Heap → Prop} {Q' : Exit → Act → World → Prop} {L : List Nat} : ∀ (rest : List Oper) (k : Nat) {T : Tmps} {H : Heap} {φ : Nat → Option Loc} {S : Nat → Prop} {a : Act} {w : World}, (∀ i, i < rest.length → rest[i]? = all.toList[k + i]?) →
    Stands C n T H φ S a w → aops P E n all.toList rest T H Q → (∀ a' w', NextQ C n m φ S H w Q a' w' → wpOps P all Q' L a' w') → wpOps P all Q' ((List.range rest.length).map (k + ·) ++ L) a w
  | [], k, T, H, φ, S, a, w, _, hst, h, hQ => hQ _ _ ⟨T, H, φ, S, h, hst, .refl, .refl⟩
  | o :: rest, k, T, H, φ, S, a, w, hr, hst, h, hQ => by
    have ho : all[k]? = some o := by have := hr 0 (by simp); simpa using this.symm
    have hrest : ∀ i, i < rest.length → rest[i]? = all.toList[k + 1 + i]? := fun i hi => by have := hr (i + 1) (by simp; omega); rw [show k + (i + 1) = k + 1 + i by omega] at this; simpa using this
    have hlist : (List.range (o :: rest).length).map (k + ·) = k :: (List.range rest.length).map (k + 1 + ·) := by
      rw [List.length_cons, List.range_succ_eq_map]
      simp only [List.map_cons, List.map_map, Nat.add_zero]
      congr 1
      apply List.map_congr_left
      intro i _
      simp; omega
    rw [hlist, List.cons_append]
    simp only [wpOps, ho]
    have step : ∀ {T : Tmps}, Stands C n T H φ S a w → astep P E n o T H (fun T' H' => aops P E n all.toList rest T' H' Q) → o.wp P a w (wpOps P all Q' ((List.range rest.length).map (k + 1 + ·) ++ L)) Q' := fun {T} hst h => by
      refine Oper.wp_mono ?_ (astep_sound (m := m) (Q := Q') hE hst h)
      rintro a' w' ⟨T', H', φ', S', h1, h2, h3, h4⟩
      exact aops_soundL hE rest (k + 1) hrest h2 h1 (fun a'' w'' ⟨T2, H2, φ2, S2, g1, g2, g3, g4⟩ => hQ _ _ ⟨T2, H2, φ2, S2, g1, g2, h3.trans g3, h4.trans g4⟩)
    simp only [aops] at h
    split at h
    · rename_i hg
      have hw : Region.wanted o (yielded all a.tmps) = true := by simp [Region.wanted, hg]
      rw [if_pos hw]
      exact .inl (step hst h)
    · rename_i j want hg
      split at h
      · rename_i t ht
        split at h
        · rename_i b hb
          have hy := yielded_of ht hst.tmps hb
          have hv := hst.tmps t
          rw [hb] at hv
          split at h
          · rename_i hbw
            subst hbw
            have hw : Region.wanted o (yielded all a.tmps) = true := by simp [Region.wanted, hg, hy]
            rw [if_pos hw]
            exact .inl (step ⟨hst.heap, hst.tmps.told hv, hst.size, hst.defers⟩ h)
          · rename_i hbw
            have hw : ¬ Region.wanted o (yielded all a.tmps) = true := by simp [Region.wanted, hg, hy]; exact hbw
            rw [if_neg hw]
            have hbn : b = !want := by cases b <;> cases want <;> simp_all
            subst hbn
            exact aops_soundL hE rest (k + 1) hrest (Stands.skip ⟨hst.heap, hst.tmps.told hv, hst.size, hst.defers⟩ o.dst) h hQ
        · rename_i hb
          have hv := hst.tmps t
          rw [hb] at hv
          have hy := yielded_no ht (tuple0_inv hv)
          have hw : ¬ Region.wanted o (yielded all a.tmps) = true := by simp [Region.wanted, hg, hy]
          rw [if_neg hw]
          exact aops_soundL hE rest (k + 1) hrest (Stands.skip hst o.dst) h hQ
        · exact h.elim
      · exact h.elim

theorem range_cut (j l : Nat) (h : j ≤ l) : List.range l = (List.range j).map (0 + ·) ++ (List.range (l - j)).map (j + ·) := by
  refine List.ext_getElem? (fun i => ?_)
  rcases Nat.lt_or_ge i j with g | g
  · rw [List.getElem?_append_left (by simpa using g), List.getElem?_map, List.getElem?_range (by omega), List.getElem?_range g]; simp
  · rw [List.getElem?_append_right (by simpa using g), List.getElem?_map]
    simp only [List.length_map, List.length_range]
    rcases Nat.lt_or_ge i l with q | q
    · rw [List.getElem?_range q, List.getElem?_range (by omega)]; simp; omega
    · rw [List.getElem?_eq_none (by simpa using q), List.getElem?_eq_none (by simp; omega)]; rfl

theorem Snd.cut_ops (hE : EOk P E) (j : Nat) {id : Nat} {ops : Array Oper} {T : Tmps} {H : Heap} {Q : Ex → Tmps → Heap → Prop} (hj : j ≤ ops.size)
    (h : aops P E n ops.toList (ops.toList.take j) T H fun T1 H1 => ∃ T2 H2, Weak m T1 H1 T2 H2 ∧ aops P E n ops.toList (ops.toList.drop j) T2 H2 (Q .normal)) : Snd P E n m (.region id ops false) T H Q := fun C φ S a w hst => by
  refine wp_region ?_
  have key := aops_soundL (m := m) hE (all := ops) (Q' := PostQ C n m φ S H w Q) (L := (List.range (ops.size - j)).map (j + ·)) (ops.toList.take j) 0 (fun i hi => by
    have hi' : i < j := by simp at hi; omega
    rw [List.getElem?_take, if_pos hi', Nat.zero_add]) hst h ?_
  · have hl : (ops.toList.take j).length = j := by simp; omega
    rw [hl, ← range_cut j ops.size hj] at key
    simpa using key
  · rintro a' w' ⟨T1, H1, φ1, S1, ⟨T2, H2, hw, h2⟩, hst1, hs1, hk1⟩
    obtain ⟨φ2, S2, g1, g2, g3⟩ := hw C φ1 S1 w' a' hst1.heap hst1.tmps
    have := aops_sound (m := m) hE (all := ops) (Q := Q .normal) (Q' := PostQ C n m φ S H w Q) (ops.toList.drop j) j (fun i => by rw [List.getElem?_drop]) (by simp; omega) ⟨g1, g2, hst1.size, hst1.defers⟩ h2
      (fun a'' w'' ⟨T', H', φ', S', p1, p2, p3, p4⟩ => ⟨.normal, T', H', φ', S', p1, rfl, p2, hs1.trans (g3.trans p3), hk1.trans p4⟩)
    have hl : (ops.toList.drop j).length = ops.size - j := by simp
    rw [hl] at this
    exact this

theorem Snd.seqS {x y : Code} {T : Tmps} {H : Heap} {Q : Ex → Tmps → Heap → Prop} (h : Snd P E n m x T H (cutK P E n m y Q)) : Snd P E n m (.seq x y) T H Q := fun C φ S a w hst => by
  refine wp_seq (wp_mono (h C φ S a w hst) ?_)
  rintro e a1 w1 ⟨e', T', H', φ', S', hq, rfl, hst', hs', hk'⟩
  cases e' with
  | normal => exact wp_mono (hq C φ' S' a1 w1 hst') (fun e a2 w2 hp => hp.from hs' hk')
  | exit id => exact ⟨.exit id, T', H', φ', S', hq, rfl, hst', hs', hk'⟩
  | ret => exact ⟨.ret, T', H', φ', S', hq, rfl, hst', hs', hk'⟩
end
end Go.Proofs.YtjhfpabldidlgaaGreat.AM

set_option linter.all false
set_option maxRecDepth 100000
set_option maxHeartbeats 8000000
namespace Go.Proofs.YtjhfpabldidlgaaGreat.AM
open Go Go.RowKit

def k12 : List St := [⟨1, 1, 0, []⟩, ⟨3, 0, 0, [(1, 7)]⟩]
def w12 : Wl := ⟨[(true, 5)], [(2, 0)], 3⟩
def u12 : Ty := ⟨4, 3, 2, [0, 5, 0, 0, 0, 0, 0, 0], [], [(0, 2, 5)], ([(0, 7)], []), [], 1, 0⟩
def c12 : Cm := ⟨u12, 0, 0, 0⟩
def v12 : Wl := ⟨[(true, 7)], [(4, 0)], 4⟩

theorem k12_code : codeC k12 = 0 := by
  have h1 : (k12.any fun s => !mayS s) = false := by decide
  have h2 : wellW k12 = (0, true) := by simp [k12, wellW]
  unfold codeC
  rw [h1, h2]
  decide
theorem k12_ok : CodeOk k12 := CodeOk.of k12_code
theorem k12_t : ∀ s ∈ k12, s.t.length ≤ 1000000 := by decide
theorem n12_ok : InvS k12 (newT 4 3) := by
  have h := (setT_ok (new_ok k12_ok 4 3) rfl).1
  have e : setT (k12.length : Int) (newT 4 3) = newT 4 3 := by decide
  rwa [e] at h
theorem w12_1 : CSpec Tryz.prog 15 [.vec (k12.map dS), .int .i64 4, .int .i64 3] (.tuple [dT (newT 4 3), .int .i64 0]) := by
  have h := c_attempt_Begin k12 4 3 (by decide) k12_t
  have hB : mayB k12 4 3 = true := by simp [mayB, k12_code, tickR]
  have e : begT k12 4 3 = newT 4 3 := by
    unfold begT
    rw [if_pos hB]
    decide
  rw [e, if_pos hB] at h
  exact h
theorem w12_run : runT (newT 4 3) k12 [(true, 5)] [(2, 0)] = (u12, 2) := by decide
theorem w12_2 : CSpec Tryz.prog 51 [dT (newT 4 3), .vec (k12.map dS), .vec (w12.heap.map dC), .vec (w12.tab.map dW)] (.tuple [dT u12, .int .i64 2, .int .i64 0]) ∧ InvS k12 u12 := by
  have hr := c_attempt_Run k12 (newT 4 3) w12.heap w12.tab k12_ok n12_ok (by decide) k12_t
  have hw : okW w12.heap w12.tab = true := by decide
  have he : runT (newT 4 3) k12 w12.heap w12.tab = (u12, 2) := w12_run
  rw [if_neg (by rw [hw]; simp), he] at hr
  have hi := (runT_ok k12_ok hw n12_ok).1
  rw [he] at hi
  exact ⟨hr, hi⟩
theorem c12_ok : CmOk c12 := ⟨by decide, by decide⟩

theorem of12 (o : Int) (h : tableR [(2, o)] = true) : ofR [(2, o)] [0] = [0] := by
  have hm : mayO' [(2, o)] [0] = true := by simp [mayO', h, negI]
  unfold ofR
  rw [if_pos hm]
  have : placesL [(2, o)] [0] = [0] := by simp [placesL]
  rw [this]
  simp [srtI, cmpZ, cmpct, cmpctGo]
theorem cells12 : cellsC c12 = [0] := by decide
theorem lock12 : lockR [(2, 0)] 4 [0] = ([(2, 4)], 0) := by
  have e := of12 0 (by decide)
  unfold lockR
  rw [e, if_pos (by decide)]
  decide
theorem lock12' : lockR [(2, 1)] 4 [0] = ([(2, 1)], 7) := by
  have e := of12 1 (by decide)
  unfold lockR
  rw [e, if_pos (by decide)]
  decide
theorem all12 : allC c12 w12 = ((⟨u12, 5, 4, 0⟩, v12), 0) := by
  have s0 : stpC c12 w12 = (⟨u12, 1, 0, 0⟩, ⟨[(true, 5)], [(2, 4)], 3⟩) := by
    rw [stp_0 rfl, cells12]
    have e : lockR w12.tab c12.t.who [0] = ([(2, 4)], 0) := lock12
    rw [e]; rfl
  have s1 : stpC ⟨u12, 1, 0, 0⟩ ⟨[(true, 5)], [(2, 4)], 3⟩ = (⟨u12, 2, 4, 0⟩, ⟨[(true, 5)], [(2, 4)], 4⟩) := by
    rw [stp_1 rfl (by decide)]; rfl
  have s2 : stpC ⟨u12, 2, 4, 0⟩ ⟨[(true, 5)], [(2, 4)], 4⟩ = (⟨u12, 3, 4, 0⟩, ⟨[(true, 5)], [(2, 4)], 4⟩) := by
    rw [stp_2 rfl]
    have e : validR u12.reads [(2, 4)] u12.who = 0 := by decide
    rw [if_neg (by simp only; rw [e]; simp)]; rfl
  have s3 : stpC ⟨u12, 3, 4, 0⟩ ⟨[(true, 5)], [(2, 4)], 4⟩ = (⟨u12, 4, 4, 0⟩, ⟨[(true, 7)], [(2, 4)], 4⟩) := by
    rw [stp_3 rfl]
    have e : heapPut [(true, 5)] (lastW u12.log.1) = ([(true, 7)], 0) := by decide
    simp only [e]; rfl
  have s4 : stpC ⟨u12, 4, 4, 0⟩ ⟨[(true, 7)], [(2, 4)], 4⟩ = (⟨u12, 5, 4, 0⟩, v12) := by
    rw [stp_4 rfl]
    have e : stampR [(2, 4)] u12.who 4 = ([(4, 0)], 0) := by decide
    simp only [e]; rfl
  unfold allC
  rw [allN_succ, if_pos (by decide), if_pos (by decide), s0, allN_succ, if_pos (by decide), if_pos (by decide), s1, allN_succ, if_pos (by decide), if_pos (by decide), s2, allN_succ, if_pos (by decide), if_pos (by decide), s3, allN_succ, if_pos (by decide), if_pos (by decide), s4, allN_succ, if_neg (by decide)]
theorem held12 : allC c12 ⟨[(true, 5)], [(2, 1)], 3⟩ = ((⟨u12, 6, 0, 7⟩, ⟨[(true, 5)], [(2, 1)], 3⟩), 0) := by
  have s0 : stpC c12 ⟨[(true, 5)], [(2, 1)], 3⟩ = (⟨u12, 6, 0, 7⟩, ⟨[(true, 5)], [(2, 1)], 3⟩) := by
    rw [stp_0 rfl, cells12]
    have e : lockR [(2, 1)] c12.t.who [0] = ([(2, 1)], 7) := lock12'
    simp only [e]
    rw [if_pos (by decide)]
    have e2 : letR [(2, 1)] c12.t.who = [(2, 1)] := by decide
    unfold goneC
    simp only [e2]; rfl
  unfold allC
  rw [allN_succ, if_pos (by decide), if_pos (by decide), s0, allN_succ, if_neg (by decide)]

theorem c_awake12 : CSpec Tryz.prog 28 [] (.bool true) := by
  have q1 := w12_1
  have q2 := w12_2.1
  have q3 := c_commit_Begin (newT 4 3)
  have q4 := c_commit_Begin u12
  have q5 := c_commit_All c12 w12 c12_ok
  have q6 := c_commit_All c12 ⟨[(true, 5)], [(2, 1)], 3⟩ c12_ok
  have q7 := c_commit_Step ⟨u12, 5, 4, 0⟩ v12 ⟨by decide, by decide⟩
  have q8 := c_commit_Drop c12 w12 c12_ok
  have q9 := c_commit_Right v12
  have e3 : begC (newT 4 3) = zeroCm ∧ doneB (newT 4 3) = false := ⟨rfl, rfl⟩
  have e4 : begC u12 = c12 ∧ doneB u12 = true := ⟨rfl, rfl⟩
  have e7 : mayC ⟨u12, 5, 4, 0⟩ v12 = false := by decide
  have e7' : cmStep ⟨u12, 5, 4, 0⟩ v12 = (⟨u12, 5, 4, 0⟩, v12) := by simp [cmStep, e7]
  have e8 : dropC c12 w12 = (⟨u12, 6, 0, 8⟩, w12) := by
    unfold dropC
    rw [if_neg (by decide), if_pos (by decide)]
    rfl
  have e9 : mayW v12 = true := by decide
  rw [e3.1, e3.2, if_neg (by decide)] at q3
  rw [e4.1, e4.2, if_pos rfl] at q4
  rw [all12] at q5
  rw [held12] at q6
  rw [e7, e7', if_neg (by decide)] at q7
  rw [e8] at q8
  rw [e9] at q9
  simp only [dT, tyC, dCm, cmC, dWl, newT, zeroT, u12, v12, c12, w12, zeroCm, List.map_cons, List.map_nil, dI, dRd, dW, dFr, dC] at q1 q2 q3 q4 q5 q6 q7 q8 q9
  refine CSpec.of_snd envOf_ok hmix Tryz.func28 rfl (fun args w => Tryz.call28 args w) (by simp [Tryz.f28]) ?_
  simp only [Tryz.f28]
  refine Snd.upto envOf_ok hmix 2 _ ?_
  simp only [hdN, tlN]
  simp (maxSteps := 2000000) -implicitDefEqProofs only [zz, zE, evop, ev, ofVal, tget, tput, ok, V.isUndef, initT, Ch.on, hget, hput, V.cells, D.cells, V.one, V.clo, clos, V.toD, sliceOf, partsD, partsV, splice, ↓reduceIte, Nat.reduceLT, Nat.reduceEqDiff, Nat.reduceAdd, Nat.reduceMul, Nat.reduceLeDiff, cutK_normal]
  refine Snd.weak (T' := [(1, .ptr 2 0 0)]) (Weak.sealed [0, 1] (by simp [tget, sealF])) ?_
  simp only [sealH, AM.freeze, hput, hget, Blk.ice, List.map_cons, List.map_nil, sealB, sealF]
  refine Snd.weak (T' := [(1, .d (.imm (dWl w12) 0))]) (H' := []) (Weak.close [2] 0 (by simp) rfl (by simp [tget, sealF, hget, V.lower, xport, xports, tids, tidss, dW, dC, dWl, w12]) (by simp)) ?_
  refine Snd.seqS (Snd.cut_ops envOf_ok 3 (by decide) ?_)
  simp only [List.take, List.drop]
  simp (maxSteps := 2000000) -implicitDefEqProofs only [zz, zE, evop, ev, ofVal, tget, tput, ok, V.isUndef, Ch.on, hput, V.cells, D.cells, V.one, V.clo, clos, V.toD, sliceOf, partsD, partsV, splice, ↓reduceIte, Nat.reduceLT, Nat.reduceAdd, Nat.reduceMul, Nat.reduceLeDiff]
  refine ⟨[(28, .d (.vec [dW (1, 7)])), (26, .agg [.d (.int .i64 1), .d (.int .i64 1), .d (.int .i64 0), .nils]), (1, .d (.imm (dWl w12) 0))], [], Weak.close [0] 0 (by simp) rfl (by simp [tget, sealF, hget, V.lower, lowerL, dW]) (by simp), ?_⟩
  simp (maxSteps := 2000000) -implicitDefEqProofs only [zz, zE, evop, ev, ofVal, tget, tput, ok, V.isUndef, Ch.on, hput, V.cells, D.cells, V.one, V.clo, clos, V.toD, sliceOf, partsD, partsV, splice, ↓reduceIte, Nat.reduceLT, Nat.reduceEqDiff, Nat.reduceAdd, Nat.reduceMul, Nat.reduceLeDiff, dW, cutK_normal]
  refine Snd.weak (T' := [(2, .d (.vec (k12.map dS))), (1, .d (.imm (dWl w12) 0))]) (H' := []) (Weak.close [0] 0 (by simp) rfl (by simp [tget, sealF, hget, V.lower, dW, dS, k12]) (by simp)) ?_
  refine Snd.of_awp envOf_ok hmix ?_
  simp only [dWl, w12, List.map_cons, List.map_nil, dC, dW]
  simp (maxSteps := 2000000) -implicitDefEqProofs only [zz, evop, ev, ofVal, tget, tput, ok, V.isUndef, Ch.on, calleeOf, withArgs, ↓reduceIte, Nat.reduceLT]
  refine acall_ice' (q1) ?_
  try simp (maxSteps := 2000000) -implicitDefEqProofs only [zz, zE, evop, ev, tget, tput, ok, V.isUndef, Ch.on, calleeOf, withArgs, tids, tidss, hget, hput, freeze, V.cells, V.one, splice, ↓reduceIte, Nat.reduceLT, Nat.reduceEqDiff, Nat.reduceAdd, Nat.reduceLeDiff]
  refine acall_ice' (q3) ?_
  try simp (maxSteps := 2000000) -implicitDefEqProofs only [zz, zE, evop, ev, tget, tput, ok, V.isUndef, Ch.on, calleeOf, withArgs, tids, tidss, hget, hput, freeze, V.cells, D.cells, V.one, loadD, structAt, splice, ↓reduceIte, reduceCtorEq, Nat.reduceLT, Nat.reduceEqDiff, Nat.reduceAdd, Nat.reduceLeDiff]
  refine acall_ice' (q2) ?_
  try simp (maxSteps := 2000000) -implicitDefEqProofs only [zz, zE, evop, ev, tget, tput, ok, V.isUndef, Ch.on, calleeOf, withArgs, tids, tidss, hget, hput, freeze, V.cells, V.one, splice, ↓reduceIte, Nat.reduceLT, Nat.reduceEqDiff, Nat.reduceAdd, Nat.reduceLeDiff]
  refine acall_ice' (q4) ?_
  try simp (maxSteps := 2000000) -implicitDefEqProofs only [zz, zE, evop, ev, tget, tput, ok, V.isUndef, Ch.on, calleeOf, withArgs, tids, tidss, hget, hput, freeze, V.cells, D.cells, V.one, loadD, splice, ↓reduceIte, Nat.reduceLT, Nat.reduceEqDiff, Nat.reduceAdd, Nat.reduceLeDiff]
  refine acall_ice' (q5) ?_
  try simp (maxSteps := 2000000) -implicitDefEqProofs only [zz, zE, evop, ev, ofVal, tget, tput, ok, V.isUndef, Ch.on, calleeOf, withArgs, tids, tidss, hget, hput, freeze, V.cells, D.cells, V.one, V.clo, clos, V.toD, loadD, structAt, sliceOf, partsD, partsV, splice, ↓reduceIte, reduceCtorEq, Nat.reduceLT, Nat.reduceEqDiff, Nat.reduceAdd, Nat.reduceMul, Nat.reduceLeDiff]
  refine acall_ice' (q6) ?_
  try simp (maxSteps := 2000000) -implicitDefEqProofs only [zz, zE, evop, ev, tget, tput, ok, V.isUndef, Ch.on, calleeOf, withArgs, tids, tidss, hget, hput, Blk.ice, freeze, V.cells, V.one, splice, ↓reduceIte, Nat.reduceLT, Nat.reduceEqDiff, Nat.reduceAdd, Nat.reduceLeDiff]
  refine acall_ice' (q7) ?_
  try simp (maxSteps := 2000000) -implicitDefEqProofs only [zz, zE, evop, ev, tget, tput, ok, V.isUndef, Ch.on, calleeOf, withArgs, tids, tidss, hget, hput, freeze, V.cells, D.cells, V.one, loadD, splice, ↓reduceIte, Nat.reduceLT, Nat.reduceEqDiff, Nat.reduceAdd, Nat.reduceLeDiff]
  refine acall_ice' (q8) ?_
  try simp (maxSteps := 2000000) -implicitDefEqProofs only [zz, zE, evop, ev, ofVal, tget, tput, ok, V.isUndef, intBin, guardOf, Ch.on, calleeOf, withArgs, xport, tids, tidss, hget, hput, freeze, V.cells, D.cells, V.isAgg, V.one, V.clo, clos, loadD, structAt, eqCells, D.scalarEq, sliceOf, partsV, Blk.width, lenOf, splice, resOf, resV, resVs, ↓reduceIte, reduceCtorEq, Nat.reduceLT, Nat.reduceEqDiff, Nat.reduceAdd, Nat.reduceLeDiff, nilTest]
  have e1 : (((1 : Nat) : Int) == 1) = true := rfl
  simp (maxSteps := 2000000) -implicitDefEqProofs only [zz, ↓reduceIte, e1, Int.le_refl]
  refine acall_flat' (q9) rfl ?_
  try simp (maxSteps := 2000000) -implicitDefEqProofs only [zz, evop, ev, ofVal, tget, tput, ok, V.isUndef, Ch.on, xport, resOf, resV, resVs, ↓reduceIte, Nat.reduceLT, Nat.reduceEqDiff]
end Go.Proofs.YtjhfpabldidlgaaGreat.AM

set_option linter.all false
set_option maxRecDepth 100000
set_option maxHeartbeats 8000000
namespace Go.Proofs.YtjhfpabldidlgaaGreat.AM
open Go Go.RowKit

theorem goneC_t (c : Cm) (w : Wl) (e : Int) : (goneC c w e).1.t = c.t ∧ (goneC c w e).2.heap = w.heap ∧ (goneC c w e).2.tab.length = w.tab.length := ⟨rfl, rfl, by simp [goneC, letR, setsL_len]⟩
theorem stpC_lens (c : Cm) (w : Wl) : (stpC c w).2.heap.length = w.heap.length ∧ (stpC c w).2.tab.length = w.tab.length := by
  obtain ⟨k1, k2, k3, k4⟩ := phaseW_t c w
  have kh : (phaseW c w).1.2.heap.length = w.heap.length := by
    unfold phaseW
    split
    · rfl
    · split
      · split <;> rfl
      · split
        · rfl
        · split
          · exact heapPut_len ..
          · rfl
  unfold stpC
  split
  · obtain ⟨_, a, b⟩ := goneC_t (phaseW c w).1.1 (phaseW c w).1.2 (phaseW c w).2
    rw [a, b]; exact ⟨kh, k4⟩
  · exact ⟨kh, k4⟩
theorem cmStep_keeps {c : Cm} {w : Wl} : (cmStep c w).1.t = c.t ∧ (cmStep c w).2.heap.length = w.heap.length ∧ (cmStep c w).2.tab.length = w.tab.length := by
  unfold cmStep
  split
  · exact ⟨(stpC_phase c w).2, stpC_lens c w⟩
  · exact ⟨rfl, rfl, rfl⟩
theorem renL_d (ρ : Nat → Nat) (H : Heap) : ∀ ds : List D, RenL ρ H (ds.map V.d) (ds.map V.d)
  | [] => .nil
  | d :: r => .cons (.same (.d d)) (renL_d ρ H r)
theorem smallW_t {w : Wl} (h : smallW w = true) : w.heap.length ≤ 80 ∧ w.tab.length ≤ 30 := by simpa [smallW] using h

end Go.Proofs.YtjhfpabldidlgaaGreat.AM

set_option linter.all false
set_option maxRecDepth 100000
set_option maxHeartbeats 4000000
namespace Go.Proofs.YtjhfpabldidlgaaGreat.AM
open Go Go.RowKit

theorem recAt_mem {t : List (Int × Int)} {i : Int} (h0 : 0 ≤ i) (h : i < t.length) : recAt t i ∈ t := List.mem_of_getElem? (recAt_int h0 h)
theorem mem_recAt {t : List (Int × Int)} {x : Int × Int} (h : x ∈ t) : ∃ i : Int, 0 ≤ i ∧ i < t.length ∧ recAt t i = x := by
  obtain ⟨k, hk, rfl⟩ := List.getElem_of_mem h
  refine ⟨k, by omega, by omega, ?_⟩
  have := recAt_get hk
  rw [List.getElem?_eq_getElem hk] at this
  exact (Option.some.inj this).symm
theorem tableR_iff {t : List (Int × Int)} : tableR t = true ↔ 1 ≤ t.length ∧ t.length ≤ 16 ∧ ∀ i : Int, 0 ≤ i → i < t.length → 0 ≤ (recAt t i).1 ∧ (recAt t i).1 ≤ 2147483647 ∧ 0 ≤ (recAt t i).2 ∧ (recAt t i).2 ≤ 8 := by
  constructor
  · intro h
    have := tableR_len h
    exact ⟨this.1, this.2, fun i a b => rec_ok h a b⟩
  · rintro ⟨a, b, h⟩
    simp only [tableR, Bool.and_eq_true, decide_eq_true_eq, Bool.not_eq_true', List.any_eq_false]
    refine ⟨⟨a, b⟩, fun x hx => ?_⟩
    obtain ⟨i, i0, i1, rfl⟩ := mem_recAt hx
    have := h i i0 i1
    simp [wrongR]; omega
theorem newer_iff {t : List (Int × Int)} {n : Int} : t.any (newerR n) = false ↔ ∀ i : Int, 0 ≤ i → i < t.length → (recAt t i).1 ≤ n := by
  rw [List.any_eq_false]
  constructor
  · intro h i a b
    have := h _ (recAt_mem a b)
    simpa [newerR] using this
  · intro h x hx
    obtain ⟨i, i0, i1, rfl⟩ := mem_recAt hx
    have := h i i0 i1
    simp [newerR]; omega
theorem tab_ext {a b : List (Int × Int)} (hl : a.length = b.length) (h : ∀ i : Int, 0 ≤ i → i < a.length → recAt a i = recAt b i) : a = b := by
  refine List.ext_getElem? (fun k => ?_)
  rcases Nat.lt_or_ge k a.length with g | g
  · rw [recAt_get g, recAt_get (by omega), h k (by omega) (by omega)]
  · rw [List.getElem?_eq_none g, List.getElem?_eq_none (by omega)]
theorem recAt_setsL {t : List (Int × Int)} {L : List Int} {g : Int × Int → Int × Int} {i : Int} (h0 : 0 ≤ i) (h : i < t.length) : recAt (setsL t L g) i = if i ∈ L then g (recAt t i) else recAt t i := by
  have e : ((i.toNat : Nat) : Int) = i := by omega
  have h1 := setsL_get (t := t) (L := L) (g := g) (i := i.toNat) (by omega)
  have h2 := recAt_int (t := setsL t L g) h0 (by rw [setsL_len]; exact h)
  rw [h1, e] at h2
  exact (Option.some.inj h2).symm

theorem mayW_iff {w : Wl} : mayW w = true ↔ heapR w.heap = true ∧ tableR w.tab = true ∧ 0 ≤ w.clock ∧ w.clock ≤ 2147483647 ∧ ∀ i : Int, 0 ≤ i → i < w.tab.length → (recAt w.tab i).1 ≤ w.clock := by
  simp only [mayW, Bool.and_eq_true, Bool.not_eq_true', newer_iff, tickR, decide_eq_true_eq]
  constructor
  · rintro ⟨⟨⟨a, b⟩, c, d⟩, e⟩; exact ⟨a, b, c, d, e⟩
  · rintro ⟨a, b, c, d, e⟩; exact ⟨⟨⟨a, b⟩, c, d⟩, e⟩

theorem cells_nonneg {c : Cm} (h : logR c.t.log = true) : (cellsC c).any negI = false := by
  rw [List.any_eq_false]
  intro n hn
  obtain ⟨x, hx, rfl⟩ := List.mem_map.1 hn
  have := logR_nonneg h x (lastW_mem hx)
  simp [negI]; omega
theorem mayO_cells {c : Cm} {t : List (Int × Int)} (h : logR c.t.log = true) (ht : tableR t = true) : mayO' t (cellsC c) = true := by
  simp only [mayO', ht, cells_nonneg h]; rfl

theorem lockR_ok {t : List (Int × Int)} {who : Int} {cs : List Int} (hm : mayO' t cs = true) (hw : whoB who = true) : lockR t who cs = if (ofR t cs).any (badO t who) = true then (t, 7) else (setsL t (ofR t cs) fun r => (r.1, who), 0) := by
  unfold lockR; rw [if_pos (by rw [hm, hw]; rfl)]
theorem lock_rec {t : List (Int × Int)} {who : Int} {cs : List Int} (hm : mayO' t cs = true) (hw : whoB who = true) (hz : (lockR t who cs).2 = 0) : (lockR t who cs).1.length = t.length ∧ (∀ i ∈ ofR t cs, badO t who i = false) ∧ ∀ i : Int, 0 ≤ i → i < t.length → recAt (lockR t who cs).1 i = if i ∈ ofR t cs then ((recAt t i).1, who) else recAt t i := by
  rw [lockR_ok hm hw] at hz ⊢
  split at hz
  · simp at hz
  · rename_i hb
    rw [if_neg hb]
    simp only [Bool.not_eq_true, List.any_eq_false] at hb
    refine ⟨by simp only [setsL_len], fun i hi => by simpa using hb i hi, fun i a b => ?_⟩
    simp only
    exact recAt_setsL a b
theorem lock_err {t : List (Int × Int)} {who : Int} {cs : List Int} (hm : mayO' t cs = true) (hw : whoB who = true) (hz : (lockR t who cs).2 ≠ 0) : (lockR t who cs).2 = 7 ∧ ∃ i ∈ ofR t cs, badO t who i = true := by
  rw [lockR_ok hm hw] at hz ⊢
  split at hz
  · rename_i hb
    rw [if_pos hb]
    exact ⟨rfl, List.any_eq_true.1 hb⟩
  · exact absurd rfl hz
theorem lock_table {t : List (Int × Int)} {who : Int} {cs : List Int} (ht : tableR t = true) (hm : mayO' t cs = true) (hw : whoB who = true) : tableR (lockR t who cs).1 = true ∧ ∀ i : Int, 0 ≤ i → i < t.length → (recAt (lockR t who cs).1 i).1 = (recAt t i).1 := by
  by_cases hz : (lockR t who cs).2 = 0
  · obtain ⟨h1, _, h3⟩ := lock_rec hm hw hz
    have hwb := whoB_0 hw
    obtain ⟨a, b, q⟩ := tableR_iff.1 ht
    refine ⟨tableR_iff.2 ⟨by omega, by omega, fun i i0 i1 => ?_⟩, fun i i0 i1 => ?_⟩
    · rw [h3 i i0 (by omega)]
      have := q i i0 (by omega)
      split
      · simp only; omega
      · exact this
    · rw [h3 i i0 i1]
      split <;> rfl
  · rw [lockR_err hz]
    exact ⟨ht, fun _ _ _ => rfl⟩

theorem held_mem {t : List (Int × Int)} {who : Int} {i : Int} (ht : tableR t = true) (hw : whoB who = true) : i ∈ heldR t who ↔ 0 ≤ i ∧ i < t.length ∧ (recAt t i).2 = who := by
  rw [heldR_mem]; simp [ht, hw]
theorem let_rec {t : List (Int × Int)} {who : Int} (ht : tableR t = true) (hw : whoB who = true) {i : Int} (h0 : 0 ≤ i) (h : i < t.length) : recAt (letR t who) i = if (recAt t i).2 = who then ((recAt t i).1, 0) else recAt t i := by
  unfold letR
  rw [recAt_setsL h0 h]
  have := held_mem (i := i) ht hw
  by_cases e : (recAt t i).2 = who
  · rw [if_pos e, if_pos (this.2 ⟨h0, h, e⟩)]
  · rw [if_neg e, if_neg (fun g => e (this.1 g).2.2)]
theorem let_len (t : List (Int × Int)) (who : Int) : (letR t who).length = t.length := setsL_len ..

theorem stamp_ok {t : List (Int × Int)} {who v : Int} (ht : tableR t = true) (hw : whoB who = true) (h0 : 0 ≤ v) (h1 : v ≤ 2147483647) (hv : ∀ i : Int, 0 ≤ i → i < t.length → (recAt t i).1 < v) :
    (stampR t who v).2 = 0 ∧ (stampR t who v).1.length = t.length ∧ ∀ i : Int, 0 ≤ i → i < t.length → recAt (stampR t who v).1 i = if (recAt t i).2 = who then (v, 0) else recAt t i := by
  have hS : stampR t who v = (setsL t (heldR t who) fun _ => (v, 0), 0) := by
    unfold stampR
    rw [if_pos (by rw [ht, hw]; rfl), if_neg]
    rintro (g | g | g)
    · omega
    · omega
    · obtain ⟨i, hi, he⟩ := List.any_eq_true.1 g
      obtain ⟨a, b, _⟩ := (held_mem ht hw).1 hi
      have := hv i a b
      simp at he; omega
  rw [hS]
  refine ⟨rfl, by simp only [setsL_len], fun i i0 i1 => ?_⟩
  simp only
  rw [recAt_setsL i0 i1]
  have := held_mem (i := i) ht hw
  by_cases e : (recAt t i).2 = who
  · rw [if_pos e, if_pos (this.2 ⟨i0, i1, e⟩)]
  · rw [if_neg e, if_neg (fun g => e (this.1 g).2.2)]
theorem stamp_table {t : List (Int × Int)} {who v : Int} (ht : tableR t = true) (hw : whoB who = true) (h0 : 0 ≤ v) (h1 : v ≤ 2147483647) (hv : ∀ i : Int, 0 ≤ i → i < t.length → (recAt t i).1 < v) :
    tableR (stampR t who v).1 = true ∧ ∀ i : Int, 0 ≤ i → i < t.length → (recAt (stampR t who v).1 i).1 ≤ v := by
  obtain ⟨_, l, q⟩ := stamp_ok ht hw h0 h1 hv
  obtain ⟨a, b, p⟩ := tableR_iff.1 ht
  refine ⟨tableR_iff.2 ⟨by omega, by omega, fun i i0 i1 => ?_⟩, fun i i0 i1 => ?_⟩
  · rw [q i i0 (by omega)]
    have := p i i0 (by omega)
    split
    · simp only; omega
    · exact this
  · rw [q i i0 i1]
    have := hv i i0 i1
    split
    · simp
    · omega

def tab1 (c : Cm) (w : Wl) : List (Int × Int) := (lockR w.tab c.t.who (cellsC c)).1
def heap1 (c : Cm) (w : Wl) : List (Bool × Int) := (heapPut w.heap (lastW c.t.log.1)).1
def tab2 (c : Cm) (w : Wl) : List (Int × Int) := (stampR (tab1 c w) c.t.who (w.clock + 1)).1
def sC (c : Cm) (w : Wl) : Nat → Cm × Wl
  | 0 => (c, w)
  | 1 => ({ c with phase := 1 }, { w with tab := tab1 c w })
  | 2 => ({ c with phase := 2, version := w.clock + 1 }, ⟨w.heap, tab1 c w, w.clock + 1⟩)
  | 3 => ({ c with phase := 3, version := w.clock + 1 }, ⟨w.heap, tab1 c w, w.clock + 1⟩)
  | 4 => ({ c with phase := 4, version := w.clock + 1 }, ⟨heap1 c w, tab1 c w, w.clock + 1⟩)
  | _ => ({ c with phase := 5, version := w.clock + 1 }, ⟨heap1 c w, tab2 c w, w.clock + 1⟩)
def fC (c : Cm) (w : Wl) : Nat → Int
  | 0 => (lockR w.tab c.t.who (cellsC c)).2
  | 1 => if w.clock = 2147483647 then 6 else 0
  | 2 => validR c.t.reads (tab1 c w) c.t.who
  | 3 => (heapPut w.heap (lastW c.t.log.1)).2
  | _ => 0

structure At0 (c : Cm) (w : Wl) : Prop where
  well : CmWell c
  ph : c.phase = 0
  may : mayW w = true

theorem sC_may {c : Cm} {w : Wl} (h : At0 c w) (n : Nat) (hn : n ≤ 5) (hf : 2 ≤ n → w.clock ≠ 2147483647) : mayW (sC c w n).2 = true := by
  obtain ⟨m1, m2, m3, m4, m5⟩ := mayW_iff.1 h.may
  obtain ⟨l1, l2⟩ := lock_table m2 (mayO_cells h.well.log m2) h.well.who
  have ll : (tab1 c w).length = w.tab.length := lockR_len ..
  have hv : ∀ i : Int, 0 ≤ i → i < (tab1 c w).length → (recAt (tab1 c w) i).1 ≤ w.clock := fun i a b => by
    have := m5 i a (by omega)
    have := l2 i a (by omega)
    unfold tab1; omega
  have hh := heapPut_heapR (lastW c.t.log.1) m1
  match n, hn with
  | 0, _ => exact h.may
  | 1, _ => exact mayW_iff.2 ⟨m1, l1, m3, m4, hv⟩
  | 2, _ =>
    have := hf (by omega)
    exact mayW_iff.2 ⟨m1, l1, by simp only [sC]; omega, by simp only [sC]; omega, fun i a b => by have := hv i a b; simp only [sC]; omega⟩
  | 3, _ =>
    have := hf (by omega)
    exact mayW_iff.2 ⟨m1, l1, by simp only [sC]; omega, by simp only [sC]; omega, fun i a b => by have := hv i a b; simp only [sC]; omega⟩
  | 4, _ =>
    have := hf (by omega)
    exact mayW_iff.2 ⟨hh, l1, by simp only [sC]; omega, by simp only [sC]; omega, fun i a b => by have := hv i a b; simp only [sC]; omega⟩
  | 5, _ =>
    have := hf (by omega)
    obtain ⟨p, q⟩ := stamp_table (v := w.clock + 1) l1 h.well.who (by omega) (by omega) (fun i a b => by have := hv i a b; unfold tab1 at this; omega)
    exact mayW_iff.2 ⟨hh, p, by simp only [sC]; omega, by simp only [sC]; omega, fun i a b => by
      have e : (stampR (lockR w.tab c.t.who (cellsC c)).1 c.t.who (w.clock + 1)).1.length = (tab1 c w).length := stampR_len ..
      exact q i a (by show i < (tab1 c w).length; rw [← e]; exact b)⟩

theorem sC_phase {c : Cm} {w : Wl} (h : At0 c w) (n : Nat) (hn : n ≤ 5) : (sC c w n).1.phase = n ∧ (sC c w n).1.t = c.t := by
  match n, hn with
  | 0, _ => exact ⟨h.ph, rfl⟩
  | 1, _ | 2, _ | 3, _ | 4, _ | 5, _ => exact ⟨rfl, rfl⟩

theorem sC_step {c : Cm} {w : Wl} (h : At0 c w) (n : Nat) (hn : n < 5) (hf : 2 ≤ n → w.clock ≠ 2147483647) : mayC (sC c w n).1 (sC c w n).2 = true ∧ stpC (sC c w n).1 (sC c w n).2 = if fC c w n ≠ 0 then goneC (sC c w n).1 (sC c w n).2 (fC c w n) else sC c w (n + 1) := by
  have hm := sC_may h n (by omega) hf
  obtain ⟨hp, ht⟩ := sC_phase h n (by omega)
  refine ⟨by have a : (0 : Int) ≤ (sC c w n).1.phase := by omega
             have b : (sC c w n).1.phase < 5 := by omega
             simp [mayC, hm, a, b], ?_⟩
  match n, hn with
  | 0, _ =>
    have e : (sC c w 0) = (c, w) := rfl
    rw [e, stp_0 h.ph]
    simp only [fC, sC]
    have : c.phase + 1 = 1 := by rw [h.ph]; rfl
    rw [this]; rfl
  | 1, _ =>
    rw [stp_1 hp hm]
    simp only [fC, sC]
    by_cases e : w.clock = 2147483647
    · rw [if_pos e]; simp [e]
    · rw [if_neg e]; simp [e]
  | 2, _ =>
    rw [stp_2 hp]
    rfl
  | 3, _ =>
    rw [stp_3 hp]
    rfl
  | 4, _ =>
    obtain ⟨m1, m2, m3, m4, m5⟩ := mayW_iff.1 hm
    have hc := hf (by omega)
    obtain ⟨p1, p2, p3, p4, p5⟩ := mayW_iff.1 h.may
    obtain ⟨l1, l2⟩ := lock_table p2 (mayO_cells h.well.log p2) h.well.who
    have ll : (tab1 c w).length = w.tab.length := lockR_len ..
    have hst := stamp_ok (t := tab1 c w) (who := c.t.who) (v := w.clock + 1) l1 h.well.who (by omega) (by omega) (fun i a b => by
      have := p5 i a (by omega)
      have := l2 i a (by omega)
      unfold tab1; omega)
    rw [stp_4 hp]
    have e : (stampR (sC c w 4).2.tab (sC c w 4).1.t.who (sC c w 4).1.version).2 = 0 := hst.1
    rw [if_neg (by rw [e]; simp), if_neg (by simp [fC])]
    rfl
end Go.Proofs.YtjhfpabldidlgaaGreat.AM

set_option linter.all false
set_option maxRecDepth 100000
set_option maxHeartbeats 4000000
namespace Go.Proofs.YtjhfpabldidlgaaGreat.AM
open Go Go.RowKit

def itC : Nat → Cm × Wl → Cm × Wl
  | 0, z => z
  | k + 1, z => cmStep (itC k z).1 (itC k z).2
theorem itC_shift : ∀ (k : Nat) (z : Cm × Wl), itC (k + 1) z = itC k (cmStep z.1 z.2)
  | 0, z => rfl
  | k + 1, z => by
    show cmStep (itC (k + 1) z).1 (itC (k + 1) z).2 = cmStep (itC k (cmStep z.1 z.2)).1 (itC k (cmStep z.1 z.2)).2
    rw [itC_shift k z]
theorem cmStep_end {c : Cm} {w : Wl} (h : 5 ≤ c.phase) : mayC c w = false ∧ cmStep c w = (c, w) := by
  have hm : mayC c w = false := by
    have : ¬ c.phase < 5 := by omega
    simp [mayC, this]
  exact ⟨hm, by simp [cmStep, hm]⟩
theorem itC_end {z : Cm × Wl} (h : 5 ≤ z.1.phase) : ∀ k, itC k z = z
  | 0 => rfl
  | k + 1 => by
    show cmStep (itC k z).1 (itC k z).2 = z
    rw [itC_end h k, (cmStep_end h).2]
theorem allN_itC : ∀ (m : Nat) (z : Cm × Wl), (∀ j, j < m → (itC j z).1.phase < 5 → mayC (itC j z).1 (itC j z).2 = true) → 5 ≤ (itC m z).1.phase → allN (m + 1) z.1 z.2 = some (itC m z)
  | 0, z, _, h => by
    have h' : 5 ≤ z.1.phase := h
    rw [allN_succ, if_neg (by omega)]; rfl
  | m + 1, z, hm, h => by
    rw [allN_succ]
    by_cases hp : z.1.phase < 5
    · have h0 : mayC z.1 z.2 = true := hm 0 (by omega) hp
      have e : cmStep z.1 z.2 = stpC z.1 z.2 := by unfold cmStep; rw [if_pos h0]
      rw [if_pos hp, if_pos h0, ← e, itC_shift]
      refine allN_itC m (cmStep z.1 z.2) (fun j hj => ?_) ?_
      · rw [← itC_shift]; exact hm (j + 1) (by omega)
      · rw [← itC_shift]; exact h
    · rw [if_neg hp, itC_end (by omega)]

def gC (c : Cm) (w : Wl) (n : Nat) (e : Int) : Cm × Wl := goneC (sC c w n).1 (sC c w n).2 e
def Reach (c : Cm) (w : Wl) (k : Nat) (z : Cm × Wl) : Prop :=
  (∃ n, n ≤ 5 ∧ z = sC c w n ∧ (∀ i, i < n → fC c w i = 0) ∧ (n = k ∨ n = 5 ∧ 5 ≤ k)) ∨ (∃ n, n ≤ 3 ∧ n < k ∧ z = gC c w n (fC c w n) ∧ fC c w n ≠ 0 ∧ ∀ i, i < n → fC c w i = 0)
theorem clock_ok {c : Cm} {w : Wl} {n : Nat} (h : ∀ i, i < n → fC c w i = 0) : 2 ≤ n → w.clock ≠ 2147483647 := fun hn e => by
  have := h 1 (by omega)
  simp [fC, e] at this
theorem reach {c : Cm} {w : Wl} (h : At0 c w) : ∀ k, Reach c w k (itC k (c, w))
  | 0 => .inl ⟨0, by omega, rfl, fun i hi => by omega, .inl rfl⟩
  | k + 1 => by
    show Reach c w (k + 1) (cmStep (itC k (c, w)).1 (itC k (c, w)).2)
    rcases reach h k with ⟨n, hn, hz, hf, hk⟩ | ⟨n, hn, hk, hz, he, hf⟩
    · rw [hz]
      rcases Nat.lt_or_ge n 5 with g | g
      · obtain ⟨hm, hst⟩ := sC_step h n g (clock_ok hf)
        have e : cmStep (sC c w n).1 (sC c w n).2 = stpC (sC c w n).1 (sC c w n).2 := by unfold cmStep; rw [if_pos hm]
        rw [e, hst]
        by_cases hz : fC c w n = 0
        · rw [if_neg (by simpa using hz)]
          exact .inl ⟨n + 1, by omega, rfl, fun i hi => by
            by_cases e : i = n
            · subst e; exact hz
            · exact hf i (by omega), by omega⟩
        · rw [if_pos hz]
          have : n ≤ 3 := by
            refine Classical.byContradiction fun q => ?_
            have : n = 4 := by omega
            subst this; exact hz rfl
          exact .inr ⟨n, this, by omega, rfl, hz, hf⟩
      · have : n = 5 := by omega
        subst this
        rw [(cmStep_end (by rw [(sC_phase h 5 (by omega)).1]; decide)).2]
        exact .inl ⟨5, by omega, rfl, hf, by omega⟩
    · rw [hz, (cmStep_end (by show (5 : Int) ≤ 6; decide)).2]
      exact .inr ⟨n, hn, by omega, rfl, he, hf⟩
theorem reach_end {c : Cm} {w : Wl} {k : Nat} {z : Cm × Wl} (h : At0 c w) (hk : 5 ≤ k) (hr : Reach c w k z) : 5 ≤ z.1.phase := by
  rcases hr with ⟨n, hn, rfl, hf, g⟩ | ⟨n, hn, g, rfl, he, hf⟩
  · have : n = 5 := by omega
    subst this
    rw [(sC_phase h 5 (by omega)).1]; decide
  · show (5 : Int) ≤ 6; decide
theorem all_eq {c : Cm} {w : Wl} (h : At0 c w) : allC c w = (itC 5 (c, w), 0) := by
  have := allN_itC 5 (c, w) (fun j hj hp => ?_) (reach_end h (by omega) (reach h 5))
  · unfold allC
    rw [this]
  · rcases reach h j with ⟨n, hn, hz, hf, g⟩ | ⟨n, hn, g, hz, he, hf⟩
    · have : n < 5 := by
        refine Classical.byContradiction fun q => ?_
        have : n = 5 := by omega
        subst this
        rw [hz, (sC_phase h 5 (by omega)).1] at hp
        exact absurd hp (by decide)
      rw [hz]
      exact (sC_step h n this (clock_ok hf)).1
    · rw [hz] at hp
      exact absurd (show (6 : Int) < 5 from hp) (by decide)
theorem it6 {c : Cm} {w : Wl} (h : At0 c w) : itC 6 (c, w) = itC 5 (c, w) := by
  show cmStep (itC 5 (c, w)).1 (itC 5 (c, w)).2 = _
  rw [(cmStep_end (reach_end h (by omega) (reach h 5))).2]
theorem all_in {c : Cm} {w : Wl} (h : c.phase = 5) : allC c w = ((c, w), 0) := by
  unfold allC
  rw [allN_succ, if_neg (by omega)]

theorem put_ok {c : Cm} {w : Wl} (h : At0 c w) (hl : ∀ x ∈ c.t.log.1, thereB w.heap x.1 = true) : fC c w 3 = 0 := by
  obtain ⟨m1, _⟩ := mayW_iff.1 h.may
  have hs := last_span h.well.log
  have ha : (lastW c.t.log.1).any (fun w => !spanR w.2) = false := by
    rw [List.any_eq_false]; intro x hx; simp [hs x hx]
  show (heapPut w.heap (lastW c.t.log.1)).2 = 0
  unfold heapPut
  rw [if_pos ⟨m1, ha⟩, if_pos (List.all_eq_true.2 fun x hx => hl x (lastW_mem hx))]
theorem drop_late {c : Cm} {w : Wl} (h : At0 c w) {n : Nat} (hn : 3 ≤ n) (h5 : n < 5) (hf : ∀ i, i < n → fC c w i = 0) (h3 : fC c w 3 = 0) : dropC (sC c w n).1 (sC c w n).2 = sC c w 5 := by
  have hc := clock_ok hf
  have hm := sC_may h n (by omega) hc
  have hp := (sC_phase h n (by omega)).1
  have a4 : stpC (sC c w 4).1 (sC c w 4).2 = sC c w 5 := by
    have := (sC_step h 4 (by omega) (fun _ => hc (by omega))).2
    rw [this, if_neg (by simp [fC])]
  have b4 : mayC (sC c w 4).1 (sC c w 4).2 = true := (sC_step h 4 (by omega) (fun _ => hc (by omega))).1
  have p5 := (sC_phase h 5 (by omega)).1
  have p4 := (sC_phase h 4 (by omega)).1
  unfold dropC
  rw [if_neg (by simp [hm]; omega), if_neg (by omega)]
  have hn' : n = 3 ∨ n = 4 := by omega
  unfold allC
  rcases hn' with rfl | rfl
  · have a3 : stpC (sC c w 3).1 (sC c w 3).2 = sC c w 4 := by
      have := (sC_step h 3 (by omega) hc).2
      rw [this, if_neg (by rw [h3]; simp)]
    have b3 := (sC_step h 3 (by omega) hc).1
    rw [allN_succ, if_pos (by omega), if_pos b3, a3, allN_succ, if_pos (by omega), if_pos b4, a4, allN_succ, if_neg (by omega)]
  · rw [allN_succ, if_pos (by omega), if_pos b4, a4, allN_succ, if_neg (by omega)]
theorem drop_early {c : Cm} {w : Wl} (h : At0 c w) {n : Nat} (h3 : n ≤ 2) (hf : ∀ i, i < n → fC c w i = 0) : dropC (sC c w n).1 (sC c w n).2 = gC c w n 8 := by
  have hm := sC_may h n (by omega) (clock_ok hf)
  have hp := (sC_phase h n (by omega)).1
  unfold dropC
  rw [if_neg (by simp [hm]; omega), if_pos (by omega)]
  rfl
theorem drop_end {c : Cm} {w : Wl} (h : 5 ≤ c.phase) : dropC c w = (c, w) := by
  unfold dropC
  rw [if_pos (by simp [h])]

theorem gone_as {c : Cm} {w : Wl} (h : At0 c w) (hh : heldR w.tab c.t.who = []) {n : Nat} (hn : n ≤ 3) (hf : ∀ i, i < n → fC c w i = 0) (e : Int) : (gC c w n e).2.tab = w.tab ∧ (gC c w n e).2.heap = w.heap ∧ w.clock ≤ (gC c w n e).2.clock ∧ (gC c w n e).2.clock ≤ w.clock + 1 ∧ (gC c w n e).1.version = 0 ∧ (gC c w n e).1.err = e ∧ (gC c w n e).1.phase = 6 := by
  obtain ⟨m1, m2, m3, m4, m5⟩ := mayW_iff.1 h.may
  have hno : ∀ i : Int, 0 ≤ i → i < w.tab.length → (recAt w.tab i).2 ≠ c.t.who := fun i a b g => by
    have := (held_mem (i := i) m2 h.well.who).2 ⟨a, b, g⟩
    rw [hh] at this; simp at this
  have hwb := whoB_0 h.well.who
  have l0 : letR w.tab c.t.who = w.tab := tab_ext (let_len _ _) (fun i a b => by
    rw [let_len] at b
    rw [let_rec m2 h.well.who a b, if_neg (hno i a b)])
  have l1 : 1 ≤ n → letR (tab1 c w) c.t.who = w.tab := fun hn => by
    have hz : (lockR w.tab c.t.who (cellsC c)).2 = 0 := hf 0 (by omega)
    obtain ⟨p, q, r⟩ := lock_rec (mayO_cells h.well.log m2) h.well.who hz
    obtain ⟨t1, _⟩ := lock_table m2 (mayO_cells h.well.log m2) h.well.who
    refine tab_ext (by rw [let_len]; exact p) (fun i a b => ?_)
    rw [let_len] at b
    unfold tab1 at b ⊢
    have b' : i < w.tab.length := by omega
    rw [let_rec t1 h.well.who a b, r i a b']
    by_cases g : i ∈ ofR w.tab (cellsC c)
    · rw [if_pos g, if_pos rfl]
      have := q i g
      have hn2 := hno i a b'
      simp only [badO, Bool.and_eq_false_iff, bne_eq_false_iff_eq] at this
      have h0 : (recAt w.tab i).2 = 0 := by rcases this with x | x; exact x; exact absurd x hn2
      exact Prod.ext rfl h0.symm
    · rw [if_neg g, if_neg (hno i a b')]
  match n, hn with
  | 0, _ => exact ⟨l0, rfl, by simp [gC, goneC, sC], by simp only [gC, goneC, sC]; omega, rfl, rfl, rfl⟩
  | 1, _ => exact ⟨l1 (by omega), rfl, by simp [gC, goneC, sC], by simp only [gC, goneC, sC]; omega, rfl, rfl, rfl⟩
  | 2, _ => exact ⟨l1 (by omega), rfl, by simp [gC, goneC, sC]; omega, by simp [gC, goneC, sC], rfl, rfl, rfl⟩
  | 3, _ => exact ⟨l1 (by omega), rfl, by simp [gC, goneC, sC]; omega, by simp [gC, goneC, sC], rfl, rfl, rfl⟩
end Go.Proofs.YtjhfpabldidlgaaGreat.AM

set_option linter.all false
set_option maxRecDepth 100000
set_option maxHeartbeats 4000000
namespace Go.Proofs.YtjhfpabldidlgaaGreat.AM
open Go Go.RowKit

theorem itC_stuck {z : Cm × Wl} {i : Nat} (h : mayC (itC i z).1 (itC i z).2 = false) : ∀ k, i ≤ k → itC k z = itC i z := by
  intro k hk
  induction k with
  | zero => have : i = 0 := by omega
            subst this; rfl
  | succ k ih =>
    by_cases e : i = k + 1
    · subst e; rfl
    · have := ih (by omega)
      show cmStep (itC k z).1 (itC k z).2 = _
      rw [this]
      simp [cmStep, h]

theorem itC_keeps (z : Cm × Wl) : ∀ k, (itC k z).1.t = z.1.t ∧ (itC k z).2.heap.length = z.2.heap.length ∧ (itC k z).2.tab.length = z.2.tab.length
  | 0 => ⟨rfl, rfl, rfl⟩
  | k + 1 => by
    obtain ⟨a, b, d⟩ := itC_keeps z k
    obtain ⟨p, q, r⟩ := cmStep_keeps (c := (itC k z).1) (w := (itC k z).2)
    exact ⟨p.trans a, q.trans b, r.trans d⟩
structure OutP (w : Wl) (z : Cm × Wl) : Prop where
  out : z.1.phase = 6 → z.2.tab = w.tab ∧ z.2.heap = w.heap ∧ w.clock ≤ z.2.clock ∧ z.2.clock ≤ w.clock + 1 ∧ z.1.version = 0 ∧ z.1.err ≠ 0
  may : z.1.phase ≠ 6 → mayW z.2 = true
def lateP (z : Cm × Wl) : Prop := z.1.phase = 3 ∨ z.1.phase = 4 ∨ z.1.phase = 5

structure BegOk (c0 : Cm) (w : Wl) : Prop where
  well : CmWell c0
  ph : c0.phase = 0 ∨ c0.phase = 5
  may : mayW w = true
  live : ∀ x ∈ c0.t.log.1, thereB w.heap x.1 = true
theorem BegOk.at0 {c0 : Cm} {w : Wl} (h : BegOk c0 w) (h0 : c0.phase = 0) : At0 c0 w := ⟨h.well, h0, h.may⟩
theorem begOk {c : List St} {who snap : Int} {w : Wl} {t : Ty} (h : TryOk c who snap w t) (hd : t.kind = 1) (hm : mayW w = true) : BegOk (begC t) w := by
  obtain ⟨a, b, p, q⟩ := begC_well h hd
  exact ⟨a, by omega, hm, by rw [b]; exact h.ok.live⟩

theorem out_ok {c0 : Cm} {w : Wl} (h : BegOk c0 w) (hh : heldR w.tab c0.t.who = []) (k : Nat) :
    OutP w (itC k (c0, w)) ∧ OutP w (dropC (itC k (c0, w)).1 (itC k (c0, w)).2) ∧ ((dropC (itC k (c0, w)).1 (itC k (c0, w)).2).1.phase = 5 ↔ lateP (itC k (c0, w))) := by
  rcases h.ph with h0 | h5
  case inr =>
    rw [itC_end (z := (c0, w)) (show 5 ≤ c0.phase by omega), drop_end (c := c0) (w := w) (by omega)]
    have hp : OutP w (c0, w) := ⟨fun g => by simp only at g; omega, fun _ => h.may⟩
    exact ⟨hp, hp, by simp [lateP, h5]⟩
  have ha := h.at0 h0
  have gone : ∀ {n : Nat} {e : Int}, n ≤ 3 → (∀ i, i < n → fC c0 w i = 0) → e ≠ 0 → OutP w (gC c0 w n e) := fun hn hf he => by
    obtain ⟨g1, g2, g3, g4, g5, g6, g7⟩ := gone_as ha hh hn hf _
    exact ⟨fun _ => ⟨g1, g2, g3, g4, g5, by rw [g6]; exact he⟩, fun q => absurd g7 q⟩
  have ok : ∀ {n : Nat}, n ≤ 5 → (∀ i, i < n → fC c0 w i = 0) → OutP w (sC c0 w n) := fun hn hf => by
    have hp := (sC_phase ha _ hn).1
    exact ⟨fun q => by omega, fun _ => sC_may ha _ hn (clock_ok hf)⟩
  rcases reach ha k with ⟨n, hn, hz, hf, hk⟩ | ⟨n, hn, hk, hz, he, hf⟩
  · rw [hz]
    have hp := (sC_phase ha n hn).1
    refine ⟨ok hn hf, ?_⟩
    by_cases n3 : n ≤ 2
    · rw [drop_early ha n3 hf]
      refine ⟨gone (by omega) hf (by decide), ?_⟩
      have : (gC c0 w n 8).1.phase = 6 := rfl
      unfold lateP
      omega
    · by_cases n5 : n < 5
      · have f3 := put_ok ha h.live
        rw [drop_late ha (by omega) n5 hf f3]
        have hf5 : ∀ i, i < 5 → fC c0 w i = 0 := fun i hi => by
          by_cases g : i < n
          · exact hf i g
          · by_cases e : i = 3
            · subst e; exact f3
            · have : i = 4 := by omega
              subst this; rfl
        refine ⟨ok (by omega) hf5, ?_⟩
        have := (sC_phase ha 5 (by omega)).1
        unfold lateP
        omega
      · rw [drop_end (c := (sC c0 w n).1) (by omega)]
        refine ⟨ok hn hf, ?_⟩
        show (sC c0 w n).1.phase = 5 ↔ lateP (sC c0 w n)
        unfold lateP
        omega
  · rw [hz]
    have hp : (gC c0 w n (fC c0 w n)).1.phase = 6 := rfl
    rw [drop_end (c := (gC c0 w n (fC c0 w n)).1) (by omega)]
    refine ⟨gone hn hf he, gone hn hf he, ?_⟩
    unfold lateP
    simp only
    omega

theorem all_it {c0 : Cm} {w : Wl} (h : BegOk c0 w) : allC c0 w = (itC 6 (c0, w), 0) := by
  rcases h.ph with h0 | h5
  · rw [all_eq (h.at0 h0), it6 (h.at0 h0)]
  · rw [all_in h5, itC_end (z := (c0, w)) (show 5 ≤ c0.phase by omega)]

theorem held_eq {t t' : List (Int × Int)} {o : Int} (h1 : tableR t = true) (h2 : tableR t' = true) (hl : t'.length = t.length) (h : whoB o = true → ∀ i : Int, 0 ≤ i → i < t.length → ((recAt t' i).2 = o ↔ (recAt t i).2 = o)) : heldR t' o = heldR t o := by
  unfold heldR
  rw [h1, h2, hl]
  by_cases hw : whoB o = true
  · rw [hw]
    simp only [Bool.and_self, if_true]
    unfold heldN
    congr 1
    refine List.filter_congr (fun k hk => ?_)
    have := h hw k (by omega) (by have := List.mem_range.1 hk; omega)
    rw [Bool.eq_iff_iff]
    simpa using this
  · simp [hw]
theorem others {c0 : Cm} {w : Wl} (h : BegOk c0 w) {o : Int} (ho : o ≠ c0.t.who) (k : Nat) : heldR (itC k (c0, w)).2.tab o = heldR w.tab o := by
  rcases h.ph with h0 | h5
  case inr => rw [itC_end (z := (c0, w)) (show 5 ≤ c0.phase by omega)]
  have ha := h.at0 h0
  obtain ⟨m1, m2, m3, m4, m5⟩ := mayW_iff.1 h.may
  have hmo := mayO_cells h.well.log m2
  obtain ⟨l1, l2⟩ := lock_table m2 hmo h.well.who
  have ll : (tab1 c0 w).length = w.tab.length := lockR_len ..
  have hwb := whoB_0 h.well.who
  have t1 : tableR (tab1 c0 w) = true := l1
  have own : ∀ i : Int, 0 ≤ i → i < w.tab.length → whoB o = true → ((recAt (tab1 c0 w) i).2 = o ↔ (recAt w.tab i).2 = o) := fun i a b hob => by
    have hob' := whoB_0 hob
    by_cases hz : (lockR w.tab c0.t.who (cellsC c0)).2 = 0
    · obtain ⟨p, q, r⟩ := lock_rec hmo h.well.who hz
      unfold tab1
      rw [r i a b]
      split
      · rename_i g
        have := q i g
        simp only [badO, Bool.and_eq_false_iff, bne_eq_false_iff_eq] at this
        simp only
        constructor
        · intro e; exact absurd e.symm ho
        · intro e; rcases this with x | x
          · omega
          · exact absurd (e.symm.trans x) ho
      · exact Iff.rfl
    · unfold tab1
      rw [lockR_err hz]
  have e1 : heldR (tab1 c0 w) o = heldR w.tab o := held_eq m2 t1 ll (fun hob i a b => own i a b hob)
  have let_own : ∀ {t : List (Int × Int)}, tableR t = true → heldR (letR t c0.t.who) o = heldR t o := fun {t} ht => by
    have tl : tableR (letR t c0.t.who) = true := by
      obtain ⟨p, q, r⟩ := tableR_iff.1 ht
      refine tableR_iff.2 ⟨by rw [let_len]; exact p, by rw [let_len]; exact q, fun i a b => ?_⟩
      rw [let_len] at b
      rw [let_rec ht h.well.who a b]
      have := r i a b
      split
      · simp only; omega
      · exact this
    refine held_eq ht tl (let_len _ _) (fun hob i a b => ?_)
    have hob' := whoB_0 hob
    rw [let_rec ht h.well.who a b]
    split
    · rename_i g
      simp only
      constructor
      · intro e; omega
      · intro e; exact absurd (e.symm.trans g) ho
    · exact Iff.rfl
  have st : ∀ n, n ≤ 5 → (∀ i, i < n → fC c0 w i = 0) → heldR (sC c0 w n).2.tab o = heldR w.tab o := fun n hn hf => by
    match n, hn with
    | 0, _ => rfl
    | 1, _ | 2, _ | 3, _ | 4, _ => exact e1
    | 5, _ =>
      have hc := clock_ok hf (by omega)
      have hv : ∀ i : Int, 0 ≤ i → i < (tab1 c0 w).length → (recAt (tab1 c0 w) i).1 < w.clock + 1 := fun i a b => by
        have := m5 i a (by omega)
        have := l2 i a (by omega)
        unfold tab1; omega
      obtain ⟨p, q, r⟩ := stamp_ok t1 h.well.who (v := w.clock + 1) (by omega) (by omega) hv
      obtain ⟨p2, _⟩ := stamp_table t1 h.well.who (v := w.clock + 1) (by omega) (by omega) hv
      rw [← e1]
      refine held_eq t1 p2 q (fun hob i a b => ?_)
      have hob' := whoB_0 hob
      show (recAt (stampR (tab1 c0 w) c0.t.who (w.clock + 1)).1 i).2 = o ↔ _
      rw [r i a b]
      split
      · rename_i g
        simp only
        constructor
        · intro e; omega
        · intro e; exact absurd (e.symm.trans g) ho
      · exact Iff.rfl
  rcases reach ha k with ⟨n, hn, hz, hf, hk⟩ | ⟨n, hn, hk, hz, he, hf⟩
  · rw [hz]; exact st n hn hf
  · rw [hz]
    have e : (gC c0 w n (fC c0 w n)).2.tab = letR (sC c0 w n).2.tab c0.t.who := by
      show letR (sC c0 w n).2.tab (sC c0 w n).1.t.who = _
      rw [(sC_phase ha n (by omega)).2]
    have ht := (mayW_iff.1 (sC_may ha n (by omega) (clock_ok hf))).2.1
    rw [e, let_own ht]
    exact st n (by omega) hf

theorem steps_in {c0 : Cm} {w : Wl} (h : BegOk c0 w) {k : Nat} (hk : ∀ i, i < k → mayC (itC i (c0, w)).1 (itC i (c0, w)).2 = true) : k ≤ 5 ∧ ((itC k (c0, w)).1.phase = 5 → c0.t.log.1 ≠ [] → c0.phase = 0 → k = 5) := by
  rcases h.ph with h0 | h5
  case inr =>
    have : k = 0 := by
      refine Classical.byContradiction fun g => ?_
      have := hk 0 (by omega)
      rw [(cmStep_end (show 5 ≤ (itC 0 (c0, w)).1.phase by show 5 ≤ c0.phase; omega)).1] at this
      cases this
    subst this
    exact ⟨by omega, fun _ _ g => by omega⟩
  have ha := h.at0 h0
  have k5 : k ≤ 5 := by
    refine Classical.byContradiction fun g => ?_
    have := hk 5 (by omega)
    rw [(cmStep_end (reach_end ha (by omega) (reach ha 5))).1] at this
    cases this
  refine ⟨k5, fun hp _ _ => ?_⟩
  rcases reach ha k with ⟨n, hn, hz, hf, hkn⟩ | ⟨n, hn, hkn, hz, he, hf⟩
  · rw [hz, (sC_phase ha n hn).1] at hp; omega
  · rw [hz] at hp
    have : (6 : Int) = 5 := hp
    omega
end Go.Proofs.YtjhfpabldidlgaaGreat.AM

set_option linter.all false
set_option maxRecDepth 100000
set_option maxHeartbeats 8000000
namespace Go.Proofs.YtjhfpabldidlgaaGreat.AM
open Go Go.RowKit

theorem wrap8 (i : Nat) (h : i < 6) : IntKind.u8.wrap ((i : Int) + 1) = ((i + 1 : Nat) : Int) := by
  match i, h with
  | 0, _ | 1, _ | 2, _ | 3, _ | 4, _ | 5, _ => decide
  | i + 6, h => omega

theorem c_CommitOut (c : List St) (who snap : Int) (w : Wl) (n : Int) (drop : Bool) (hcl : c.length ≤ 9223372036854775807) (hn0 : 0 ≤ n) :
    CSpec Tryz.prog 7 [.vec (c.map dS), .int .i64 who, .int .i64 snap, dWl w, .int .u8 n, .bool drop] (.bool true) := by
  have hsw := c_law12_small w
  have hcr := c_commit_Right w
  have hhd := c_Held w.tab who
  refine CSpec.of_awp envOf_ok hmix Tryz.func7 rfl (fun args w => Tryz.call7 args w) (by simp [Tryz.f7]) ?_
  simp only [Tryz.f7]
  simp (maxSteps := 2000000) -implicitDefEqProofs only [zz, zE, evop, ev, tget, V.isUndef, initT, V.cells, ↓reduceIte, reduceCtorEq, Nat.reduceEqDiff, Nat.reduceAdd]
  unfold dWl
  unfold dWl at hsw hcr
  simp (maxSteps := 2000000) -implicitDefEqProofs only [zz, evop, ev, ofVal, tget, tput, ok, V.isUndef, Ch.on, calleeOf, withArgs, hput, ↓reduceIte, reduceCtorEq, Nat.reduceLT]
  refine acall_flat' (c_law08_Small c hcl) rfl ?_
  try simp (maxSteps := 2000000) -implicitDefEqProofs only [zz, zE, evop, ev, ofVal, tget, tput, ok, V.isUndef, intBin, guardOf, Ch.on, calleeOf, withArgs, told, hget, ↓reduceIte, Nat.reduceLT, Nat.reduceEqDiff, Nat.reduceAdd, Nat.reduceLeDiff, nilTest]
  by_cases hs : smallC c < 0
  · simp (maxSteps := 2000000) -implicitDefEqProofs only [zz, ↓reduceIte, hs]
    refine acall_flat' (c_awake12) rfl ?_
    try simp (maxSteps := 2000000) -implicitDefEqProofs only [zz, evop, ev, tget, tput, ok, V.isUndef, Ch.on, xport, resOf, resV, resVs, ↓reduceIte, Nat.reduceLT]
  simp (maxSteps := 2000000) -implicitDefEqProofs only [zz, ↓reduceIte, hs]
  refine acall_flat' (hsw) rfl ?_
  try simp (maxSteps := 2000000) -implicitDefEqProofs only [zz, zE, evop, ev, ofVal, tget, tput, ok, V.isUndef, guardOf, Ch.on, calleeOf, withArgs, told, hget, ↓reduceIte, Nat.reduceLT, Nat.reduceEqDiff, Nat.reduceAdd, Nat.reduceLeDiff]
  cases hw : smallW w with
  | false =>
    simp (maxSteps := 2000000) -implicitDefEqProofs only [zz, ↓reduceIte]
    refine acall_flat' (c_awake12) rfl ?_
    try simp (maxSteps := 2000000) -implicitDefEqProofs only [zz, evop, ev, tget, tput, ok, V.isUndef, Ch.on, xport, resOf, resV, resVs, ↓reduceIte, Nat.reduceLT]
  | true =>
  simp (maxSteps := 2000000) -implicitDefEqProofs only [zz, ↓reduceIte]
  refine acall_flat' (hcr) rfl ?_
  try simp (maxSteps := 2000000) -implicitDefEqProofs only [zz, zE, evop, ev, ofVal, tget, tput, ok, V.isUndef, guardOf, Ch.on, calleeOf, withArgs, told, hget, structAt, Blk.width, ↓reduceIte, reduceCtorEq, Nat.reduceLT, Nat.reduceEqDiff, Nat.reduceAdd]
  cases hm : mayW w with
  | false =>
    simp (maxSteps := 2000000) -implicitDefEqProofs only [zz, ↓reduceIte]
    refine acall_flat' (c_awake12) rfl ?_
    try simp (maxSteps := 2000000) -implicitDefEqProofs only [zz, evop, ev, tget, tput, ok, V.isUndef, Ch.on, xport, resOf, resV, resVs, ↓reduceIte, Nat.reduceLT]
  | true =>
  simp (maxSteps := 2000000) -implicitDefEqProofs only [zz, ↓reduceIte]
  first | refine acall_flat' (hhd) rfl ?_ | refine dcall_flat' (hhd) rfl ?_ | refine acall_ice' (hhd) ?_ | refine dcall_still' (hhd) rfl ?_
  try simp (maxSteps := 2000000) -implicitDefEqProofs only [zz, zE, evop, ev, ofVal, tget, tput, ok, V.isUndef, intBin, guardOf, Ch.on, calleeOf, withArgs, told, tids, tidss, hget, freeze, sliceOf, lenOf, ↓reduceIte, reduceCtorEq, Nat.reduceLT, Nat.reduceEqDiff, Nat.reduceAdd, Nat.reduceLeDiff, nilTest]
  by_cases hh0 : heldR w.tab who = []
  case neg =>
    have hh : ((heldR w.tab who).length : Int) > 0 := by have := List.length_pos_iff.2 hh0; omega
    simp (maxSteps := 2000000) -implicitDefEqProofs only [zz, ↓reduceIte, hh]
    refine acall_flat' (c_awake12) rfl ?_
    try simp (maxSteps := 2000000) -implicitDefEqProofs only [zz, evop, ev, tget, tput, ok, V.isUndef, Ch.on, xport, resOf, resV, resVs, ↓reduceIte, Nat.reduceLT]
  have hh : ¬ ((heldR w.tab who).length : Int) > 0 := by rw [hh0]; decide
  obtain ⟨s1, s2⟩ := smallC_0 hs
  obtain ⟨s3, s4⟩ := smallW_t hw
  have htl : ∀ s ∈ c, s.t.length ≤ 1000000 := fun s h => by have := s2 s h; omega
  have ht := c_tried c who snap w (by omega) htl (by omega)
  have hb := c_commit_Begin (tryT c who snap w).1
  have good : (tryT c who snap w).2 = true → doneB (tryT c who snap w).1 = true → BegOk (begC (tryT c who snap w).1) w ∧ (begC (tryT c who snap w).1).t.who = who := fun a b => by
    have h1 := tryT_ok a
    have b' : (tryT c who snap w).1.kind = 1 := by simpa [doneB] using b
    exact ⟨begOk h1 b' hm, by rw [(begC_well h1 b').2.1]; exact h1.ok.who⟩
  generalize (tryT c who snap w).2 = b1 at ht good
  generalize hD : doneB (tryT c who snap w).1 = b2 at hb good
  generalize begC (tryT c who snap w).1 = c0 at hb good
  generalize (tryT c who snap w).1 = t at ht hb
  clear hD
  unfold dT tyC at ht hb
  unfold dCm cmC at hb
  unfold dWl at ht
  have e00 : ((0 : Int) != 0) = false := rfl
  have e10 : ((1 : Int) != 0) = true := rfl
  simp (maxSteps := 2000000) -implicitDefEqProofs only [zz, ↓reduceIte, hh]
  refine acall_ice' (ht) ?_
  try simp (maxSteps := 2000000) -implicitDefEqProofs only [zz, zE, evop, ev, tget, tput, ok, V.isUndef, Ch.on, calleeOf, withArgs, tids, tidss, hget, hput, freeze, V.cells, V.one, splice, ↓reduceIte, Nat.reduceLT, Nat.reduceEqDiff, Nat.reduceAdd, Nat.reduceLeDiff]
  refine acall_ice' (hb) ?_
  try simp (maxSteps := 2000000) -implicitDefEqProofs only [zz, zE, evop, ev, ofVal, tget, tput, ok, V.isUndef, intBin, guardOf, Ch.on, calleeOf, withArgs, told, tids, tidss, hget, hput, freeze, V.cells, V.one, splice, ↓reduceIte, reduceCtorEq, Nat.reduceLT, Nat.reduceEqDiff, Nat.reduceAdd, Nat.reduceLeDiff, nilTest]
  cases b1 with
  | false =>
    simp (maxSteps := 2000000) -implicitDefEqProofs only [zz, ↓reduceIte]
    refine acall_flat' (c_awake12) rfl ?_
    try simp (maxSteps := 2000000) -implicitDefEqProofs only [zz, evop, ev, tget, tput, ok, V.isUndef, Ch.on, xport, resOf, resV, resVs, ↓reduceIte, Nat.reduceLT]
  | true =>
  cases b2 with
  | false =>
    simp (maxSteps := 2000000) -implicitDefEqProofs only [zz, ↓reduceIte, e10]
    refine acall_flat' (c_awake12) rfl ?_
    try simp (maxSteps := 2000000) -implicitDefEqProofs only [zz, evop, ev, tget, tput, ok, V.isUndef, Ch.on, xport, resOf, resV, resVs, ↓reduceIte, Nat.reduceLT]
  | true =>
  obtain ⟨g1, g2⟩ := good rfl rfl
  have hall := fun k => out_ok g1 (by rw [g2]; exact hh0) k
  obtain ⟨kk, hkk, hk6⟩ : ∃ kk : Nat, n.tmod 6 = kk ∧ kk < 6 := ⟨(n.tmod 6).toNat, by have := Int.tmod_nonneg 6 hn0; omega, by have := Int.tmod_lt_of_pos n (show (0 : Int) < 6 by decide); have := Int.tmod_nonneg 6 hn0; omega⟩
  have hsame := c_r02_Same w.heap w.heap (by omega) (by omega)
  have hsame3 := c_r03_Same w.tab w.tab (by omega) (by omega)
  rw [decide_eq_true rfl] at hsame hsame3
  simp (maxSteps := 2000000) -implicitDefEqProofs only [zz, ↓reduceIte, hkk]
  refine ⟨by decide, ?_⟩
  refine wloop_ind (σ := Nat) (fun i => 6 - i) (fun i => [(67, .d (.int .u8 i)), (66, .d (.int .u8 kk)), (5, .d (.bool drop)), (9, .ptr 0 0 0), (15, .ptr 2 0 0), (17, .ptr 3 0 0)]) (fun i => [bW w, bT t, bC (itC i (c0, w)).1, bW (itC i (c0, w)).2]) (fun i => i ≤ kk) 0 (Nat.zero_le _) ?_ ?_
  · exact Weak.trims 4 rfl (by simp [tget, V.lower]) (by simp [bT, bC, bW, itC, Blk.lower, lowerL, V.lower])
  intro i hi
  have hw8 := wrap8 i (by omega)
  rcases Nat.lt_or_ge i kk with hlt | hge
  case inr =>
    obtain rfl : i = kk := by omega
    have h' : ¬ ((i : Int) < (i : Int)) := by omega
    obtain ⟨hA, hB, hC⟩ := hall i
    obtain ⟨k1, k2, k3⟩ := itC_keeps (c0, w) i
    have hzo : CmOk (itC i (c0, w)).1 := ⟨by rw [k1]; exact g1.well.log, by rw [k1]; exact g1.well.reads⟩
    generalize itC i (c0, w) = z at hA hB hC k1 k2 k3 hzo ⊢
    have hwc : IntKind.i64.wrap (w.clock + 1) = w.clock + 1 := by
      have := (mayW_iff.1 hm).2.2
      rw [wrap_in (by omega)]
    cases drop with
    | false =>
      have hph : z.1.phase = 3 ∨ z.1.phase = 4 ∨ z.1.phase = 5 ∨ (z.1.phase ≠ 3 ∧ z.1.phase ≠ 4 ∧ z.1.phase ≠ 5) := by omega
      rcases hph with h | h | h | ⟨h3, h4, h5⟩
      · have f0 : (z.1.phase == 3) = true := by simp; omega
        have f9 : (z.1.phase != 6) = true := by simp; omega
        have hmy := c_commit_Right z.2
        rw [hA.may (by omega)] at hmy
        unfold dWl at hmy
        simp (maxSteps := 2000000) -implicitDefEqProofs only [zz, zE, evop, ev, ofVal, tget, tput, ok, V.isUndef, intBin, guardOf, Ch.on, calleeOf, withArgs, told, hget, structAt, Blk.width, ↓reduceIte, reduceCtorEq, Nat.reduceLT, Nat.reduceEqDiff, Nat.reduceAdd, Nat.reduceLeDiff, nilTest, h', bC, bW, f0, f9]
        first | refine acall_flat' (hmy) rfl ?_ | refine dcall_flat' (hmy) rfl ?_ | refine acall_ice' (hmy) ?_ | refine dcall_still' (hmy) rfl ?_
        try simp (maxSteps := 2000000) -implicitDefEqProofs only [zz, evop, ev, tget, tput, ok, V.isUndef, guardOf, Ch.on, calleeOf, withArgs, ↓reduceIte, Nat.reduceLT]
        refine acall_flat' (c_awake12) rfl ?_
        try simp (maxSteps := 2000000) -implicitDefEqProofs only [zz, evop, ev, tget, tput, ok, V.isUndef, Ch.on, xport, resOf, resV, resVs, ↓reduceIte, Nat.reduceLT, Nat.reduceEqDiff]
      · have f0 : (z.1.phase == 3) = false := by simp; omega
        have f1 : (z.1.phase == 4) = true := by simp; omega
        have f9 : (z.1.phase != 6) = true := by simp; omega
        have hmy := c_commit_Right z.2
        rw [hA.may (by omega)] at hmy
        unfold dWl at hmy
        simp (maxSteps := 2000000) -implicitDefEqProofs only [zz, zE, evop, ev, ofVal, tget, tput, ok, V.isUndef, intBin, guardOf, Ch.on, calleeOf, withArgs, told, hget, structAt, Blk.width, ↓reduceIte, reduceCtorEq, Nat.reduceLT, Nat.reduceEqDiff, Nat.reduceAdd, Nat.reduceLeDiff, nilTest, h', bC, bW, f0, f1, f9]
        first | refine acall_flat' (hmy) rfl ?_ | refine dcall_flat' (hmy) rfl ?_ | refine acall_ice' (hmy) ?_ | refine dcall_still' (hmy) rfl ?_
        try simp (maxSteps := 2000000) -implicitDefEqProofs only [zz, evop, ev, tget, tput, ok, V.isUndef, guardOf, Ch.on, calleeOf, withArgs, ↓reduceIte, Nat.reduceLT]
        refine acall_flat' (c_awake12) rfl ?_
        try simp (maxSteps := 2000000) -implicitDefEqProofs only [zz, evop, ev, tget, tput, ok, V.isUndef, Ch.on, xport, resOf, resV, resVs, ↓reduceIte, Nat.reduceLT, Nat.reduceEqDiff]
      · have f0 : (z.1.phase == 3) = false := by simp; omega
        have f1 : (z.1.phase == 4) = false := by simp; omega
        have f2 : (z.1.phase == 5) = true := by simp; omega
        have f9 : (z.1.phase != 6) = true := by simp; omega
        have hmy := c_commit_Right z.2
        rw [hA.may (by omega)] at hmy
        unfold dWl at hmy
        simp (maxSteps := 2000000) -implicitDefEqProofs only [zz, zE, evop, ev, ofVal, tget, tput, ok, V.isUndef, intBin, guardOf, Ch.on, calleeOf, withArgs, told, hget, structAt, Blk.width, ↓reduceIte, reduceCtorEq, Nat.reduceLT, Nat.reduceEqDiff, Nat.reduceAdd, Nat.reduceLeDiff, nilTest, h', bC, bW, f0, f1, f2, f9]
        first | refine acall_flat' (hmy) rfl ?_ | refine dcall_flat' (hmy) rfl ?_ | refine acall_ice' (hmy) ?_ | refine dcall_still' (hmy) rfl ?_
        try simp (maxSteps := 2000000) -implicitDefEqProofs only [zz, evop, ev, tget, tput, ok, V.isUndef, guardOf, Ch.on, calleeOf, withArgs, ↓reduceIte, Nat.reduceLT]
        refine acall_flat' (c_awake12) rfl ?_
        try simp (maxSteps := 2000000) -implicitDefEqProofs only [zz, evop, ev, tget, tput, ok, V.isUndef, Ch.on, xport, resOf, resV, resVs, ↓reduceIte, Nat.reduceLT, Nat.reduceEqDiff]
      · have f0 : (z.1.phase == 3) = false := by simp; omega
        have f1 : (z.1.phase == 4) = false := by simp; omega
        have f2 : (z.1.phase == 5) = false := by simp; omega
        by_cases h6 : z.1.phase = 6
        · have f9 : (z.1.phase != 6) = false := by simp; omega
          obtain ⟨o1, o2, o3, o4, o5, o6⟩ := hA.out h6
          have hs2 := c_r02_Same z.2.heap w.heap (by rw [o2]; omega) (by omega)
          have hs3 := c_r03_Same z.2.tab w.tab (by rw [o1]; omega) (by omega)
          rw [decide_eq_true o2] at hs2
          rw [decide_eq_true o1] at hs3
          have q1 : ((z.2.tab.length : Int) != (w.tab.length : Int)) = false := by rw [o1]; simp
          have q2 : ¬ (z.2.clock < w.clock) := by omega
          have q3 : ¬ (z.2.clock > w.clock + 1) := by omega
          have q4 : (z.1.version == 0) = true := by simpa using o5
          have q5 : (z.1.err != 0) = true := by simpa using o6
          simp (maxSteps := 2000000) -implicitDefEqProofs only [zz, zE, evop, ev, ofVal, tget, tput, ok, V.isUndef, intBin, guardOf, Ch.on, calleeOf, withArgs, told, hget, structAt, sliceOf, Blk.width, lenOf, ↓reduceIte, reduceCtorEq, Nat.reduceLT, Nat.reduceEqDiff, Nat.reduceAdd, nilTest, h', bC, bW, f0, f1, f2, f9, q1]
          first | refine acall_flat' (hs2) rfl ?_ | refine dcall_flat' (hs2) rfl ?_ | refine acall_ice' (hs2) ?_ | refine dcall_still' (hs2) rfl ?_
          try simp (maxSteps := 2000000) -implicitDefEqProofs only [zz, zE, evop, ev, ofVal, tget, tput, ok, V.isUndef, intBin, guardOf, Ch.on, calleeOf, withArgs, told, xport, hget, structAt, Blk.width, resOf, resV, resVs, ↓reduceIte, reduceCtorEq, Nat.reduceLT, Nat.reduceEqDiff, Nat.reduceAdd, nilTest]
          simp (maxSteps := 2000000) -implicitDefEqProofs only [zz, ↓reduceIte, q2, hwc, q3]
          first | refine acall_flat' (hs3) rfl ?_ | refine dcall_flat' (hs3) rfl ?_ | refine acall_ice' (hs3) ?_ | refine dcall_still' (hs3) rfl ?_
          try simp (maxSteps := 2000000) -implicitDefEqProofs only [zz, zE, evop, ev, ofVal, tget, tput, ok, V.isUndef, intBin, guardOf, Ch.on, calleeOf, withArgs, xport, hget, structAt, Blk.width, resOf, resV, resVs, ↓reduceIte, reduceCtorEq, Nat.reduceLT, Nat.reduceEqDiff, Nat.reduceAdd, nilTest]
          simp (maxSteps := 2000000) -implicitDefEqProofs only [↓reduceIte, q4, q5]
          refine acall_flat' (c_awake12) rfl ?_
          try simp (maxSteps := 2000000) -implicitDefEqProofs only [zz, evop, ev, tget, tput, ok, V.isUndef, Ch.on, xport, resOf, resV, resVs, ↓reduceIte, Nat.reduceLT, Nat.reduceEqDiff]
        · have f9 : (z.1.phase != 6) = true := by simp; omega
          have hmy := c_commit_Right z.2
          rw [hA.may h6] at hmy
          unfold dWl at hmy
          simp (maxSteps := 2000000) -implicitDefEqProofs only [zz, zE, evop, ev, ofVal, tget, tput, ok, V.isUndef, intBin, guardOf, Ch.on, calleeOf, withArgs, told, hget, structAt, Blk.width, ↓reduceIte, reduceCtorEq, Nat.reduceLT, Nat.reduceEqDiff, Nat.reduceAdd, Nat.reduceLeDiff, nilTest, h', bC, bW, f0, f1, f2, f9]
          first | refine acall_flat' (hmy) rfl ?_ | refine dcall_flat' (hmy) rfl ?_ | refine acall_ice' (hmy) ?_ | refine dcall_still' (hmy) rfl ?_
          try simp (maxSteps := 2000000) -implicitDefEqProofs only [zz, evop, ev, tget, tput, ok, V.isUndef, guardOf, Ch.on, calleeOf, withArgs, ↓reduceIte, Nat.reduceLT]
          refine acall_flat' (c_awake12) rfl ?_
          try simp (maxSteps := 2000000) -implicitDefEqProofs only [zz, evop, ev, tget, tput, ok, V.isUndef, Ch.on, xport, resOf, resV, resVs, ↓reduceIte, Nat.reduceLT, Nat.reduceEqDiff]
    | true =>
      have hd := c_commit_Drop z.1 z.2 hzo
      generalize dropC z.1 z.2 = y at hd hB hC
      unfold dCm cmC dWl at hd
      have hph : z.1.phase = 3 ∨ z.1.phase = 4 ∨ z.1.phase = 5 ∨ (z.1.phase ≠ 3 ∧ z.1.phase ≠ 4 ∧ z.1.phase ≠ 5) := by omega
      rcases hph with h | h | h | ⟨h3, h4, h5⟩
      · have f0 : (z.1.phase == 3) = true := by simp; omega
        simp (maxSteps := 2000000) -implicitDefEqProofs only [zz, zE, evop, ev, ofVal, tget, tput, ok, V.isUndef, intBin, guardOf, Ch.on, calleeOf, withArgs, told, hget, structAt, Blk.width, ↓reduceIte, reduceCtorEq, Nat.reduceLT, Nat.reduceEqDiff, Nat.reduceAdd, Nat.reduceLeDiff, nilTest, h', bC, bW, f0]
        first | refine acall_flat' (hd) rfl ?_ | refine dcall_flat' (hd) rfl ?_ | refine acall_ice' (hd) ?_ | refine dcall_still' (hd) rfl ?_
        try simp (maxSteps := 2000000) -implicitDefEqProofs only [zz, zE, evop, ev, ofVal, tget, tput, ok, V.isUndef, intBin, guardOf, Ch.on, calleeOf, withArgs, told, xport, tids, tidss, hget, hput, freeze, V.cells, V.one, structAt, sliceOf, Blk.width, lenOf, splice, resOf, resV, resVs, ↓reduceIte, reduceCtorEq, Nat.reduceLT, Nat.reduceEqDiff, Nat.reduceAdd, Nat.reduceLeDiff, nilTest]
        have y5 : y.1.phase = 5 := hC.2 (by unfold lateP; omega)
        have f7 : (y.1.phase == 5) = true := by simp; omega
        have f9 : (y.1.phase != 6) = true := by simp; omega
        have f8 : (true != true) = false := rfl
        have hmy := c_commit_Right y.2
        rw [hB.may (by omega)] at hmy
        unfold dWl at hmy
        simp (maxSteps := 2000000) -implicitDefEqProofs only [zz, ↓reduceIte, f7, f9]
        first | refine acall_flat' (hmy) rfl ?_ | refine dcall_flat' (hmy) rfl ?_ | refine acall_ice' (hmy) ?_ | refine dcall_still' (hmy) rfl ?_
        try simp (maxSteps := 2000000) -implicitDefEqProofs only [zz, evop, ev, tget, tput, ok, V.isUndef, guardOf, Ch.on, calleeOf, withArgs, ↓reduceIte, Nat.reduceLT]
        refine acall_flat' (c_awake12) rfl ?_
        try simp (maxSteps := 2000000) -implicitDefEqProofs only [zz, evop, ev, tget, tput, ok, V.isUndef, Ch.on, xport, resOf, resV, resVs, ↓reduceIte, Nat.reduceLT, Nat.reduceEqDiff]
      · have f0 : (z.1.phase == 3) = false := by simp; omega
        have f1 : (z.1.phase == 4) = true := by simp; omega
        simp (maxSteps := 2000000) -implicitDefEqProofs only [zz, zE, evop, ev, ofVal, tget, tput, ok, V.isUndef, intBin, guardOf, Ch.on, calleeOf, withArgs, told, hget, structAt, Blk.width, ↓reduceIte, reduceCtorEq, Nat.reduceLT, Nat.reduceEqDiff, Nat.reduceAdd, Nat.reduceLeDiff, nilTest, h', bC, bW, f0, f1]
        first | refine acall_flat' (hd) rfl ?_ | refine dcall_flat' (hd) rfl ?_ | refine acall_ice' (hd) ?_ | refine dcall_still' (hd) rfl ?_
        try simp (maxSteps := 2000000) -implicitDefEqProofs only [zz, zE, evop, ev, ofVal, tget, tput, ok, V.isUndef, intBin, guardOf, Ch.on, calleeOf, withArgs, told, xport, tids, tidss, hget, hput, freeze, V.cells, V.one, structAt, sliceOf, Blk.width, lenOf, splice, resOf, resV, resVs, ↓reduceIte, reduceCtorEq, Nat.reduceLT, Nat.reduceEqDiff, Nat.reduceAdd, Nat.reduceLeDiff, nilTest]
        have y5 : y.1.phase = 5 := hC.2 (by unfold lateP; omega)
        have f7 : (y.1.phase == 5) = true := by simp; omega
        have f9 : (y.1.phase != 6) = true := by simp; omega
        have f8 : (true != true) = false := rfl
        have hmy := c_commit_Right y.2
        rw [hB.may (by omega)] at hmy
        unfold dWl at hmy
        simp (maxSteps := 2000000) -implicitDefEqProofs only [zz, ↓reduceIte, f7, f9]
        first | refine acall_flat' (hmy) rfl ?_ | refine dcall_flat' (hmy) rfl ?_ | refine acall_ice' (hmy) ?_ | refine dcall_still' (hmy) rfl ?_
        try simp (maxSteps := 2000000) -implicitDefEqProofs only [zz, evop, ev, tget, tput, ok, V.isUndef, guardOf, Ch.on, calleeOf, withArgs, ↓reduceIte, Nat.reduceLT]
        refine acall_flat' (c_awake12) rfl ?_
        try simp (maxSteps := 2000000) -implicitDefEqProofs only [zz, evop, ev, tget, tput, ok, V.isUndef, Ch.on, xport, resOf, resV, resVs, ↓reduceIte, Nat.reduceLT, Nat.reduceEqDiff]
      · have f0 : (z.1.phase == 3) = false := by simp; omega
        have f1 : (z.1.phase == 4) = false := by simp; omega
        have f2 : (z.1.phase == 5) = true := by simp; omega
        simp (maxSteps := 2000000) -implicitDefEqProofs only [zz, zE, evop, ev, ofVal, tget, tput, ok, V.isUndef, intBin, guardOf, Ch.on, calleeOf, withArgs, told, hget, structAt, Blk.width, ↓reduceIte, reduceCtorEq, Nat.reduceLT, Nat.reduceEqDiff, Nat.reduceAdd, Nat.reduceLeDiff, nilTest, h', bC, bW, f0, f1, f2]
        first | refine acall_flat' (hd) rfl ?_ | refine dcall_flat' (hd) rfl ?_ | refine acall_ice' (hd) ?_ | refine dcall_still' (hd) rfl ?_
        try simp (maxSteps := 2000000) -implicitDefEqProofs only [zz, zE, evop, ev, ofVal, tget, tput, ok, V.isUndef, intBin, guardOf, Ch.on, calleeOf, withArgs, told, xport, tids, tidss, hget, hput, freeze, V.cells, V.one, structAt, sliceOf, Blk.width, lenOf, splice, resOf, resV, resVs, ↓reduceIte, reduceCtorEq, Nat.reduceLT, Nat.reduceEqDiff, Nat.reduceAdd, Nat.reduceLeDiff, nilTest]
        have y5 : y.1.phase = 5 := hC.2 (by unfold lateP; omega)
        have f7 : (y.1.phase == 5) = true := by simp; omega
        have f9 : (y.1.phase != 6) = true := by simp; omega
        have f8 : (true != true) = false := rfl
        have hmy := c_commit_Right y.2
        rw [hB.may (by omega)] at hmy
        unfold dWl at hmy
        simp (maxSteps := 2000000) -implicitDefEqProofs only [zz, ↓reduceIte, f7, f9]
        first | refine acall_flat' (hmy) rfl ?_ | refine dcall_flat' (hmy) rfl ?_ | refine acall_ice' (hmy) ?_ | refine dcall_still' (hmy) rfl ?_
        try simp (maxSteps := 2000000) -implicitDefEqProofs only [zz, evop, ev, tget, tput, ok, V.isUndef, guardOf, Ch.on, calleeOf, withArgs, ↓reduceIte, Nat.reduceLT]
        refine acall_flat' (c_awake12) rfl ?_
        try simp (maxSteps := 2000000) -implicitDefEqProofs only [zz, evop, ev, tget, tput, ok, V.isUndef, Ch.on, xport, resOf, resV, resVs, ↓reduceIte, Nat.reduceLT, Nat.reduceEqDiff]
      · have f0 : (z.1.phase == 3) = false := by simp; omega
        have f1 : (z.1.phase == 4) = false := by simp; omega
        have f2 : (z.1.phase == 5) = false := by simp; omega
        simp (maxSteps := 2000000) -implicitDefEqProofs only [zz, zE, evop, ev, ofVal, tget, tput, ok, V.isUndef, intBin, guardOf, Ch.on, calleeOf, withArgs, told, hget, structAt, Blk.width, ↓reduceIte, reduceCtorEq, Nat.reduceLT, Nat.reduceEqDiff, Nat.reduceAdd, Nat.reduceLeDiff, nilTest, h', bC, bW, f0, f1, f2]
        first | refine acall_flat' (hd) rfl ?_ | refine dcall_flat' (hd) rfl ?_ | refine acall_ice' (hd) ?_ | refine dcall_still' (hd) rfl ?_
        try simp (maxSteps := 2000000) -implicitDefEqProofs only [zz, zE, evop, ev, ofVal, tget, tput, ok, V.isUndef, intBin, guardOf, Ch.on, calleeOf, withArgs, told, xport, tids, tidss, hget, hput, freeze, V.cells, V.one, structAt, sliceOf, Blk.width, lenOf, splice, resOf, resV, resVs, ↓reduceIte, reduceCtorEq, Nat.reduceLT, Nat.reduceEqDiff, Nat.reduceAdd, Nat.reduceLeDiff, nilTest]
        have y5 : y.1.phase ≠ 5 := fun g => by have := hC.1 g; unfold lateP at this; omega
        have f7 : (y.1.phase == 5) = false := by simp; omega
        have f8 : (false != false) = false := rfl
        by_cases h6 : y.1.phase = 6
        · have f9 : (y.1.phase != 6) = false := by simp; omega
          obtain ⟨o1, o2, o3, o4, o5, o6⟩ := hB.out h6
          have hs2 := c_r02_Same y.2.heap w.heap (by rw [o2]; omega) (by omega)
          have hs3 := c_r03_Same y.2.tab w.tab (by rw [o1]; omega) (by omega)
          rw [decide_eq_true o2] at hs2
          rw [decide_eq_true o1] at hs3
          have q1 : ((y.2.tab.length : Int) != (w.tab.length : Int)) = false := by rw [o1]; simp
          have q2 : ¬ (y.2.clock < w.clock) := by omega
          have q3 : ¬ (y.2.clock > w.clock + 1) := by omega
          have q4 : (y.1.version == 0) = true := by simpa using o5
          have q5 : (y.1.err != 0) = true := by simpa using o6
          simp (maxSteps := 2000000) -implicitDefEqProofs only [zz, ↓reduceIte, f7, f9, q1]
          first | refine acall_flat' (hs2) rfl ?_ | refine dcall_flat' (hs2) rfl ?_ | refine acall_ice' (hs2) ?_ | refine dcall_still' (hs2) rfl ?_
          try simp (maxSteps := 2000000) -implicitDefEqProofs only [zz, zE, evop, ev, ofVal, tget, tput, ok, V.isUndef, intBin, guardOf, Ch.on, calleeOf, withArgs, told, xport, hget, structAt, Blk.width, resOf, resV, resVs, ↓reduceIte, reduceCtorEq, Nat.reduceLT, Nat.reduceEqDiff, Nat.reduceAdd, nilTest]
          simp (maxSteps := 2000000) -implicitDefEqProofs only [zz, ↓reduceIte, q2, hwc, q3]
          first | refine acall_flat' (hs3) rfl ?_ | refine dcall_flat' (hs3) rfl ?_ | refine acall_ice' (hs3) ?_ | refine dcall_still' (hs3) rfl ?_
          try simp (maxSteps := 2000000) -implicitDefEqProofs only [zz, zE, evop, ev, ofVal, tget, tput, ok, V.isUndef, intBin, guardOf, Ch.on, calleeOf, withArgs, xport, hget, structAt, Blk.width, resOf, resV, resVs, ↓reduceIte, reduceCtorEq, Nat.reduceLT, Nat.reduceEqDiff, Nat.reduceAdd, nilTest]
          simp (maxSteps := 2000000) -implicitDefEqProofs only [↓reduceIte, q4, q5]
          refine acall_flat' (c_awake12) rfl ?_
          try simp (maxSteps := 2000000) -implicitDefEqProofs only [zz, evop, ev, tget, tput, ok, V.isUndef, Ch.on, xport, resOf, resV, resVs, ↓reduceIte, Nat.reduceLT, Nat.reduceEqDiff]
        · have f9 : (y.1.phase != 6) = true := by simp; omega
          have hmy := c_commit_Right y.2
          rw [hB.may h6] at hmy
          unfold dWl at hmy
          simp (maxSteps := 2000000) -implicitDefEqProofs only [zz, ↓reduceIte, f7, f9]
          first | refine acall_flat' (hmy) rfl ?_ | refine dcall_flat' (hmy) rfl ?_ | refine acall_ice' (hmy) ?_ | refine dcall_still' (hmy) rfl ?_
          try simp (maxSteps := 2000000) -implicitDefEqProofs only [zz, evop, ev, tget, tput, ok, V.isUndef, guardOf, Ch.on, calleeOf, withArgs, ↓reduceIte, Nat.reduceLT]
          refine acall_flat' (c_awake12) rfl ?_
          try simp (maxSteps := 2000000) -implicitDefEqProofs only [zz, evop, ev, tget, tput, ok, V.isUndef, Ch.on, xport, resOf, resV, resVs, ↓reduceIte, Nat.reduceLT, Nat.reduceEqDiff]
  have h' : ((i : Int) < (kk : Int)) := by omega
  obtain ⟨k1, k2, k3⟩ := itC_keeps (c0, w) i
  have hst := c_commit_Step (itC i (c0, w)).1 (itC i (c0, w)).2 ⟨by rw [k1]; exact g1.well.log, by rw [k1]; exact g1.well.reads⟩
  have hnx : itC (i + 1) (c0, w) = cmStep (itC i (c0, w)).1 (itC i (c0, w)).2 := rfl
  have hsk := itC_stuck (z := (c0, w)) (i := i)
  rw [← hnx] at hst
  cases hmc : mayC (itC i (c0, w)).1 (itC i (c0, w)).2 with
  | false =>
    have e := hsk hmc kk (by omega)
    rw [hmc, if_neg (by decide)] at hst
    rw [← e] at hst ⊢
    generalize itC (i + 1) (c0, w) = z1 at hst
    obtain ⟨hA, hB, hC⟩ := hall kk
    obtain ⟨k1, k2, k3⟩ := itC_keeps (c0, w) kk
    have hzo : CmOk (itC kk (c0, w)).1 := ⟨by rw [k1]; exact g1.well.log, by rw [k1]; exact g1.well.reads⟩
    generalize itC kk (c0, w) = z at hA hB hC k1 k2 k3 hzo hst ⊢
    have hwc : IntKind.i64.wrap (w.clock + 1) = w.clock + 1 := by
      have := (mayW_iff.1 hm).2.2
      rw [wrap_in (by omega)]
    unfold dCm cmC dWl at hst
    simp (maxSteps := 2000000) -implicitDefEqProofs only [zz, zE, evop, ev, tget, tput, ok, intBin, Ch.on, calleeOf, withArgs, told, hget, ↓reduceIte, Nat.reduceLT, Nat.reduceEqDiff, Nat.reduceAdd, Nat.reduceLeDiff, nilTest, h', bC, bW]
    first | refine acall_flat' (hst) rfl ?_ | refine dcall_flat' (hst) rfl ?_ | refine acall_ice' (hst) ?_ | refine dcall_still' (hst) rfl ?_
    try simp (maxSteps := 2000000) -implicitDefEqProofs only [zz, zE, evop, ev, ofVal, tget, tput, ok, V.isUndef, intBin, guardOf, Ch.on, calleeOf, withArgs, told, xport, tids, tidss, hget, hput, freeze, V.cells, V.one, structAt, sliceOf, Blk.width, lenOf, splice, resOf, resV, resVs, ↓reduceIte, reduceCtorEq, Nat.reduceLT, Nat.reduceEqDiff, Nat.reduceAdd, Nat.reduceLeDiff, nilTest]
    simp (maxSteps := 2000000) -implicitDefEqProofs only [↓reduceIte, e10]
    cases drop with
    | false =>
      have hph : z.1.phase = 3 ∨ z.1.phase = 4 ∨ z.1.phase = 5 ∨ (z.1.phase ≠ 3 ∧ z.1.phase ≠ 4 ∧ z.1.phase ≠ 5) := by omega
      rcases hph with h | h | h | ⟨h3, h4, h5⟩
      · have f0 : (z.1.phase == 3) = true := by simp; omega
        have f9 : (z.1.phase != 6) = true := by simp; omega
        have hmy := c_commit_Right z.2
        rw [hA.may (by omega)] at hmy
        unfold dWl at hmy
        simp (maxSteps := 2000000) -implicitDefEqProofs only [zz, ↓reduceIte, f0, f9]
        first | refine acall_flat' (hmy) rfl ?_ | refine dcall_flat' (hmy) rfl ?_ | refine acall_ice' (hmy) ?_ | refine dcall_still' (hmy) rfl ?_
        try simp (maxSteps := 2000000) -implicitDefEqProofs only [zz, evop, ev, tget, tput, ok, V.isUndef, guardOf, Ch.on, calleeOf, withArgs, ↓reduceIte, Nat.reduceLT]
        refine acall_flat' (c_awake12) rfl ?_
        try simp (maxSteps := 2000000) -implicitDefEqProofs only [zz, evop, ev, tget, tput, ok, V.isUndef, Ch.on, xport, resOf, resV, resVs, ↓reduceIte, Nat.reduceLT, Nat.reduceEqDiff]
      · have f0 : (z.1.phase == 3) = false := by simp; omega
        have f1 : (z.1.phase == 4) = true := by simp; omega
        have f9 : (z.1.phase != 6) = true := by simp; omega
        have hmy := c_commit_Right z.2
        rw [hA.may (by omega)] at hmy
        unfold dWl at hmy
        simp (maxSteps := 2000000) -implicitDefEqProofs only [zz, ↓reduceIte, f0, f1, f9]
        first | refine acall_flat' (hmy) rfl ?_ | refine dcall_flat' (hmy) rfl ?_ | refine acall_ice' (hmy) ?_ | refine dcall_still' (hmy) rfl ?_
        try simp (maxSteps := 2000000) -implicitDefEqProofs only [zz, evop, ev, tget, tput, ok, V.isUndef, guardOf, Ch.on, calleeOf, withArgs, ↓reduceIte, Nat.reduceLT]
        refine acall_flat' (c_awake12) rfl ?_
        try simp (maxSteps := 2000000) -implicitDefEqProofs only [zz, evop, ev, tget, tput, ok, V.isUndef, Ch.on, xport, resOf, resV, resVs, ↓reduceIte, Nat.reduceLT, Nat.reduceEqDiff]
      · have f0 : (z.1.phase == 3) = false := by simp; omega
        have f1 : (z.1.phase == 4) = false := by simp; omega
        have f2 : (z.1.phase == 5) = true := by simp; omega
        have f9 : (z.1.phase != 6) = true := by simp; omega
        have hmy := c_commit_Right z.2
        rw [hA.may (by omega)] at hmy
        unfold dWl at hmy
        simp (maxSteps := 2000000) -implicitDefEqProofs only [zz, ↓reduceIte, f0, f1, f2, f9]
        first | refine acall_flat' (hmy) rfl ?_ | refine dcall_flat' (hmy) rfl ?_ | refine acall_ice' (hmy) ?_ | refine dcall_still' (hmy) rfl ?_
        try simp (maxSteps := 2000000) -implicitDefEqProofs only [zz, evop, ev, tget, tput, ok, V.isUndef, guardOf, Ch.on, calleeOf, withArgs, ↓reduceIte, Nat.reduceLT]
        refine acall_flat' (c_awake12) rfl ?_
        try simp (maxSteps := 2000000) -implicitDefEqProofs only [zz, evop, ev, tget, tput, ok, V.isUndef, Ch.on, xport, resOf, resV, resVs, ↓reduceIte, Nat.reduceLT, Nat.reduceEqDiff]
      · have f0 : (z.1.phase == 3) = false := by simp; omega
        have f1 : (z.1.phase == 4) = false := by simp; omega
        have f2 : (z.1.phase == 5) = false := by simp; omega
        by_cases h6 : z.1.phase = 6
        · have f9 : (z.1.phase != 6) = false := by simp; omega
          obtain ⟨o1, o2, o3, o4, o5, o6⟩ := hA.out h6
          have hs2 := c_r02_Same z.2.heap w.heap (by rw [o2]; omega) (by omega)
          have hs3 := c_r03_Same z.2.tab w.tab (by rw [o1]; omega) (by omega)
          rw [decide_eq_true o2] at hs2
          rw [decide_eq_true o1] at hs3
          have q1 : ((z.2.tab.length : Int) != (w.tab.length : Int)) = false := by rw [o1]; simp
          have q2 : ¬ (z.2.clock < w.clock) := by omega
          have q3 : ¬ (z.2.clock > w.clock + 1) := by omega
          have q4 : (z.1.version == 0) = true := by simpa using o5
          have q5 : (z.1.err != 0) = true := by simpa using o6
          simp (maxSteps := 2000000) -implicitDefEqProofs only [zz, ↓reduceIte, f0, f1, f2, f9, q1]
          first | refine acall_flat' (hs2) rfl ?_ | refine dcall_flat' (hs2) rfl ?_ | refine acall_ice' (hs2) ?_ | refine dcall_still' (hs2) rfl ?_
          try simp (maxSteps := 2000000) -implicitDefEqProofs only [zz, zE, evop, ev, ofVal, tget, tput, ok, V.isUndef, intBin, guardOf, Ch.on, calleeOf, withArgs, told, xport, hget, structAt, Blk.width, resOf, resV, resVs, ↓reduceIte, reduceCtorEq, Nat.reduceLT, Nat.reduceEqDiff, Nat.reduceAdd, nilTest]
          simp (maxSteps := 2000000) -implicitDefEqProofs only [zz, ↓reduceIte, q2, hwc, q3]
          first | refine acall_flat' (hs3) rfl ?_ | refine dcall_flat' (hs3) rfl ?_ | refine acall_ice' (hs3) ?_ | refine dcall_still' (hs3) rfl ?_
          try simp (maxSteps := 2000000) -implicitDefEqProofs only [zz, zE, evop, ev, ofVal, tget, tput, ok, V.isUndef, intBin, guardOf, Ch.on, calleeOf, withArgs, xport, hget, structAt, Blk.width, resOf, resV, resVs, ↓reduceIte, reduceCtorEq, Nat.reduceLT, Nat.reduceEqDiff, Nat.reduceAdd, nilTest]
          simp (maxSteps := 2000000) -implicitDefEqProofs only [↓reduceIte, q4, q5]
          refine acall_flat' (c_awake12) rfl ?_
          try simp (maxSteps := 2000000) -implicitDefEqProofs only [zz, evop, ev, tget, tput, ok, V.isUndef, Ch.on, xport, resOf, resV, resVs, ↓reduceIte, Nat.reduceLT, Nat.reduceEqDiff]
        · have f9 : (z.1.phase != 6) = true := by simp; omega
          have hmy := c_commit_Right z.2
          rw [hA.may h6] at hmy
          unfold dWl at hmy
          simp (maxSteps := 2000000) -implicitDefEqProofs only [zz, ↓reduceIte, f0, f1, f2, f9]
          first | refine acall_flat' (hmy) rfl ?_ | refine dcall_flat' (hmy) rfl ?_ | refine acall_ice' (hmy) ?_ | refine dcall_still' (hmy) rfl ?_
          try simp (maxSteps := 2000000) -implicitDefEqProofs only [zz, evop, ev, tget, tput, ok, V.isUndef, guardOf, Ch.on, calleeOf, withArgs, ↓reduceIte, Nat.reduceLT]
          refine acall_flat' (c_awake12) rfl ?_
          try simp (maxSteps := 2000000) -implicitDefEqProofs only [zz, evop, ev, tget, tput, ok, V.isUndef, Ch.on, xport, resOf, resV, resVs, ↓reduceIte, Nat.reduceLT, Nat.reduceEqDiff]
    | true =>
      have hd := c_commit_Drop z.1 z.2 hzo
      generalize dropC z.1 z.2 = y at hd hB hC
      unfold dCm cmC dWl at hd
      have hph : z.1.phase = 3 ∨ z.1.phase = 4 ∨ z.1.phase = 5 ∨ (z.1.phase ≠ 3 ∧ z.1.phase ≠ 4 ∧ z.1.phase ≠ 5) := by omega
      rcases hph with h | h | h | ⟨h3, h4, h5⟩
      · have f0 : (z.1.phase == 3) = true := by simp; omega
        simp (maxSteps := 2000000) -implicitDefEqProofs only [zz, ↓reduceIte, f0]
        first | refine acall_flat' (hd) rfl ?_ | refine dcall_flat' (hd) rfl ?_ | refine acall_ice' (hd) ?_ | refine dcall_still' (hd) rfl ?_
        try simp (maxSteps := 2000000) -implicitDefEqProofs only [zz, zE, evop, ev, ofVal, tget, tput, ok, V.isUndef, intBin, guardOf, Ch.on, calleeOf, withArgs, told, xport, tids, tidss, hget, hput, freeze, V.cells, V.one, structAt, sliceOf, Blk.width, lenOf, splice, resOf, resV, resVs, ↓reduceIte, reduceCtorEq, Nat.reduceLT, Nat.reduceEqDiff, Nat.reduceAdd, Nat.reduceLeDiff, nilTest]
        have y5 : y.1.phase = 5 := hC.2 (by unfold lateP; omega)
        have f7 : (y.1.phase == 5) = true := by simp; omega
        have f9 : (y.1.phase != 6) = true := by simp; omega
        have f8 : (true != true) = false := rfl
        have hmy := c_commit_Right y.2
        rw [hB.may (by omega)] at hmy
        unfold dWl at hmy
        simp (maxSteps := 2000000) -implicitDefEqProofs only [zz, ↓reduceIte, f7, f9]
        first | refine acall_flat' (hmy) rfl ?_ | refine dcall_flat' (hmy) rfl ?_ | refine acall_ice' (hmy) ?_ | refine dcall_still' (hmy) rfl ?_
        try simp (maxSteps := 2000000) -implicitDefEqProofs only [zz, evop, ev, tget, tput, ok, V.isUndef, guardOf, Ch.on, calleeOf, withArgs, ↓reduceIte, Nat.reduceLT]
        refine acall_flat' (c_awake12) rfl ?_
        try simp (maxSteps := 2000000) -implicitDefEqProofs only [zz, evop, ev, tget, tput, ok, V.isUndef, Ch.on, xport, resOf, resV, resVs, ↓reduceIte, Nat.reduceLT, Nat.reduceEqDiff]
      · have f0 : (z.1.phase == 3) = false := by simp; omega
        have f1 : (z.1.phase == 4) = true := by simp; omega
        simp (maxSteps := 2000000) -implicitDefEqProofs only [zz, ↓reduceIte, f0, f1]
        first | refine acall_flat' (hd) rfl ?_ | refine dcall_flat' (hd) rfl ?_ | refine acall_ice' (hd) ?_ | refine dcall_still' (hd) rfl ?_
        try simp (maxSteps := 2000000) -implicitDefEqProofs only [zz, zE, evop, ev, ofVal, tget, tput, ok, V.isUndef, intBin, guardOf, Ch.on, calleeOf, withArgs, told, xport, tids, tidss, hget, hput, freeze, V.cells, V.one, structAt, sliceOf, Blk.width, lenOf, splice, resOf, resV, resVs, ↓reduceIte, reduceCtorEq, Nat.reduceLT, Nat.reduceEqDiff, Nat.reduceAdd, Nat.reduceLeDiff, nilTest]
        have y5 : y.1.phase = 5 := hC.2 (by unfold lateP; omega)
        have f7 : (y.1.phase == 5) = true := by simp; omega
        have f9 : (y.1.phase != 6) = true := by simp; omega
        have f8 : (true != true) = false := rfl
        have hmy := c_commit_Right y.2
        rw [hB.may (by omega)] at hmy
        unfold dWl at hmy
        simp (maxSteps := 2000000) -implicitDefEqProofs only [zz, ↓reduceIte, f7, f9]
        first | refine acall_flat' (hmy) rfl ?_ | refine dcall_flat' (hmy) rfl ?_ | refine acall_ice' (hmy) ?_ | refine dcall_still' (hmy) rfl ?_
        try simp (maxSteps := 2000000) -implicitDefEqProofs only [zz, evop, ev, tget, tput, ok, V.isUndef, guardOf, Ch.on, calleeOf, withArgs, ↓reduceIte, Nat.reduceLT]
        refine acall_flat' (c_awake12) rfl ?_
        try simp (maxSteps := 2000000) -implicitDefEqProofs only [zz, evop, ev, tget, tput, ok, V.isUndef, Ch.on, xport, resOf, resV, resVs, ↓reduceIte, Nat.reduceLT, Nat.reduceEqDiff]
      · have f0 : (z.1.phase == 3) = false := by simp; omega
        have f1 : (z.1.phase == 4) = false := by simp; omega
        have f2 : (z.1.phase == 5) = true := by simp; omega
        simp (maxSteps := 2000000) -implicitDefEqProofs only [↓reduceIte, f0, f1, f2]
        first | refine acall_flat' (hd) rfl ?_ | refine dcall_flat' (hd) rfl ?_ | refine acall_ice' (hd) ?_ | refine dcall_still' (hd) rfl ?_
        try simp (maxSteps := 2000000) -implicitDefEqProofs only [zz, zE, evop, ev, ofVal, tget, tput, ok, V.isUndef, intBin, guardOf, Ch.on, calleeOf, withArgs, told, xport, tids, tidss, hget, hput, freeze, V.cells, V.one, structAt, sliceOf, Blk.width, lenOf, splice, resOf, resV, resVs, ↓reduceIte, reduceCtorEq, Nat.reduceLT, Nat.reduceEqDiff, Nat.reduceAdd, Nat.reduceLeDiff, nilTest]
        have y5 : y.1.phase = 5 := hC.2 (by unfold lateP; omega)
        have f7 : (y.1.phase == 5) = true := by simp; omega
        have f9 : (y.1.phase != 6) = true := by simp; omega
        have f8 : (true != true) = false := rfl
        have hmy := c_commit_Right y.2
        rw [hB.may (by omega)] at hmy
        unfold dWl at hmy
        simp (maxSteps := 2000000) -implicitDefEqProofs only [zz, ↓reduceIte, f7, f9]
        first | refine acall_flat' (hmy) rfl ?_ | refine dcall_flat' (hmy) rfl ?_ | refine acall_ice' (hmy) ?_ | refine dcall_still' (hmy) rfl ?_
        try simp (maxSteps := 2000000) -implicitDefEqProofs only [zz, evop, ev, tget, tput, ok, V.isUndef, guardOf, Ch.on, calleeOf, withArgs, ↓reduceIte, Nat.reduceLT]
        refine acall_flat' (c_awake12) rfl ?_
        try simp (maxSteps := 2000000) -implicitDefEqProofs only [zz, evop, ev, tget, tput, ok, V.isUndef, Ch.on, xport, resOf, resV, resVs, ↓reduceIte, Nat.reduceLT, Nat.reduceEqDiff]
      · have f0 : (z.1.phase == 3) = false := by simp; omega
        have f1 : (z.1.phase == 4) = false := by simp; omega
        have f2 : (z.1.phase == 5) = false := by simp; omega
        simp (maxSteps := 2000000) -implicitDefEqProofs only [↓reduceIte, f0, f1, f2]
        first | refine acall_flat' (hd) rfl ?_ | refine dcall_flat' (hd) rfl ?_ | refine acall_ice' (hd) ?_ | refine dcall_still' (hd) rfl ?_
        try simp (maxSteps := 2000000) -implicitDefEqProofs only [zz, zE, evop, ev, ofVal, tget, tput, ok, V.isUndef, intBin, guardOf, Ch.on, calleeOf, withArgs, told, xport, tids, tidss, hget, hput, freeze, V.cells, V.one, structAt, sliceOf, Blk.width, lenOf, splice, resOf, resV, resVs, ↓reduceIte, reduceCtorEq, Nat.reduceLT, Nat.reduceEqDiff, Nat.reduceAdd, Nat.reduceLeDiff, nilTest]
        have y5 : y.1.phase ≠ 5 := fun g => by have := hC.1 g; unfold lateP at this; omega
        have f7 : (y.1.phase == 5) = false := by simp; omega
        have f8 : (false != false) = false := rfl
        by_cases h6 : y.1.phase = 6
        · have f9 : (y.1.phase != 6) = false := by simp; omega
          obtain ⟨o1, o2, o3, o4, o5, o6⟩ := hB.out h6
          have hs2 := c_r02_Same y.2.heap w.heap (by rw [o2]; omega) (by omega)
          have hs3 := c_r03_Same y.2.tab w.tab (by rw [o1]; omega) (by omega)
          rw [decide_eq_true o2] at hs2
          rw [decide_eq_true o1] at hs3
          have q1 : ((y.2.tab.length : Int) != (w.tab.length : Int)) = false := by rw [o1]; simp
          have q2 : ¬ (y.2.clock < w.clock) := by omega
          have q3 : ¬ (y.2.clock > w.clock + 1) := by omega
          have q4 : (y.1.version == 0) = true := by simpa using o5
          have q5 : (y.1.err != 0) = true := by simpa using o6
          simp (maxSteps := 2000000) -implicitDefEqProofs only [zz, ↓reduceIte, f7, f9, q1]
          first | refine acall_flat' (hs2) rfl ?_ | refine dcall_flat' (hs2) rfl ?_ | refine acall_ice' (hs2) ?_ | refine dcall_still' (hs2) rfl ?_
          try simp (maxSteps := 2000000) -implicitDefEqProofs only [zz, zE, evop, ev, ofVal, tget, tput, ok, V.isUndef, intBin, guardOf, Ch.on, calleeOf, withArgs, told, xport, hget, structAt, Blk.width, resOf, resV, resVs, ↓reduceIte, reduceCtorEq, Nat.reduceLT, Nat.reduceEqDiff, Nat.reduceAdd, nilTest]
          simp (maxSteps := 2000000) -implicitDefEqProofs only [zz, ↓reduceIte, q2, hwc, q3]
          first | refine acall_flat' (hs3) rfl ?_ | refine dcall_flat' (hs3) rfl ?_ | refine acall_ice' (hs3) ?_ | refine dcall_still' (hs3) rfl ?_
          try simp (maxSteps := 2000000) -implicitDefEqProofs only [zz, zE, evop, ev, ofVal, tget, tput, ok, V.isUndef, intBin, guardOf, Ch.on, calleeOf, withArgs, xport, hget, structAt, Blk.width, resOf, resV, resVs, ↓reduceIte, reduceCtorEq, Nat.reduceLT, Nat.reduceEqDiff, Nat.reduceAdd, nilTest]
          simp (maxSteps := 2000000) -implicitDefEqProofs only [↓reduceIte, q4, q5]
          refine acall_flat' (c_awake12) rfl ?_
          try simp (maxSteps := 2000000) -implicitDefEqProofs only [zz, evop, ev, tget, tput, ok, V.isUndef, Ch.on, xport, resOf, resV, resVs, ↓reduceIte, Nat.reduceLT, Nat.reduceEqDiff]
        · have f9 : (y.1.phase != 6) = true := by simp; omega
          have hmy := c_commit_Right y.2
          rw [hB.may h6] at hmy
          unfold dWl at hmy
          simp (maxSteps := 2000000) -implicitDefEqProofs only [zz, ↓reduceIte, f7, f9]
          first | refine acall_flat' (hmy) rfl ?_ | refine dcall_flat' (hmy) rfl ?_ | refine acall_ice' (hmy) ?_ | refine dcall_still' (hmy) rfl ?_
          try simp (maxSteps := 2000000) -implicitDefEqProofs only [zz, evop, ev, tget, tput, ok, V.isUndef, guardOf, Ch.on, calleeOf, withArgs, ↓reduceIte, Nat.reduceLT]
          refine acall_flat' (c_awake12) rfl ?_
          try simp (maxSteps := 2000000) -implicitDefEqProofs only [zz, evop, ev, tget, tput, ok, V.isUndef, Ch.on, xport, resOf, resV, resVs, ↓reduceIte, Nat.reduceLT, Nat.reduceEqDiff]
  | true =>
    rw [hmc, if_pos rfl] at hst
    have hi1 : i + 1 ≤ kk := by omega
    generalize hZ1 : itC (i + 1) (c0, w) = z1 at hst
    generalize itC i (c0, w) = z at hst
    unfold dCm cmC dWl at hst
    simp (maxSteps := 2000000) -implicitDefEqProofs only [zz, zE, evop, ev, tget, tput, ok, intBin, Ch.on, calleeOf, withArgs, told, hget, ↓reduceIte, Nat.reduceLT, Nat.reduceEqDiff, Nat.reduceAdd, Nat.reduceLeDiff, nilTest, h', bC, bW]
    first | refine acall_flat' (hst) rfl ?_ | refine dcall_flat' (hst) rfl ?_ | refine acall_ice' (hst) ?_ | refine dcall_still' (hst) rfl ?_
    try simp (maxSteps := 2000000) -implicitDefEqProofs only [zz, zE, evop, ev, ofVal, tget, tput, ok, V.isUndef, intBin, Ch.on, told, tids, tidss, hget, hput, freeze, V.cells, V.one, splice, ↓reduceIte, Nat.reduceLT, Nat.reduceEqDiff, Nat.reduceAdd, Nat.reduceLeDiff, nilTest]
    try skip
    refine wdraw_weak (Weak.sealed (T' := [(67, .d (.int .u8 i)), (66, .d (.int .u8 kk)), (5, .d (.bool drop)), (9, .ptr 0 0 0), (15, .ptr 2 0 0), (17, .ptr 3 0 0), (18, .d (.imm (dCm z1.1) 0)), (19, .d (.imm (dWl z1.2) 0))]) [4, 5] (by simp [tget, sealF, xport, xports, tids, tidss, hget, dCm, cmC, dWl])) [⟨[], false, [79], [], false⟩, ⟨[], false, [78, 79], [0], true⟩, ⟨[0], true, [79], [], false⟩, ⟨[0, 1, 2], true, [], [], false⟩] (by decide) ?_
    simp only [sealH, AM.freeze, hput, hget, Blk.ice, List.map_cons, List.map_nil, sealB, sealF, List.mem_cons, dCm, cmC, dWl, bT]
    simp (maxSteps := 2000000) -implicitDefEqProofs only [zz, zE, evop, ev, ofVal, tget, tput, ok, V.isUndef, intBin, Ch.on, hget, hput, V.cells, D.cells, V.one, loadD, splice, ↓reduceIte, Nat.reduceLT, Nat.reduceEqDiff, Nat.reduceAdd, Nat.reduceLeDiff, nilTest, hw8]
    refine ⟨i + 1, hi1, by omega, ?_⟩
    rw [hZ1]
    exact Weak.trims 4 rfl (by simp [tget, V.lower, hw8]) (by simp [bT, bC, bW, Blk.lower, lowerL, V.lower])
end Go.Proofs.YtjhfpabldidlgaaGreat.AM

set_option linter.all false
set_option maxRecDepth 100000
namespace Go.Proofs.YtjhfpabldidlgaaGreat.AM
open Go Go.RowKit

theorem sh_bool {P : Program} {n t : Nat} {ds : List D} (ht : P.underlying t = some .bool) (h : Sh P (n + 1) t ds) : ∃ b, ds = [.bool b] := by
  simp only [Sh, ht] at h
  obtain ⟨b, rfl⟩ := h
  exact ⟨b, rfl⟩

theorem shE_C {n : Nat} {d : D} (h : ShE Tryz.prog (n + 2) 66 d) : ∃ w : Bool × Int, d = dC w ∧ True := by
  obtain ⟨ds, h1, rfl⟩ := h
  simp only [Sh, Tryz.underlying66, ShF] at h1
  obtain ⟨p, q, rfl, hp, p2, q2, rfl, hp2, rfl⟩ := h1
  obtain ⟨x, rfl⟩ := sh_bool (n := n) Tryz.underlying4 hp
  obtain ⟨y, rfl, _⟩ := sh_int (n := n) Tryz.underlying3 hp2
  exact ⟨(x, y), by simp [oneD, Tryz.underlying66, dC], trivial⟩

end Go.Proofs.YtjhfpabldidlgaaGreat.AM

set_option linter.all false
set_option maxRecDepth 100000
namespace Go.Proofs.YtjhfpabldidlgaaGreat.AM
open Go Go.RowKit

theorem shE_op {n : Nat} {d : D} (h : ShE Tryz.prog (n + 2) 118 d) : ∃ w : Int × Int, d = dW w ∧ True := by
  obtain ⟨ds, h1, rfl⟩ := h
  simp only [Sh, Tryz.underlying118, ShF] at h1
  obtain ⟨p, q, rfl, hp, p2, q2, rfl, hp2, rfl⟩ := h1
  obtain ⟨x, rfl, _⟩ := sh_int (n := n) Tryz.underlying3 hp
  obtain ⟨y, rfl, _⟩ := sh_int (n := n) Tryz.underlying3 hp2
  exact ⟨(x, y), by simp [oneD, Tryz.underlying118, dW], trivial⟩

theorem shE_St {n : Nat} {d : D} (h : ShE Tryz.prog (n + 4) 71 d) : ∃ w : St, d = dS w ∧ True := by
  obtain ⟨ds, h1, rfl⟩ := h
  simp only [Sh, Tryz.underlying71, ShF] at h1
  obtain ⟨p, q, rfl, hp, p2, q2, rfl, hp2, p3, q3, rfl, hp3, p4, q4, rfl, hp4, rfl⟩ := h1
  obtain ⟨x, rfl, _⟩ := sh_int (n := n + 2) Tryz.underlying3 (by simpa only [Sh] using hp)
  obtain ⟨y, rfl, _⟩ := sh_int (n := n + 2) Tryz.underlying3 (by simpa only [Sh] using hp2)
  obtain ⟨z, rfl, _⟩ := sh_int (n := n + 2) Tryz.underlying3 (by simpa only [Sh] using hp3)
  obtain ⟨ts, rfl, hl, _⟩ := sh_list (n := n + 2) Tryz.underlying69 (fun d h => shE_op (n := n) h) (by simpa only [Sh] using hp4)
  exact ⟨⟨x, y, z, ts⟩, by simp [oneD, Tryz.underlying71, dS], trivial⟩

theorem shE_Code {n : Nat} {d : D} (h : ShE Tryz.prog (n + 5) 22 d) : ∃ c : List St, d = .vec (c.map dS) ∧ c.length ≤ maxLen ∧ True := by
  obtain ⟨ds, h1, rfl⟩ := h
  obtain ⟨xs, rfl, hl, _⟩ := sh_list Tryz.underlying22 (fun d h => shE_St (n := n) h) h1
  exact ⟨xs, by simp [oneD, Tryz.underlying22], hl, trivial⟩

theorem shE_R {n : Nat} {d : D} (h : ShE Tryz.prog (n + 2) 68 d) : ∃ w : Int × Int, d = dW w ∧ True := by
  obtain ⟨ds, h1, rfl⟩ := h
  simp only [Sh, Tryz.underlying68, ShF] at h1
  obtain ⟨p, q, rfl, hp, p2, q2, rfl, hp2, rfl⟩ := h1
  obtain ⟨x, rfl, _⟩ := sh_int (n := n) Tryz.underlying3 hp
  obtain ⟨y, rfl, _⟩ := sh_int (n := n) Tryz.underlying3 hp2
  exact ⟨(x, y), by simp [oneD, Tryz.underlying68, dW], trivial⟩

end Go.Proofs.YtjhfpabldidlgaaGreat.AM
